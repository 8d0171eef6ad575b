/- Plain laws: means does not hang on the order of the rows; CoverOrder. -/
import Derived.Test.YtikhkcnbabpneaaAoQ4
namespace Go.Proofs.Ytikhkcnbabpneaa.P
open Go.RowKit Go.Proofs.YtikhkcnbabpneaaW.PrintWords Go.Proofs.YtikhkcnbabpneaaW.PrintLast Go.Proofs.YtikhkcnbabpneaaW.PrintMore
set_option linter.unusedVariables false
set_option linter.unusedSimpArgs false

theorem togP_nil (cons : List S61) : ∀ m, TogP cons m []
  | 0 => trivial
  | m + 1 => ⟨fun x hx => (by cases hx), fun p hp => (by cases hp)⟩
theorem togP_sub (cons : List S61) : ∀ (m : Nat) (l l' : List S25), l'.Sublist l → TogP cons m l → TogP cons m l' := by
  intro m
  induction m with
  | zero => intro _ _ _ _; trivial
  | succ m ih =>
    intro l l' hs h
    exact ⟨fun x hx y hy => h.1 x (hs.subset hx) y (hs.subset hy), fun p hp lp q hq => ih _ _ (hs.filterMap _) (h.2 p (hs.subset hp) lp q hq)⟩
/-- Patterns that mean any do not count. -/
theorem togP_tight (cons : List S61) : ∀ (m : Nat) (l l' : List S25), l.filter (fun x => !looseB x) = l'.filter (fun x => !looseB x) → TogP cons m l → TogP cons m l' := by
  intro m l l' he h
  cases m with
  | zero => trivial
  | succ m =>
    have hm : ∀ x, x ∈ l' → looseB x = false → x ∈ l := fun x hx lx => by
      have : x ∈ l'.filter (fun x => !looseB x) := List.mem_filter.2 ⟨hx, by simp [lx]⟩
      rw [← he] at this
      exact (List.mem_filter.1 this).1
    refine ⟨fun x hx y hy lx ly => h.1 x (hm x hx lx) y (hm y hy ly) lx ly, fun p hp lp q hq => ?_⟩
    rw [← parts_filter l' lp q, ← he, parts_filter l lp q]
    exact h.2 p (hm p hp lp) lp q hq
/-- A pattern's depth bounds what must be looked at. -/
theorem togP_all (cons : List S61) : ∀ (m : Nat) (l : List S25), (∀ p ∈ l, nodes p ≤ m) → TogP cons m l → ∀ k, TogP cons k l := by
  intro m
  induction m with
  | zero =>
    intro l h _ k
    cases l with
    | nil => exact togP_nil cons k
    | cons p t => have := h p (List.mem_cons_self ..); have := nodes_pos p; omega
  | succ m ih =>
    intro l h ht k
    cases k with
    | zero => trivial
    | succ k =>
      refine ⟨ht.1, fun p hp lp q hq => ih _ (fun y hy => ?_) (ht.2 p hp lp q hq) k⟩
      obtain ⟨x, hx, _, hxy⟩ := parts_mem hy
      have h1 := h x hx
      have h2 := nodes_mem (List.mem_of_getElem? hxy)
      rw [nodes_eq] at h1
      omega
def col (rows : List (List S25)) (j : Nat) : List S25 := rows.filterMap fun r => r[j]?
def Cols (cons : List S61) (n : Nat) (rows : List (List S25)) : Prop := ∀ j, j < n → ∀ m, TogP cons m (col rows j)
theorem same_loose {p h : S25} (hs : sameB p h = true) (hh : looseB h = false) : looseB p = false := by
  obtain ⟨h0, _, _⟩ := same_iff.1 hs
  unfold looseB at hh ⊢
  rw [h0]; exact hh
theorem under_col_lo {cons : List S61} {n : Nat} {h : S25} (hh : okB cons h = true) (hl : looseB h = false) {j : Nat} (hj : j < h.f5.length) : ∀ rows : List (List S25), (∀ r ∈ rows, WF cons (n + 1) r) →
    (col (underL rows h) j).filter (fun x => !looseB x) = (partsL (col rows 0) h j).filter (fun x => !looseB x)
  | [], _ => rfl
  | r :: rows, hr => by
    have ih := under_col_lo hh hl hj rows (fun x hx => hr x (List.mem_cons_of_mem _ hx))
    have hr0 := hr r (List.mem_cons_self ..)
    cases r with
    | nil => have := hr0.1; simp at this
    | cons p t =>
      have hop := hr0.2 p (List.mem_cons_self ..)
      have hc0 : col ((p :: t) :: rows) 0 = p :: col rows 0 := by simp [col]
      rw [hc0]
      cases hlo : looseB p with
      | true =>
        have hu : underL ((p :: t) :: rows) h = (List.replicate h.f5.length wildS ++ t) :: underL rows h := by simp [underL, belowO, hlo]
        have hs : sameB p h = false := by
          cases e : sameB p h with
          | false => rfl
          | true => have := same_loose e hl; rw [hlo] at this; cases this
        have hg : (List.replicate h.f5.length wildS ++ t)[j]? = some wildS := by rw [List.getElem?_append_left (by simpa using hj)]; simp [hj]
        have hc : col (underL ((p :: t) :: rows) h) j = wildS :: col (underL rows h) j := by rw [hu]; simp [col, hg]
        have hp : partsL (p :: col rows 0) h j = partsL (col rows 0) h j := by simp [partsL, hs]
        rw [hc, hp, List.filter_cons]
        have : looseB wildS = true := rfl
        simp only [this, Bool.not_true, Bool.false_eq_true, if_false]
        exact ih
      | false =>
        cases hs : sameB p h with
        | false =>
          have hu : underL ((p :: t) :: rows) h = underL rows h := by simp [underL, belowO, hlo, hs]
          have hp : partsL (p :: col rows 0) h j = partsL (col rows 0) h j := by simp [partsL, hs]
          rw [hu, hp]; exact ih
        | true =>
          have hu : underL ((p :: t) :: rows) h = (p.f5 ++ t) :: underL rows h := by simp [underL, belowO, hlo, hs]
          have hk := same_kids hop hh hs
          have hjp : j < p.f5.length := by omega
          have hg : (p.f5 ++ t)[j]? = some p.f5[j] := by rw [List.getElem?_append_left hjp, List.getElem?_eq_getElem hjp]
          have hc : col (underL ((p :: t) :: rows) h) j = p.f5[j] :: col (underL rows h) j := by rw [hu]; simp [col, hg]
          have hp : partsL (p :: col rows 0) h j = p.f5[j] :: partsL (col rows 0) h j := by simp [partsL, hs, List.getElem?_eq_getElem hjp]
          rw [hc, hp, List.filter_cons, List.filter_cons, ih]
theorem under_col_hi {cons : List S61} {n : Nat} {h : S25} (hh : okB cons h = true) (j : Nat) : ∀ rows : List (List S25), (∀ r ∈ rows, WF cons (n + 1) r) →
    (col (underL rows h) (h.f5.length + j)).Sublist (col rows (j + 1))
  | [], _ => by simp [underL, col]
  | r :: rows, hr => by
    have ih := under_col_hi hh j rows (fun x hx => hr x (List.mem_cons_of_mem _ hx))
    have hr0 := hr r (List.mem_cons_self ..)
    cases r with
    | nil => have := hr0.1; simp at this
    | cons p t =>
      have hop := hr0.2 p (List.mem_cons_self ..)
      have hcons : ∀ (r : List S25) (rs : List (List S25)) (i : Nat), col (r :: rs) i = (r[i]?).toList ++ col rs i := by
        intro r rs i
        unfold col
        rw [List.filterMap_cons]
        cases r[i]? <;> rfl
      have hu : underL ((p :: t) :: rows) h = (belowO (p :: t) h).toList ++ underL rows h := by
        unfold underL
        rw [List.filterMap_cons]
        cases belowO (p :: t) h <;> rfl
      rw [hu, hcons (p :: t) rows (j + 1), List.getElem?_cons_succ]
      cases hbo : belowO (p :: t) h with
      | none => exact List.Sublist.trans ih (List.sublist_append_right _ _)
      | some x =>
        have hx : x[h.f5.length + j]? = t[j]? := by
          cases hlo : looseB p with
          | true =>
            simp only [belowO, hlo, if_true] at hbo
            obtain rfl := Option.some.inj hbo
            rw [List.getElem?_append_right (by simp)]
            simp
          | false =>
            simp only [belowO, hlo, Bool.false_eq_true, if_false] at hbo
            split at hbo
            · next hs =>
              obtain rfl := Option.some.inj hbo
              have hk := same_kids hop hh hs
              rw [List.getElem?_append_right (by omega)]
              congr 1; omega
            · cases hbo
        show (col (x :: underL rows h) (h.f5.length + j)).Sublist _
        rw [hcons, hx]
        exact List.Sublist.append (List.Sublist.refl _) ih
theorem cols_under {cons : List S61} {n : Nat} {h : S25} (hh : okB cons h = true) (hl : looseB h = false) {rows : List (List S25)} (hr : ∀ r ∈ rows, WF cons (n + 1) r) (hC : Cols cons (n + 1) rows) : Cols cons (h.f5.length + n) (underL rows h) := by
  intro j hj m
  by_cases hlo : j < h.f5.length
  · refine togP_tight cons m _ _ (under_col_lo hh hl hlo rows hr).symm ?_
    by_cases hex : ∃ p ∈ col rows 0, sameB p h = true
    · obtain ⟨p, hp, hs⟩ := hex
      have hlp := same_loose hs hl
      have hpr : okB cons p = true := by
        obtain ⟨r, hrm, he⟩ := List.mem_filterMap.1 hp
        exact (hr r hrm).2 p (List.mem_of_getElem? he)
      have hk := same_kids hpr hh hs
      have := (hC 0 (by omega) (m + 1)).2 p hp hlp j (by omega)
      have he : partsL (col rows 0) p j = partsL (col rows 0) h j := by
        unfold partsL
        have : (fun x : S25 => if sameB x p = true then x.f5[j]? else none) = (fun x : S25 => if sameB x h = true then x.f5[j]? else none) := by
          funext x; rw [same_trans_r hs]
        rw [this]
      rw [← he]; exact this
    · have he : partsL (col rows 0) h j = [] := by
        unfold partsL
        rw [List.filterMap_eq_nil_iff]
        intro x hx
        rw [if_neg (fun hs => hex ⟨x, hx, hs⟩)]
      rw [he]; exact togP_nil cons m
  · obtain ⟨i, rfl⟩ : ∃ i, j = h.f5.length + i := ⟨j - h.f5.length, by omega⟩
    exact togP_sub cons m _ _ (under_col_hi hh i rows hr) (hC (i + 1) (by omega) m)
theorem others_col (j : Nat) : ∀ rows : List (List S25), (col (othersL rows) j).Sublist (col rows (j + 1))
  | [] => by simp [othersL, col]
  | r :: rows => by
    have ih := others_col j rows
    have hcons : ∀ (r : List S25) (rs : List (List S25)) (i : Nat), col (r :: rs) i = (r[i]?).toList ++ col rs i := by
      intro r rs i
      unfold col
      rw [List.filterMap_cons]
      cases r[i]? <;> rfl
    rw [hcons]
    cases r with
    | nil =>
      have : othersL ([] :: rows) = othersL rows := rfl
      rw [this]; exact List.Sublist.trans ih (List.sublist_append_right _ _)
    | cons p t =>
      cases hl : looseB p with
      | false =>
        have : othersL ((p :: t) :: rows) = othersL rows := by simp [othersL, tailOf?, hl]
        rw [this]; exact List.Sublist.trans ih (List.sublist_append_right _ _)
      | true =>
        have : othersL ((p :: t) :: rows) = t :: othersL rows := by simp [othersL, tailOf?, hl]
        rw [this, hcons, List.getElem?_cons_succ]
        exact List.Sublist.append (List.Sublist.refl _) ih
theorem cols_others {cons : List S61} {n : Nat} {rows : List (List S25)} (hC : Cols cons (n + 1) rows) : Cols cons n (othersL rows) :=
  fun j hj m => togP_sub cons m _ _ (others_col j rows) (hC (j + 1) (by omega) m)
theorem column_col {rows : List (List S25)} {g : S25} (h : g ∈ columnL rows) : g ∈ col rows 0 ∧ looseB g = false := by
  obtain ⟨r, hr, hg⟩ := List.mem_filterMap.1 h
  cases r with
  | nil => cases hg
  | cons p t =>
    cases hl : looseB p with
    | true => simp [headOf?, hl] at hg
    | false =>
      simp [headOf?, hl] at hg
      subst hg
      exact ⟨List.mem_filterMap.2 ⟨p :: t, hr, rfl⟩, hl⟩
theorem all_congr {α : Type} {l : List α} {f g : α → Bool} (h : ∀ x ∈ l, f x = g x) : l.all f = l.all g := by
  induction l with
  | nil => rfl
  | cons x t ih => rw [List.all_cons, List.all_cons, h x (List.mem_cons_self ..), ih fun y hy => h y (List.mem_cons_of_mem _ hy)]
theorem any_congr {α : Type} {l : List α} {f g : α → Bool} (h : ∀ x ∈ l, f x = g x) : l.any f = l.any g := by
  induction l with
  | nil => rfl
  | cons x t ih => rw [List.any_cons, List.any_cons, h x (List.mem_cons_self ..), ih fun y hy => h y (List.mem_cons_of_mem _ hy)]
theorem any_perm {α : Type} {l l' : List α} (h : l.Perm l') (f : α → Bool) : l.any f = l'.any f := by
  cases hb : l.any f with
  | true =>
    obtain ⟨x, hx, hf⟩ := List.any_eq_true.1 hb
    exact (List.any_eq_true.2 ⟨x, h.mem_iff.1 hx, hf⟩).symm
  | false =>
    cases hb' : l'.any f with
    | false => rfl
    | true =>
      obtain ⟨x, hx, hf⟩ := List.any_eq_true.1 hb'
      have := List.any_eq_true.2 ⟨x, h.mem_iff.2 hx, hf⟩
      rw [hb] at this; cases this
theorem lacks_perm {l l' : List S25} (h : l.Perm l') : lacks l = lacks l' := by
  funext c; unfold lacks; rw [any_perm h]
theorem below_wild_len {cons : List S61} {n : Nat} {t : List S25} (h : WF cons n t) (m : Nat) : WF cons (m + n) (List.replicate m wildS ++ t) :=
  ⟨by simp [h.1], fun x hx => by
    rcases List.mem_append.1 hx with hx | hx
    · exact ok_wilds cons _ x hx
    · exact h.2 x hx⟩
/-- The order of the rows is nothing to means. -/
theorem means_perm {cons : List S61} (hG : Good cons) : ∀ (k : Nat) (rows rows' : List (List S25)) (q : List S25) (n : Nat), n + 2 * k ≤ 100000 → rows.Perm rows' → (∀ r ∈ rows, WF cons n r) → WF cons n q → rows.length ≤ 1000000 → Cols cons n rows → meansF cons k rows q = meansF cons k rows' q := by
  intro k
  induction k with
  | zero => intros; rfl
  | succ k ih =>
    intro rows rows' q n hk hp hr hq hl hC
    by_cases h0 : rows = []
    · subst h0
      have : rows' = [] := List.nil_perm.1 hp
      rw [this]
    · have h0' : rows' ≠ [] := fun e => by rw [e] at hp; exact h0 (List.perm_nil.1 hp)
      have hr' : ∀ r ∈ rows', WF cons n r := fun r h => hr r (hp.mem_iff.2 h)
      have hl' : rows'.length ≤ 1000000 := by rw [← hp.length_eq]; exact hl
      cases q with
      | nil => rw [meansF_q cons k rows (List.length_pos_iff.2 h0), meansF_q cons k rows' (List.length_pos_iff.2 h0')]
      | cons p t =>
        obtain ⟨n, rfl⟩ : ∃ m, n = m + 1 := ⟨t.length, by rw [← hq.1]; rfl⟩
        have hqn : t.length = n := by have := hq.1; simpa using this
        have hop := hq.2 p (List.mem_cons_self ..)
        have hWt : WF cons n t := ⟨hqn, fun x hx => hq.2 x (List.mem_cons_of_mem _ hx)⟩
        rw [means_step hG k hr hq (by omega) hl h0, means_step hG k hr' hq (by omega) hl' h0']
        have hO := others_wf rows hr
        have hoth : meansF cons k (othersL rows) t = meansF cons k (othersL rows') t := ih _ _ _ n (by omega) (hp.filterMap _) hO.1 hWt (by omega) (cols_others hC)
        have hpc : (columnL rows).Perm (columnL rows') := hp.filterMap _
        cases hlo : looseB p with
        | false =>
          simp only [Bool.false_eq_true, if_false]
          have hU := under_wf hop rows hr
          have h2 := ok_two hG hop
          rw [below_self hlo, Option.getD_some]
          refine ih _ _ _ (p.f5.length + n) (by omega) (hp.filterMap _) hU.1 ⟨by simp [hqn], fun x hx => ?_⟩ (by omega) (cols_under hop hlo hr hC)
          rcases List.mem_append.1 hx with hx | hx
          · rcases ok_kids hop with e | e
            · rw [e] at hx; cases hx
            · exact e.2.2.2 x hx
          · exact hWt.2 x hx
        | true =>
          simp only [if_true]
          cases hc : columnL rows with
          | nil =>
            have hc' : columnL rows' = [] := by rw [hc] at hpc; exact List.nil_perm.1 hpc
            rw [hc']; exact hoth
          | cons g gs =>
            cases hc' : columnL rows' with
            | nil => rw [hc'] at hpc; have := List.perm_nil.1 hpc; rw [hc] at this; cases this
            | cons g' gs' =>
              have hg : g ∈ columnL rows := by rw [hc]; exact List.mem_cons_self ..
              have hg' : g' ∈ columnL rows := hpc.mem_iff.2 (by rw [hc']; exact List.mem_cons_self ..)
              have cg := column_col hg
              have cg' := column_col hg'
              have hun := unlike_iff.1 ((hC 0 (by omega) 1).1 g cg.1 g' cg'.1 cg.2 cg'.2)
              have hot : ofType (findC cons g'.f1).f1 = ofType (findC cons g.f1).f1 := by funext c; unfold ofType; rw [hun.2]
              have hlk : lacks (g' :: gs') = lacks (g :: gs) := by rw [hc, hc'] at hpc; exact (lacks_perm hpc).symm
              simp only [hun.1, hot, hlk]
              have hsame : ∀ c ∈ cons.filter (ofType (findC cons g.f1).f1), meansF cons k (underL rows (headOf c)) ((belowO (p :: t) (headOf c)).getD []) = meansF cons k (underL rows' (headOf c)) ((belowO (p :: t) (headOf c)).getD []) := by
                intro c hcm
                have hcc := (List.mem_filter.1 hcm).1
                have har := hG.ar c hcc
                have hU := under_wf (ok_head hG hcc) rows hr
                rw [below_head (cons := cons) (n := 0) hlo (headOf c), Option.getD_some]
                have hhl : (headOf c).f5.length ≤ 2 := by show (List.replicate c.f3.toNat wildS).length ≤ 2; rw [List.length_replicate]; omega
                exact ih _ _ _ ((headOf c).f5.length + n) (by omega) (hp.filterMap _) hU.1 (below_wild_len hWt _) (by omega) (cols_under (ok_head hG hcc) rfl hr hC)
              rw [all_congr (f := fun c => decide (0 ≤ c.f3) && decide (c.f3 ≤ 2) && (meansF cons k (underL rows (headOf c)) ((belowO (p :: t) (headOf c)).getD [])).isSome) (g := fun c => decide (0 ≤ c.f3) && decide (c.f3 ≤ 2) && (meansF cons k (underL rows' (headOf c)) ((belowO (p :: t) (headOf c)).getD [])).isSome) (fun c hcm => by rw [hsame c hcm]),
                any_congr (f := fun c => (meansF cons k (underL rows (headOf c)) ((belowO (p :: t) (headOf c)).getD [])).getD false) (g := fun c => (meansF cons k (underL rows' (headOf c)) ((belowO (p :: t) (headOf c)).getD [])).getD false) (fun c hcm => by rw [hsame c hcm]), hoth]
theorem chkL_last (cons : List S61) (all : List (List S25)) : ∀ d i, (chkL cons all d i).2 = 27 ∨ (chkL cons all d i).2 = if meansV cons all [wildS] then 26 else 0 := by
  intro d
  induction d with
  | zero => intro i; right; rw [chkL]; split <;> rfl
  | succ d ih => intro i; rw [chkL]; split
                 · exact ih (i + 1)
                 · exact .inl rfl
theorem sing_col (l : List S25) : col (sing l) 0 = l := by
  unfold col sing
  rw [List.filterMap_map]
  induction l with
  | nil => rfl
  | cons p t ih => simpa using ih
/-- Whether rows leave something out does not hang on their order. -/
theorem chk_order {l l' : List S25} (hp : l.Perm l') (hl : l.length ≤ 20) (hn : ∀ p ∈ l, nodes p ≤ 9) (h1 : (chk consL l).2 ≠ 27) (h2 : (chk consL l').2 ≠ 27) : (chk consL l).2 = (chk consL l').2 := by
  have hl' : l'.length ≤ 20 := by rw [← hp.length_eq]; exact hl
  have hn' : ∀ p ∈ l', nodes p ≤ 9 := fun p h => hn p (hp.mem_iff.2 h)
  rw [chk_eq hl] at h1 ⊢
  rw [chk_eq hl'] at h2 ⊢
  have hall : l.all (okB consL) = l'.all (okB consL) := by
    have := any_perm hp (fun x => !okB consL x)
    cases ha : l.all (okB consL) with
    | true =>
      symm
      rw [List.all_eq_true] at ha ⊢
      exact fun x hx => ha x (hp.mem_iff.2 hx)
    | false =>
      cases hb : l'.all (okB consL) with
      | false => rfl
      | true =>
        rw [List.all_eq_true] at hb
        have : l.all (okB consL) = true := List.all_eq_true.2 fun x hx => hb x (hp.mem_iff.1 hx)
        rw [ha] at this; cases this
  cases ha : l.all (okB consL) with
  | false =>
    rw [ha] at hall
    rw [← hall]
    simp
  | true =>
    rw [ha] at hall
    have ho : ∀ x ∈ l, okB consL x = true := fun x hx => List.all_eq_true.1 ha x hx
    have ho' : ∀ x ∈ l', okB consL x = true := fun x hx => ho x (hp.mem_iff.2 hx)
    have ht : togV consL l = togV consL l' := by
      have i1 := togV_iff (cons := consL) hl hn ho
      have i2 := togV_iff (cons := consL) hl' hn' ho'
      cases e1 : togV consL l with
      | true => exact (i2.2 (togP_perm _ _ _ _ hp (i1.1 e1))).symm
      | false =>
        cases e2 : togV consL l' with
        | false => rfl
        | true => have := i1.2 (togP_perm _ _ _ _ hp.symm (i2.1 e2)); rw [e1] at this; cases this
    rw [ha] at h1
    rw [← hall, ← ht] at h2 ⊢
    cases ht1 : togV consL l with
    | false => simp
    | true =>
      rw [ht1] at h1 h2
      simp only [Bool.and_self, if_true] at h1 h2 ⊢
      have r1 := (chkL_last consL (sing l) l.length 0).resolve_left h1
      have r2 := (chkL_last consL (sing l') l'.length 0).resolve_left h2
      rw [r1, r2]
      have hC : Cols consL 1 (sing l) := by
        intro j hj m
        obtain rfl : j = 0 := by omega
        rw [sing_col]
        exact togP_all consL 9 l hn ((togV_iff hl hn ho).1 ht1) m
      have hm := means_perm goodL 1000 (sing l) (sing l') [wildS] 1 (by omega) (hp.map _) (sing_wf ho) ⟨rfl, fun x hx => by rw [List.mem_singleton.1 hx]; exact ok_wild _⟩ (by rw [sing_len]; omega) hC
      unfold meansV
      rw [hm]
end Go.Proofs.Ytikhkcnbabpneaa.P
