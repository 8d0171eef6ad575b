/- Plain laws: what together tells; it does not hang on the order of the patterns. -/
import Derived.Test.YtikhkcnbabpneaaAoQ1
import Derived.Test.YtikhkcnbabpneaaAoHB
namespace Go.Proofs.Ytikhkcnbabpneaa.P
open Go.RowKit Go.Proofs.YtikhkcnbabpneaaW.PrintWords Go.Proofs.YtikhkcnbabpneaaW.PrintLast Go.Proofs.YtikhkcnbabpneaaW.PrintMore
set_option linter.unusedVariables false
set_option linter.unusedSimpArgs false

theorem same_iff {x y : S25} : sameB x y = true ↔ x.f0 = y.f0 ∧ x.f1.toList = y.f1.toList ∧ x.f2 = y.f2 := by
  unfold sameB; simp
theorem same_trans_r {x p o : S25} (h : sameB o p = true) : sameB x o = sameB x p := by
  obtain ⟨h0, h1, h2⟩ := same_iff.1 h
  unfold sameB; rw [h0, h1, h2]
theorem findC_congr (cons : List S61) {a b : ByteArray} (h : a.toList = b.toList) : findC cons a = findC cons b := by
  have : isName a = isName b := by funext c; unfold isName; rw [h]
  unfold findC; rw [this]
/-- What a pattern is that size takes. -/
theorem ok_kids {cons : List S61} {p : S25} (h : okB cons p = true) : p.f5 = [] ∨ (p.f0 = 5 ∧ (findC cons p.f1).f3 = p.f5.length ∧ cons.any (isName p.f1) = true ∧ ∀ q ∈ p.f5, okB cons q = true) := by
  rw [okB_eq] at h
  by_cases h5 : p.f5 = []
  · exact .inl h5
  · right
    have hl : p.f5.length ≠ 0 := by simpa using h5
    rw [Bool.and_eq_true] at h
    have h0 : p.f0 = 5 := by
      have := h.1
      unfold plainB at this
      simp only [Bool.and_eq_true, Bool.or_eq_true, decide_eq_true_eq, beq_iff_eq] at this
      rcases this.2 with e | e
      · exact absurd e hl
      · exact e
    have h2 := h.2
    rw [h0] at h2
    simp only [show ¬ ((5 : Int) = 24 ∨ (5 : Int) = 4) by decide, if_false, show ¬ (5 : Int) = 1 by decide, if_true, Bool.and_eq_true, decide_eq_true_eq] at h2
    refine ⟨h0, h2.1.2, h2.1.1, ?_⟩
    rw [okL_all] at h2
    exact fun q hq => List.all_eq_true.1 h2.2 q hq
theorem ok_con {cons : List S61} {p : S25} (h : okB cons p = true) (h5 : p.f0 = 5) : (findC cons p.f1).f3 = p.f5.length ∧ cons.any (isName p.f1) = true ∧ p.f2 = 0 := by
  rw [okB_eq] at h
  rw [Bool.and_eq_true] at h
  have h2 := h.2
  rw [h5] at h2
  simp only [show ¬ ((5 : Int) = 24 ∨ (5 : Int) = 4) by decide, if_false, show ¬ (5 : Int) = 1 by decide, if_true, Bool.and_eq_true, decide_eq_true_eq] at h2
  refine ⟨h2.1.2, h2.1.1, ?_⟩
  have := h.1
  unfold plainB at this
  simp only [Bool.and_eq_true, Bool.or_eq_true, decide_eq_true_eq, beq_iff_eq] at this
  rcases this.1.2 with e | e
  · exact e
  · rw [h5] at e; exact absurd e (by decide)
/-- Patterns with one head have as many Kids. -/
theorem same_kids {cons : List S61} {x p : S25} (hx : okB cons x = true) (hp : okB cons p = true) (h : sameB x p = true) : x.f5.length = p.f5.length := by
  obtain ⟨h0, h1, h2⟩ := same_iff.1 h
  by_cases h5 : p.f0 = 5
  · have a := (ok_con hx (h0.trans h5)).1
    have b := (ok_con hp h5).1
    rw [findC_congr cons h1] at a
    omega
  · have a := ok_kids hx
    have b := ok_kids hp
    rcases a with a | a
    · rcases b with b | b
      · rw [a, b]
      · exact absurd b.1 h5
    · exact absurd (h0.symm.trans a.1) h5
theorem parts_ok {cons : List S61} {l : List S25} {p : S25} (hl : ∀ x ∈ l, okB cons x = true) (hp : okB cons p = true) {q : Nat} (hq : q < p.f5.length) : partsOk l p q = true := by
  unfold partsOk
  rw [List.all_eq_true]
  intro x hx
  cases hs : sameB x p with
  | false => rfl
  | true =>
    have := same_kids (hl x hx) hp hs
    simp only [Bool.not_true, Bool.false_or, decide_eq_true_eq]
    omega
theorem parts_mem {l : List S25} {p : S25} {q : Nat} {y : S25} (h : y ∈ partsL l p q) : ∃ x ∈ l, sameB x p = true ∧ x.f5[q]? = some y := by
  unfold partsL at h
  obtain ⟨x, hx, hy⟩ := List.mem_filterMap.1 h
  split at hy
  · next hs => exact ⟨x, hx, hs, hy⟩
  · cases hy
theorem parts_len (l : List S25) (p : S25) (q : Nat) : (partsL l p q).length ≤ l.length := List.length_filterMap_le _ _
/-- Patterns of a place: fit for size, not too deep. -/
def Pats (cons : List S61) (m : Nat) (l : List S25) : Prop := (∀ p ∈ l, okB cons p = true ∧ nodes p ≤ m) ∧ l.length ≤ 1000000
theorem pats_parts {cons : List S61} {m : Nat} {l : List S25} {p : S25} (h : Pats cons (m + 1) l) (q : Nat) : Pats cons m (partsL l p q) := by
  refine ⟨fun y hy => ?_, Nat.le_trans (parts_len l p q) h.2⟩
  obtain ⟨x, hx, hs, hxy⟩ := parts_mem hy
  have hmem : y ∈ x.f5 := List.mem_of_getElem? hxy
  obtain ⟨ho, hn⟩ := h.1 x hx
  have := nodes_mem hmem
  rw [nodes_eq] at hn
  refine ⟨?_, by omega⟩
  rcases ok_kids ho with e | e
  · rw [e] at hmem; cases hmem
  · exact e.2.2.2 y hmem
theorem pats_filter {cons : List S61} {m : Nat} {l : List S25} (h : Pats cons m l) (f : S25 → Bool) : Pats cons m (l.filter f) :=
  ⟨fun p hp => h.1 p (List.mem_filter.1 hp).1, Nat.le_trans (List.length_filter_le _ _) h.2⟩
/-- Do the patterns of one place go together, m deep? -/
def TogP (cons : List S61) : Nat → List S25 → Prop
  | 0, _ => True
  | m + 1, l => (∀ x ∈ l, ∀ y ∈ l, looseB x = false → looseB y = false → unlike cons x y = false) ∧ ∀ p ∈ l, looseB p = false → ∀ q, q < p.f5.length → TogP cons m (partsL l p q)
theorem unlike_iff {cons : List S61} {x y : S25} : unlike cons x y = false ↔ y.f0 = x.f0 ∧ (findC cons y.f1).f1.toList = (findC cons x.f1).f1.toList := by
  unfold unlike; simp
theorem kids_iff (T : List S25 → Prop) (rec_ : List S25 → Option Bool) (l : List S25) (p : S25) (h : ∀ q, q < p.f5.length → partsOk l p q = true ∧ ∃ b, rec_ (partsL l p q) = some b ∧ (b = true ↔ T (partsL l p q))) :
    ∀ d q, q + d = p.f5.length → ∃ b, kidsF rec_ l p d q = some b ∧ (b = true ↔ ∀ j, q ≤ j → j < p.f5.length → T (partsL l p j)) := by
  intro d
  induction d with
  | zero => intro q hq; exact ⟨true, rfl, by simp; omega⟩
  | succ d ih =>
    intro q hq
    obtain ⟨hok, b, hb, hbt⟩ := h q (by omega)
    obtain ⟨b', hb', hbt'⟩ := ih (q + 1) (by omega)
    cases b with
    | false =>
      refine ⟨false, by rw [kidsF, if_pos hok, hb], ⟨fun e => (by cases e), fun e => ?_⟩⟩
      exact hbt.2 (e q (Nat.le_refl _) (by omega))
    | true =>
      refine ⟨b', by rw [kidsF, if_pos hok, hb]; exact hb', hbt'.trans ⟨fun e j h1 h2 => ?_, fun e j h1 h2 => e j (by omega) h2⟩⟩
      by_cases hj : j = q
      · subst hj; exact hbt.1 rfl
      · exact e j (by omega) h2
theorem rows_iff (T : List S25 → Prop) (rec_ : List S25 → Option Bool) (l : List S25) (hlen : ∀ p ∈ l, p.f5.length ≤ 1000000)
    (h : ∀ p ∈ l, ∀ q, q < p.f5.length → partsOk l p q = true ∧ ∃ b, rec_ (partsL l p q) = some b ∧ (b = true ↔ T (partsL l p q)))
    (hs : ∀ x ∈ l, ∀ y ∈ l, sameB x y = true → x.f5.length = y.f5.length) :
    ∀ d i, i + d = l.length → (∀ p ∈ l.take i, ∀ q, q < p.f5.length → T (partsL l p q)) → ∃ b, rowsF rec_ l (l.drop i) i = some b ∧ (b = true ↔ ∀ p ∈ l.drop i, ∀ q, q < p.f5.length → T (partsL l p q)) := by
  intro d
  induction d with
  | zero => intro i hi _; rw [List.drop_of_length_le (by omega)]; exact ⟨true, rfl, by simp⟩
  | succ d ih =>
    intro i hi hg
    have hlt : i < l.length := by omega
    have hd : l.drop i = l[i] :: l.drop (i + 1) := List.drop_eq_getElem_cons hlt
    have hm : l[i] ∈ l := List.getElem_mem _
    have htk : l.take (i + 1) = l.take i ++ [l[i]] := List.take_succ_eq_append_getElem hlt
    rw [hd, rowsF]
    cases hdup : (l.take i).any (fun o => sameB o l[i]) with
    | true =>
      rw [if_pos rfl]
      have hgi : ∀ q, q < l[i].f5.length → T (partsL l l[i] q) := by
        obtain ⟨o, ho, hso⟩ := List.any_eq_true.1 hdup
        have hol := List.mem_of_mem_take ho
        intro q hq
        have hll := hs o hol l[i] hm hso
        have := hg o ho q (by omega)
        have hp : partsL l o q = partsL l l[i] q := by
          unfold partsL
          have : (fun x : S25 => if sameB x o = true then x.f5[q]? else none) = (fun x : S25 => if sameB x l[i] = true then x.f5[q]? else none) := by
            funext x; rw [same_trans_r hso]
          rw [this]
        rw [← hp]; exact this
      obtain ⟨b, hb, hbt⟩ := ih (i + 1) (by omega) (by
        intro p hp
        rw [htk] at hp
        rcases List.mem_append.1 hp with hp | hp
        · exact hg p hp
        · rw [List.mem_singleton.1 hp]; exact hgi)
      refine ⟨b, hb, hbt.trans ⟨fun e p hp => ?_, fun e p hp => e p (List.mem_cons_of_mem _ hp)⟩⟩
      rcases List.mem_cons.1 hp with rfl | hp
      · exact hgi
      · exact e p hp
    | false =>
      rw [if_neg (by decide), if_pos (hlen _ hm)]
      obtain ⟨b, hb, hbt⟩ := kids_iff T rec_ l l[i] (h _ hm) l[i].f5.length 0 (by omega)
      rw [hb]
      cases b with
      | false =>
        refine ⟨false, rfl, ⟨fun e => (by cases e), fun e => ?_⟩⟩
        exact hbt.2 fun j _ hj => e l[i] (List.mem_cons_self ..) j hj
      | true =>
        have hgi : ∀ q, q < l[i].f5.length → T (partsL l l[i] q) := fun q hq => hbt.1 rfl q (Nat.zero_le _) hq
        obtain ⟨b, hb, hbt⟩ := ih (i + 1) (by omega) (by
          intro p hp
          rw [htk] at hp
          rcases List.mem_append.1 hp with hp | hp
          · exact hg p hp
          · rw [List.mem_singleton.1 hp]; exact hgi)
        refine ⟨b, hb, hbt.trans ⟨fun e p hp => ?_, fun e p hp => e p (List.mem_cons_of_mem _ hp)⟩⟩
        rcases List.mem_cons.1 hp with rfl | hp
        · exact hgi
        · exact e p hp
theorem parts_filter (l : List S25) {p : S25} (hp : looseB p = false) (q : Nat) : partsL (l.filter fun x => !looseB x) p q = partsL l p q := by
  unfold partsL
  induction l with
  | nil => rfl
  | cons x t ih =>
    rw [List.filter_cons]
    cases hx : looseB x with
    | false => simp [List.filterMap_cons, ih]
    | true =>
      have hs : sameB x p = false := by
        cases h : sameB x p with
        | false => rfl
        | true =>
          obtain ⟨h0, _, _⟩ := same_iff.1 h
          unfold looseB at hp hx
          rw [h0] at hx
          rw [hx] at hp
          cases hp
      simp [List.filterMap_cons, ih, hs]
theorem unlike_all (cons : List S61) (h : S25) (t : List S25) : (h :: t).any (unlike cons h) = false ↔ ∀ x ∈ h :: t, ∀ y ∈ h :: t, unlike cons x y = false := by
  rw [List.any_eq_false]
  constructor
  · intro e x hx y hy
    have ex : unlike cons h x = false := by have := e x hx; simpa using this
    have ey : unlike cons h y = false := by have := e y hy; simpa using this
    rw [unlike_iff] at ex ey ⊢
    exact ⟨ey.1.trans ex.1.symm, ey.2.trans ex.2.symm⟩
  · intro e x hx
    have := e h (List.mem_cons_self ..) x hx
    simp [this]
theorem tog_iff (cons : List S61) : ∀ (m k : Nat) (l : List S25), m ≤ 1000000 → Pats cons m l → m < k → ∃ b, togF cons k l = some b ∧ (b = true ↔ TogP cons m l) := by
  intro m
  induction m with
  | zero =>
    intro k l _ h hk
    obtain ⟨k, rfl⟩ : ∃ j, k = j + 1 := ⟨k - 1, by omega⟩
    have hl : l = [] := by
      cases l with
      | nil => rfl
      | cons p t =>
        have := (h.1 p (List.mem_cons_self ..)).2
        have := nodes_pos p
        omega
    subst hl
    exact ⟨true, by simp [togF], by simp [TogP]⟩
  | succ m ih =>
    intro k l hm hP hk
    obtain ⟨k, rfl⟩ : ∃ j, k = j + 1 := ⟨k - 1, by omega⟩
    rw [togF, if_pos hP.2]
    have hF := pats_filter hP (fun x => !looseB x)
    have hmem : ∀ x, x ∈ l.filter (fun x => !looseB x) ↔ x ∈ l ∧ looseB x = false := fun x => by rw [List.mem_filter]; simp
    have hparts : ∀ p, looseB p = false → ∀ q, partsL (l.filter fun x => !looseB x) p q = partsL l p q := fun p hp q => parts_filter l hp q
    generalize hls : l.filter (fun x => !looseB x) = ls at hF hmem hparts ⊢
    cases ls with
    | nil =>
      refine ⟨true, rfl, ⟨fun _ => ⟨fun x hx y hy lx => ?_, fun p hp lp => ?_⟩, fun _ => rfl⟩⟩
      · have := (hmem x).2 ⟨hx, lx⟩; cases this
      · have := (hmem p).2 ⟨hp, lp⟩; cases this
    | cons h t =>
      simp only
      cases hu : (h :: t).any (unlike cons h) with
      | true =>
        refine ⟨false, rfl, ⟨fun e => (by cases e), fun e => ?_⟩⟩
        have : (h :: t).any (unlike cons h) = false := (unlike_all cons h t).2 fun x hx y hy => e.1 x ((hmem x).1 hx).1 y ((hmem y).1 hy).1 ((hmem x).1 hx).2 ((hmem y).1 hy).2
        rw [hu] at this; exact this.symm
      | false =>
        rw [if_neg (by decide)]
        have hun := (unlike_all cons h t).1 hu
        have hok : ∀ x ∈ h :: t, okB cons x = true := fun x hx => (hF.1 x hx).1
        obtain ⟨b, hb, hbt⟩ := rows_iff (TogP cons m) (togF cons k) (h :: t) (fun p hp => by
            have := (hF.1 p hp).2
            have h2 := length_nodes p.f5
            rw [nodes_eq] at this; omega)
          (fun p hp q hq => ⟨parts_ok hok (hok p hp) hq, ih k (partsL (h :: t) p q) (by omega) (pats_parts hF q) (by omega)⟩)
          (fun x hx y hy hxy => same_kids (hok x hx) (hok y hy) hxy) (h :: t).length 0 (by omega) (by simp)
        rw [List.drop_zero] at hb hbt
        refine ⟨b, hb, hbt.trans ⟨fun e => ⟨fun x hx y hy lx ly => hun x ((hmem x).2 ⟨hx, lx⟩) y ((hmem y).2 ⟨hy, ly⟩), fun p hp lp q hq => ?_⟩, fun e p hp q hq => ?_⟩⟩
        · rw [← hparts p lp q]; exact e p ((hmem p).2 ⟨hp, lp⟩) q hq
        · have hp' := (hmem p).1 hp
          rw [hparts p hp'.2 q]; exact e.2 p hp'.1 hp'.2 q hq
theorem parts_perm {l l' : List S25} (h : l.Perm l') (p : S25) (q : Nat) : (partsL l p q).Perm (partsL l' p q) := h.filterMap _
theorem togP_perm (cons : List S61) : ∀ (m : Nat) (l l' : List S25), l.Perm l' → TogP cons m l → TogP cons m l' := by
  intro m
  induction m with
  | zero => intro _ _ _ _; trivial
  | succ m ih =>
    intro l l' hp h
    exact ⟨fun x hx y hy => h.1 x (hp.mem_iff.2 hx) y (hp.mem_iff.2 hy), fun p hpm lp q hq => ih _ _ (parts_perm hp p q) (h.2 p (hp.mem_iff.2 hpm) lp q hq)⟩
end Go.Proofs.Ytikhkcnbabpneaa.P
