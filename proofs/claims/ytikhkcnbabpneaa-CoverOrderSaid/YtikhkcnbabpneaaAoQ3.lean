/- Plain laws: means always ends; a row that means any leaves nothing. -/
import Derived.Test.YtikhkcnbabpneaaAoQ2
namespace Go.Proofs.Ytikhkcnbabpneaa.P
open Go.RowKit Go.Proofs.YtikhkcnbabpneaaW.PrintWords Go.Proofs.YtikhkcnbabpneaaW.PrintLast Go.Proofs.YtikhkcnbabpneaaW.PrintMore
set_option linter.unusedVariables false
set_option linter.unusedSimpArgs false

mutual
/-- How many nodes are told apart. -/
def nw : S25 → Nat
  | ⟨f0, _, _, _, _, l⟩ => if f0 == 24 || f0 == 4 then 0 else 1 + nwL l
def nwL : List S25 → Nat
  | [] => 0
  | p :: t => nw p + nwL t
end
theorem nw_eq (p : S25) : nw p = if looseB p then 0 else 1 + nwL p.f5 := by cases p; simp only [nw, looseB]; rfl
theorem nwL_cons (p : S25) (t : List S25) : nwL (p :: t) = nw p + nwL t := by simp only [nwL]
theorem nwL_nil : nwL [] = 0 := by simp only [nwL]
theorem nwL_append (l m : List S25) : nwL (l ++ m) = nwL l + nwL m := by
  induction l with
  | nil => simp [nwL_nil]
  | cons p t ih => simp only [List.cons_append, nwL_cons, ih]; omega
theorem nw_wilds (n : Nat) : nwL (List.replicate n wildS) = 0 := by
  induction n with
  | zero => simp [nwL_nil]
  | succ n ih => rw [List.replicate_succ, nwL_cons, ih]; rfl
theorem nwL_le (l : List S25) (h : ∀ q ∈ l, nw q ≤ nodes q) : nwL l ≤ nodesL l := by
  induction l with
  | nil => simp [nwL_nil, nodesL_nil]
  | cons p t ih =>
    rw [nwL_cons, nodesL_cons]
    have := h p (List.mem_cons_self ..)
    have := ih fun q hq => h q (List.mem_cons_of_mem _ hq)
    omega
theorem nw_le : ∀ p : S25, nw p ≤ nodes p := by
  refine node_ind fun p ih => ?_
  rw [nw_eq, nodes_eq]
  have := nwL_le p.f5 ih
  split <;> omega
def NW : List (List S25) → Nat
  | [] => 0
  | r :: t => nwL r + NW t
/-- Constructors that the walks take. -/
structure Good (cons : List S61) : Prop where
  ar : ∀ c ∈ cons, 0 ≤ c.f3 ∧ c.f3 ≤ 2
  fd : ∀ c ∈ cons, findC cons c.f0 = c
  len : cons.length ≤ 100000
def WF (cons : List S61) (n : Nat) (r : List S25) : Prop := r.length = n ∧ ∀ p ∈ r, okB cons p = true
theorem findC_mem {cons : List S61} {a : ByteArray} (h : cons.any (isName a) = true) : findC cons a ∈ cons ∧ isName a (findC cons a) = true := by
  unfold findC
  cases hf : cons.find? (isName a) with
  | none =>
    rw [List.find?_eq_none] at hf
    obtain ⟨x, hx, hy⟩ := List.any_eq_true.1 h
    exact absurd hy (hf x hx)
  | some c => exact ⟨List.mem_of_find?_eq_some hf, List.find?_some hf⟩
theorem ok_two {cons : List S61} (hG : Good cons) {p : S25} (h : okB cons p = true) : p.f5.length ≤ 2 := by
  rcases ok_kids h with e | e
  · rw [e]; simp
  · have := hG.ar _ (findC_mem e.2.2.1).1
    omega
theorem ok_wild (cons : List S61) : okB cons wildS = true := by rw [okB_eq]; simp [wildS, plainB]
theorem ok_wilds (cons : List S61) (n : Nat) : ∀ p ∈ List.replicate n wildS, okB cons p = true := fun p hp => by rw [List.eq_of_mem_replicate hp]; exact ok_wild cons
theorem ok_head {cons : List S61} (hG : Good cons) {c : S61} (hc : c ∈ cons) : okB cons (headOf c) = true := by
  have ha := hG.ar c hc
  have hany : cons.any (isName c.f0) = true := List.any_eq_true.2 ⟨c, hc, by simp [isName]⟩
  rw [okB_eq]
  have h1 : plainB (headOf c).f0 (headOf c).f1 (headOf c).f2 (headOf c).f4 (headOf c).f5 = true := by simp [plainB, headOf]
  have h2 : okL cons (headOf c).f5 = true := by rw [okL_all, List.all_eq_true]; exact ok_wilds cons _
  have h3 : (findC cons c.f0).f3 = ((headOf c).f5.length : Int) := by
    rw [hG.fd c hc]
    show c.f3 = ((List.replicate c.f3.toNat wildS).length : Int)
    rw [List.length_replicate]; omega
  rw [h1, h2, Bool.true_and, if_neg (by show ¬ ((5 : Int) = 24 ∨ (5 : Int) = 4); decide), if_neg (by show ¬ (5 : Int) = 1; decide), if_pos (by show (5 : Int) = 5; rfl)]
  show (cons.any (isName c.f0) && decide ((findC cons c.f0).f3 = ((headOf c).f5.length : Int)) && true) = true
  rw [hany, h3]; simp
theorem below_wf {cons : List S61} {n : Nat} {r r' : List S25} {h : S25} (hr : WF cons (n + 1) r) (hh : okB cons h = true) (e : belowO r h = some r') :
    WF cons (h.f5.length + n) r' ∧ nwL r' ≤ nwL r ∧ (headOf? r ≠ none → nwL r' + 1 ≤ nwL r) := by
  obtain ⟨hl, ho⟩ := hr
  cases r with
  | nil => simp at hl
  | cons p t =>
    have ht : t.length = n := by simpa using hl
    have hot : ∀ x ∈ t, okB cons x = true := fun x hx => ho x (List.mem_cons_of_mem _ hx)
    have hop := ho p (List.mem_cons_self ..)
    unfold belowO at e
    cases hlo : looseB p with
    | true =>
      simp only [hlo, if_true] at e
      obtain rfl := Option.some.inj e
      refine ⟨⟨by simp [ht], fun x hx => ?_⟩, ?_, fun hn => ?_⟩
      · rcases List.mem_append.1 hx with hx | hx
        · exact ok_wilds cons _ x hx
        · exact hot x hx
      · rw [nwL_append, nw_wilds, nwL_cons]; omega
      · simp [headOf?, hlo] at hn
    | false =>
      simp only [hlo, Bool.false_eq_true, if_false] at e
      split at e
      · next hs =>
        obtain rfl := Option.some.inj e
        have hk := same_kids hop hh hs
        refine ⟨⟨by simp [ht, hk], fun x hx => ?_⟩, ?_, fun _ => ?_⟩
        · rcases List.mem_append.1 hx with hx | hx
          · rcases ok_kids hop with e | e
            · rw [e] at hx; cases hx
            · exact e.2.2.2 x hx
          · exact hot x hx
        · rw [nwL_append, nwL_cons, nw_eq p, hlo]; simp only [Bool.false_eq_true, if_false]; omega
        · rw [nwL_append, nwL_cons, nw_eq p, hlo]; simp only [Bool.false_eq_true, if_false]; omega
      · cases e
theorem under_wf {cons : List S61} {n : Nat} {h : S25} (hh : okB cons h = true) : ∀ rows : List (List S25), (∀ r ∈ rows, WF cons (n + 1) r) →
    (∀ r ∈ underL rows h, WF cons (h.f5.length + n) r) ∧ NW (underL rows h) ≤ NW rows ∧ (columnL rows ≠ [] → NW (underL rows h) + 1 ≤ NW rows) ∧ (underL rows h).length ≤ rows.length
  | [], _ => ⟨by simp [underL], by simp [underL, NW], by simp [columnL], by simp [underL]⟩
  | r :: rows, hr => by
    obtain ⟨a, b, c, d⟩ := under_wf hh rows (fun x hx => hr x (List.mem_cons_of_mem _ hx))
    have hr0 := hr r (List.mem_cons_self ..)
    cases hb : belowO r h with
    | none =>
      have hu : underL (r :: rows) h = underL rows h := by simp [underL, hb]
      rw [hu]
      have hnw : 1 ≤ nwL r := by
        cases r with
        | nil => have := hr0.1; simp at this
        | cons p t =>
          have hlo : looseB p = false := by
            cases hl : looseB p with
            | false => rfl
            | true => simp [belowO, hl] at hb
          rw [nwL_cons, nw_eq p, hlo]; simp only [Bool.false_eq_true, if_false]; omega
      refine ⟨a, by simp only [NW]; omega, fun _ => by simp only [NW]; omega, by simp; omega⟩
    | some x =>
      have hu : underL (r :: rows) h = x :: underL rows h := by simp [underL, hb]
      rw [hu]
      obtain ⟨hw, hle, hlt⟩ := below_wf hr0 hh hb
      refine ⟨fun y hy => ?_, by simp only [NW]; omega, fun hc => ?_, by simp; omega⟩
      · rcases List.mem_cons.1 hy with rfl | hy
        · exact hw
        · exact a y hy
      · simp only [NW]
        by_cases h0 : headOf? r = none
        · have : columnL (r :: rows) = columnL rows := by simp [columnL, h0]
          rw [this] at hc
          have := c hc
          omega
        · have := hlt h0
          omega
theorem others_wf {cons : List S61} {n : Nat} : ∀ rows : List (List S25), (∀ r ∈ rows, WF cons (n + 1) r) → (∀ r ∈ othersL rows, WF cons n r) ∧ NW (othersL rows) ≤ NW rows ∧ (othersL rows).length ≤ rows.length
  | [], _ => ⟨by simp [othersL], by simp [othersL, NW], by simp [othersL]⟩
  | r :: rows, hr => by
    obtain ⟨a, b, c⟩ := others_wf rows (fun x hx => hr x (List.mem_cons_of_mem _ hx))
    have hr0 := hr r (List.mem_cons_self ..)
    cases r with
    | nil => have := hr0.1; simp at this
    | cons p t =>
      cases hl : looseB p with
      | false =>
        have hu : othersL ((p :: t) :: rows) = othersL rows := by simp [othersL, tailOf?, hl]
        rw [hu]
        exact ⟨a, by simp only [NW]; omega, by simp; omega⟩
      | true =>
        have hu : othersL ((p :: t) :: rows) = t :: othersL rows := by simp [othersL, tailOf?, hl]
        rw [hu]
        refine ⟨fun y hy => ?_, ?_, by simp; omega⟩
        · rcases List.mem_cons.1 hy with rfl | hy
          · exact ⟨by have := hr0.1; simpa using this, fun x hx => hr0.2 x (List.mem_cons_of_mem _ hx)⟩
          · exact a y hy
        · simp only [NW, nwL_cons]; omega
def Phi (rows : List (List S25)) (q : List S25) : Nat := 3 * (NW rows + nwL q) + q.length
theorem fit_of_wf {cons : List S61} (hG : Good cons) {n : Nat} {rows : List (List S25)} {q : List S25} (hr : ∀ r ∈ rows, WF cons (n + 1) r) (hq : WF cons (n + 1) q) (hn : n + 1 ≤ 1000000) (hl : rows.length ≤ 1000000) : fitB rows q = true := by
  unfold fitB
  simp only [Bool.and_eq_true, decide_eq_true_eq, List.all_eq_true]
  refine ⟨⟨⟨⟨hl, fun r h => ⟨⟨?_, ?_⟩, fun p hp => ok_two hG ((hr r h).2 p hp)⟩⟩, ?_⟩, ?_⟩, fun p hp => ok_two hG (hq.2 p hp)⟩
  · rw [(hr r h).1]; omega
  · rw [(hr r h).1]; exact hn
  · rw [hq.1]; omega
  · rw [hq.1]; exact hn
theorem below_head {cons : List S61} {n : Nat} {p : S25} {t : List S25} (hl : looseB p = true) (h : S25) : belowO (p :: t) h = some (List.replicate h.f5.length wildS ++ t) := by simp [belowO, hl]
theorem below_self {p : S25} {t : List S25} (hl : looseB p = false) : belowO (p :: t) p = some (p.f5 ++ t) := by
  have : sameB p p = true := same_iff.2 ⟨rfl, rfl, rfl⟩
  simp [belowO, hl, this]
/-- One round of means, on rows that are well formed: what it goes on to. -/
theorem means_step {cons : List S61} (hG : Good cons) (k : Nat) {n : Nat} {rows : List (List S25)} {p : S25} {t : List S25} (hr : ∀ r ∈ rows, WF cons (n + 1) r) (hq : WF cons (n + 1) (p :: t)) (hn : n + 1 ≤ 1000000) (hl : rows.length ≤ 1000000) (h0 : rows ≠ []) :
    meansF cons (k + 1) rows (p :: t) =
      if looseB p then
        match columnL rows with
        | [] => meansF cons k (othersL rows) t
        | h :: hs =>
          if h.f0 == 5 then
            let all := cons.filter (ofType (findC cons h.f1).f1)
            if all.any (lacks (h :: hs)) then meansF cons k (othersL rows) t
            else if all.all (fun c => decide (0 ≤ c.f3) && decide (c.f3 ≤ 2) && (meansF cons k (underL rows (headOf c)) ((belowO (p :: t) (headOf c)).getD [])).isSome) then
              some (all.any fun c => (meansF cons k (underL rows (headOf c)) ((belowO (p :: t) (headOf c)).getD [])).getD false)
            else none
          else meansF cons k (othersL rows) t
      else meansF cons k (underL rows p) ((belowO (p :: t) p).getD []) := by
  have hf := fit_of_wf hG hr hq hn hl
  have he : rows.isEmpty = false := by simpa using h0
  conv => lhs; unfold meansF
  rw [he, hf]
  simp only [Bool.false_eq_true, if_false, if_true, List.isEmpty_cons]
  rfl
theorem means_total {cons : List S61} (hG : Good cons) : ∀ (k : Nat) (rows : List (List S25)) (q : List S25) (n : Nat), k ≤ 100000 → (∀ r ∈ rows, WF cons n r) → WF cons n q → rows.length ≤ 1000000 → Phi rows q < k → ∃ b, meansF cons k rows q = some b := by
  intro k
  induction k with
  | zero => intro rows q n _ _ _ _ h; omega
  | succ k ih =>
    intro rows q n hk hr hq hl hp
    by_cases h0 : rows = []
    · subst h0; exact ⟨true, meansF_rows cons k q⟩
    · have hlen : 0 < rows.length := List.length_pos_iff.2 h0
      cases q with
      | nil => exact ⟨false, meansF_q cons k rows hlen⟩
      | cons p t =>
        obtain ⟨n, rfl⟩ : ∃ m, n = m + 1 := ⟨t.length, by rw [← hq.1]; rfl⟩
        have hqn : t.length = n := by have := hq.1; simpa using this
        unfold Phi at hp
        rw [nwL_cons] at hp
        simp only [List.length_cons] at hp
        have hop := hq.2 p (List.mem_cons_self ..)
        have hWt : WF cons n t := ⟨hqn, fun x hx => hq.2 x (List.mem_cons_of_mem _ hx)⟩
        rw [means_step hG k hr hq (by omega) hl h0]
        have hO := others_wf rows hr
        have hoth : ∃ b, meansF cons k (othersL rows) t = some b := ih _ _ n (by omega) hO.1 hWt (by omega) (by unfold Phi; omega)
        cases hlo : looseB p with
        | true =>
          simp only [if_true]
          cases hc : columnL rows with
          | nil => exact hoth
          | cons h hs =>
            simp only
            split
            · split
              · exact hoth
              · split
                · exact ⟨_, rfl⟩
                · next hall =>
                  exfalso
                  refine hall (List.all_eq_true.2 fun c hcm => ?_)
                  have hcc := (List.mem_filter.1 hcm).1
                  have har := hG.ar c hcc
                  have hU := under_wf (ok_head hG hcc) rows hr
                  have hst := hU.2.2.1 (by rw [hc]; simp)
                  rw [below_head (cons := cons) (n := 0) hlo (headOf c), Option.getD_some]
                  have hhl : (headOf c).f5.length ≤ 2 := by show (List.replicate c.f3.toNat wildS).length ≤ 2; rw [List.length_replicate]; omega
                  obtain ⟨b, hb⟩ := ih (underL rows (headOf c)) (List.replicate (headOf c).f5.length wildS ++ t) ((headOf c).f5.length + n) (by omega) hU.1
                    ⟨by simp [hqn], fun x hx => by
                      rcases List.mem_append.1 hx with hx | hx
                      · exact ok_wilds cons _ x hx
                      · exact hWt.2 x hx⟩ (by omega) (by
                      unfold Phi
                      rw [nwL_append, nw_wilds, List.length_append, List.length_replicate]
                      omega)
                  rw [hb]
                  simp [har.1, har.2]
            · exact hoth
        | false =>
          simp only [Bool.false_eq_true, if_false]
          rw [below_self hlo, Option.getD_some]
          have hU := under_wf hop rows hr
          refine ih _ _ (p.f5.length + n) (by omega) hU.1 ⟨by simp [hqn], fun x hx => ?_⟩ (by omega) ?_
          · rcases List.mem_append.1 hx with hx | hx
            · rcases ok_kids hop with e | e
              · rw [e] at hx; cases hx
              · exact e.2.2.2 x hx
            · exact hWt.2 x hx
          · unfold Phi
            have h2 := ok_two hG hop
            rw [nw_eq p, hlo] at hp
            simp only [Bool.false_eq_true, if_false] at hp
            rw [nwL_append, List.length_append]
            omega
end Go.Proofs.Ytikhkcnbabpneaa.P
