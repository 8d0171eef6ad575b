/- Plain laws: what size tells of a pattern. -/
import Derived.Test.YtikhkcnbabpneaaAoQ0
import Derived.Test.YtikhkcnbabpneaaAoPx9
namespace Go.Proofs.Ytikhkcnbabpneaa.P
open Go.RowKit Go.Proofs.YtikhkcnbabpneaaW.PrintWords Go.Proofs.YtikhkcnbabpneaaW.PrintLast Go.Proofs.YtikhkcnbabpneaaW.PrintMore
set_option linter.unusedVariables false
set_option linter.unusedSimpArgs false

def plainB (f0 : Int) (f1 : ByteArray) (f2 : Int) (f4 : List ByteArray) (f5 : List S25) : Bool :=
  (decide (f1.toList = []) || f0 == 4 || f0 == 5) && decide (f4.length = 0) && (f2 == 0 || f0 == 1) && (decide (f5.length = 0) || f0 == 5)
theorem plain_f (f0 : Int) (f1 : ByteArray) (f2 f3 : Int) (f4 : List ByteArray) (f5 : List S25) : cover_plain.f f0 f1 f2 f3 f4 f5 = some (plainB f0 f1 f2 f4 f5) := by
  have h4 : ((f4.length : Int) = 0) = (f4.length = 0) := by simp only [eq_iff_iff]; omega
  have h5 : ((f5.length : Int) = 0) = (f5.length = 0) := by simp only [eq_iff_iff]; omega
  have e4 : decide (f0 = 4) = (f0 == 4) := rfl
  simp only [cover_plain.f, plainB, h4, h5]
  by_cases a : f1.toList = [] <;> by_cases b : f4.length = 0 <;> by_cases c : f2 = 0 <;> by_cases d : f5.length = 0 <;> by_cases e : f0 = 1 <;> by_cases f : f0 = 4 <;> by_cases g : f0 = 5 <;>
    simp_all
mutual
/-- Is it a pattern over these constructors? -/
def okB (cons : List S61) : S25 → Bool
  | ⟨f0, f1, f2, _, f4, f5⟩ => plainB f0 f1 f2 f4 f5 && (if f0 = 24 ∨ f0 = 4 then true else if f0 = 1 then decide (0 ≤ f2) else if f0 = 5 then cons.any (isName f1) && decide ((findC cons f1).f3 = f5.length) && okL cons f5 else false)
def okL (cons : List S61) : List S25 → Bool
  | [] => true
  | p :: t => okB cons p && okL cons t
end
theorem okB_eq (cons : List S61) (p : S25) : okB cons p = (plainB p.f0 p.f1 p.f2 p.f4 p.f5 && (if p.f0 = 24 ∨ p.f0 = 4 then true else if p.f0 = 1 then decide (0 ≤ p.f2) else if p.f0 = 5 then cons.any (isName p.f1) && decide ((findC cons p.f1).f3 = p.f5.length) && okL cons p.f5 else false)) := by
  cases p; simp only [okB]
theorem okL_all (cons : List S61) (l : List S25) : okL cons l = l.all (okB cons) := by
  induction l with
  | nil => simp [okL]
  | cons p t ih => simp [okL, ih]
theorem okL_cons (cons : List S61) (p : S25) (t : List S25) : okL cons (p :: t) = (okB cons p && okL cons t) := by simp [okL]
theorem size_loop (cons : List S61) (l : List S25) (hk : ∀ q ∈ l, ∃ n : Int, Ends (fun k => cover_book_size.f k cons q.f0 q.f1 q.f2 q.f3 q.f4 q.f5) (n, okB cons q) ∧ 0 ≤ n ∧ n ≤ nodes q) (hl : l.length ≤ 1000000) :
    ∀ (d i : Nat) (acc : Int), i + d = l.length → 0 ≤ acc → acc + nodesL (l.drop i) ≤ 30 → ∃ n : Int, Ends (fun k => cover_book_size.l0 k cons acc l (l.length : Int) (i : Int)) (n, okL cons (l.drop i)) ∧ 0 ≤ n ∧ n ≤ acc + nodesL (l.drop i) := by
  intro d
  induction d with
  | zero =>
    intro i acc hi h0 h1
    rw [List.drop_of_length_le (by omega), nodesL_nil]
    refine ⟨acc, Ends.step (g := fun _ => some (acc, true)) (Ends.const fun _ => rfl) fun k => ?_, h0, by omega⟩
    simp only [cover_book_size.l0]
    rw [if_neg (by omega)]
  | succ d ih =>
    intro i acc hi h0 h1
    have hlt : i < l.length := by omega
    have hd : l.drop i = l[i] :: l.drop (i + 1) := List.drop_eq_getElem_cons hlt
    rw [hd, nodesL_cons] at h1
    rw [hd, nodesL_cons, okL_cons]
    obtain ⟨m, hm, hm0, hm1⟩ := hk l[i] (List.getElem_mem _)
    have hw : wrap64 (acc + m) = acc + m := wrap_small (by omega) (by omega)
    have hstep : ∀ {v}, Ends (fun k => if okB cons l[i] = true then (if acc + m > 30 then some (acc + m, false) else cover_book_size.l0 k cons (acc + m) l (l.length : Int) (((i + 1 : Nat)) : Int)) else some (acc + m, false)) v →
        Ends (fun k => cover_book_size.l0 k cons acc l (l.length : Int) (i : Int)) v := by
      intro v h
      refine Ends.step (Ends.bind hm (g := fun k bt => if bt.2 = true then (if wrap64 (acc + bt.1) > 30 then some (wrap64 (acc + bt.1), false) else cover_book_size.l0 k cons (wrap64 (acc + bt.1)) l (l.length : Int) (wrap64 ((i : Int) + 1))) else some (wrap64 (acc + bt.1), false)) ?_) fun k => ?_
      · refine Ends.congr h fun k => ?_
        show (if okB cons l[i] = true then (if wrap64 (acc + m) > 30 then some (wrap64 (acc + m), false) else cover_book_size.l0 k cons (wrap64 (acc + m)) l (l.length : Int) (wrap64 ((i : Int) + 1))) else some (wrap64 (acc + m), false)) = _
        rw [hw, wrap_succ (by omega)]
      · show cover_book_size.l0 (k + 1) cons acc l (l.length : Int) (i : Int) = _
        rw [cover_book_size.l0, if_pos (by omega), if_pos (by omega), if_pos (by omega), rdT_at l i hlt]
    cases hok : okB cons l[i] with
    | false =>
      rw [hok] at hstep
      exact ⟨acc + m, hstep (Ends.const fun _ => by simp), by omega, by omega⟩
    | true =>
      rw [hok] at hstep
      obtain ⟨n, hn, hn0, hn1⟩ := ih (i + 1) (acc + m) (by omega) (by omega) (by omega)
      refine ⟨n, hstep (Ends.congr hn fun k => ?_), hn0, by omega⟩
      rw [if_pos rfl, if_neg (by omega)]
theorem size_ends (cons : List S61) : ∀ p : S25, nodes p ≤ 30 → ∃ n : Int, Ends (fun k => cover_book_size.f k cons p.f0 p.f1 p.f2 p.f3 p.f4 p.f5) (n, okB cons p) ∧ 0 ≤ n ∧ n ≤ nodes p := by
  refine node_ind fun p ih hp => ?_
  have hnp := nodes_pos p
  rw [nodes_eq] at hp
  have hk : ∀ q ∈ p.f5, ∃ n : Int, Ends (fun k => cover_book_size.f k cons q.f0 q.f1 q.f2 q.f3 q.f4 q.f5) (n, okB cons q) ∧ 0 ≤ n ∧ n ≤ nodes q := fun q hq => ih q hq (by have := nodes_mem hq; omega)
  have hl := length_nodes p.f5
  obtain ⟨n, hn, hn0, hn1⟩ := size_loop cons p.f5 hk (by omega) p.f5.length 0 1 (by omega) (by omega) (by simp; omega)
  rw [List.drop_zero] at hn hn1
  rw [okB_eq]
  cases hpl : plainB p.f0 p.f1 p.f2 p.f4 p.f5 with
  | false =>
    refine ⟨0, Ends.step (g := fun _ => some (0, false)) (by simpa using Ends.const (fun _ => rfl)) fun k => ?_, by omega, by omega⟩
    show cover_book_size.f (k + 1) cons p.f0 p.f1 p.f2 p.f3 p.f4 p.f5 = _
    rw [cover_book_size.f, plain_f, hpl]
    rfl
  | true =>
    rw [Bool.true_and]
    have hstep : ∀ {v}, Ends (fun k => cover_book_size.j0 k cons p.f0 (decide (p.f0 = 24 ∨ p.f0 = 4)) p.f0 p.f1 p.f2 p.f3 p.f4 p.f5) v → Ends (fun k => cover_book_size.f k cons p.f0 p.f1 p.f2 p.f3 p.f4 p.f5) v := by
      intro v h
      refine Ends.step h fun k => ?_
      show cover_book_size.f (k + 1) cons p.f0 p.f1 p.f2 p.f3 p.f4 p.f5 = _
      rw [cover_book_size.f, plain_f, hpl]
      simp only [Option.bind_some, if_true]
      by_cases h24 : p.f0 = 24
      · simp [h24]
      · rw [if_neg h24]
        have : (p.f0 == 4) = decide (p.f0 = 24 ∨ p.f0 = 4) := by
          by_cases h4 : p.f0 = 4 <;> simp [h24, h4]
        rw [this]
    by_cases ha : p.f0 = 24 ∨ p.f0 = 4
    · rw [if_pos ha]
      refine ⟨1, hstep (Ends.step (g := fun _ => some (1, true)) (Ends.const fun _ => rfl) fun k => ?_), by omega, by omega⟩
      rw [cover_book_size.j0, if_pos (by simpa using ha)]
    · rw [if_neg ha]
      have hd : decide (p.f0 = 24 ∨ p.f0 = 4) = false := by simpa using ha
      rw [hd] at hstep
      by_cases h1 : p.f0 = 1
      · rw [if_pos h1]
        refine ⟨1, hstep (Ends.step (g := fun _ => some (1, decide (0 ≤ p.f2))) (Ends.const fun _ => rfl) fun k => ?_), by omega, by omega⟩
        rw [cover_book_size.j0, if_neg (by decide), if_pos h1]
      · rw [if_neg h1]
        by_cases h5 : p.f0 = 5
        · rw [if_pos h5]
          have hj : ∀ {v} (b : Bool), b = (!(cons.any (isName p.f1)) || decide ((findC cons p.f1).f3 ≠ p.f5.length)) → Ends (fun k => cover_book_size.j1 k cons b p.f0 p.f1 p.f2 p.f3 p.f4 p.f5) v → Ends (fun k => cover_book_size.f k cons p.f0 p.f1 p.f2 p.f3 p.f4 p.f5) v := by
            intro v b hb h
            refine hstep (Ends.step h fun k => ?_)
            rw [cover_book_size.j0, if_neg (by decide), if_neg h1, if_pos h5]
            unfold cover_book_find.f
            simp only [Option.bind_some]
            cases hany : cons.any (isName p.f1) with
            | false =>
              rw [if_neg (by decide), hb, hany]
              rfl
            | true =>
              rw [if_pos rfl, hb, hany]
              have : ((findC cons p.f1).f3 != (p.f5.length : Int)) = (!true || decide ((findC cons p.f1).f3 ≠ p.f5.length)) := by
                by_cases h : (findC cons p.f1).f3 = (p.f5.length : Int) <;> simp [h]
              rw [← this]
              rfl
          cases hb : (!(cons.any (isName p.f1)) || decide ((findC cons p.f1).f3 ≠ p.f5.length)) with
          | true =>
            have hf : (cons.any (isName p.f1) && decide ((findC cons p.f1).f3 = p.f5.length) && okL cons p.f5) = false := by
              cases h7 : cons.any (isName p.f1) <;> simp_all
            rw [hf]
            refine ⟨0, hj true hb.symm (Ends.step (g := fun _ => some (0, false)) (Ends.const fun _ => rfl) fun k => ?_), by omega, by omega⟩
            rw [cover_book_size.j1, if_pos rfl]
          | false =>
            have hf : (cons.any (isName p.f1) && decide ((findC cons p.f1).f3 = p.f5.length) && okL cons p.f5) = okL cons p.f5 := by
              cases h7 : cons.any (isName p.f1) <;> simp_all
            rw [hf]
            refine ⟨n, hj false hb.symm (Ends.step hn fun k => ?_), hn0, ?_⟩
            · rw [cover_book_size.j1, if_neg (by decide)]
              rfl
            · rw [nodes_eq]; omega
        · rw [if_neg h5]
          refine ⟨0, hstep (Ends.step (g := fun _ => some (0, false)) (Ends.const fun _ => rfl) fun k => ?_), by omega, by omega⟩
          rw [cover_book_size.j0, if_neg (by decide), if_neg h1, if_neg h5]
end Go.Proofs.Ytikhkcnbabpneaa.P
