/- tl2: New, of, open, is. -/
import Derived.Test.YtcnbgamalhfkmaaA1
namespace Go.Proofs.Ytcnbgamalhfkmaa.P
open Go.RowKit Go.Proofs.YtcnbgamalhfkmaaW.PrintWords Go.Proofs.YtcnbgamalhfkmaaW.PrintLast Go.Proofs.YtcnbgamalhfkmaaW.PrintMore
set_option linter.unusedVariables false
set_option linter.unusedSimpArgs false
open Go.WideShapes Go.Maps

theorem EngAt.cell0 {W : World} {base : Nat} {ρ : Nat → Nat} {g : Nat} {s : PEng} {cells : Array Value} {vs : Value} (h : EngAt W base ρ g s cells vs) : W.cell? ⟨g, 0, none⟩ = some (.int .i64 s.clock) := (blk_cell h.blk 0).trans h.clock
theorem EngAt.cell1 {W : World} {base : Nat} {ρ : Nat → Nat} {g : Nat} {s : PEng} {cells : Array Value} {vs : Value} (h : EngAt W base ρ g s cells vs) : W.cell? ⟨g, 1, none⟩ = some vs := (blk_cell h.blk 1).trans h.cv
theorem EngAt.cellT {W : World} {base : Nat} {ρ : Nat → Nat} {g : Nat} {s : PEng} {cells : Array Value} {vs : Value} (h : EngAt W base ρ g s cells vs) {t : Nat} (ht : t < 8) : ∃ p, W.cell? ⟨g, 2 + t, none⟩ = some p ∧ cells[2 + t]? = some p ∧ PtrAt W base ρ t p (s.txs.getD t none) := by
  obtain ⟨p, hp, hx⟩ := h.txs t ht
  exact ⟨p, (blk_cell h.blk (2 + t)).trans hp, hp, hx⟩
theorem PtrAt.form {W : World} {base : Nat} {ρ : Nat → Nat} {t : Nat} {p : Value} {o : Option PTx} (h : PtrAt W base ρ t p o) : (o = none ∧ p = .pointer none) ∨ ∃ x gt rd pa lf ms, o = some x ∧ p = .pointer (some ⟨gt, 0, none⟩) ∧ TxAt W base ρ t gt x rd pa lf ms := by
  cases o with
  | none => exact .inl ⟨rfl, h⟩
  | some x =>
    obtain ⟨gt, rd, pa, lf, ms, e, hx⟩ := h
    exact .inr ⟨x, gt, rd, pa, lf, ms, rfl, e, hx⟩
/-- A thread's transaction, as the engine's place and the memory have it. -/
def Got (W : World) (base : Nat) (ρ : Nat → Nat) (cells : Array Value) (t : Int) (p : Value) : Option PTx → Prop
  | none => p = .pointer none
  | some x => ∃ tn gt rd pa lf ms, t = (tn : Nat) ∧ tn < 8 ∧ p = .pointer (some ⟨gt, 0, none⟩) ∧ cells[2 + tn]? = some p ∧ TxAt W base ρ tn gt x rd pa lf ms
theorem Got.form {W : World} {base : Nat} {ρ : Nat → Nat} {cells : Array Value} {t : Int} {p : Value} {o : Option PTx} (h : Got W base ρ cells t p o) : (o = none ∧ p = .pointer none) ∨ ∃ x tn gt rd pa lf ms, o = some x ∧ t = (tn : Nat) ∧ tn < 8 ∧ p = .pointer (some ⟨gt, 0, none⟩) ∧ cells[2 + tn]? = some (.pointer (some ⟨gt, 0, none⟩)) ∧ TxAt W base ρ tn gt x rd pa lf ms := by
  cases o with
  | none => exact .inl ⟨rfl, h⟩
  | some x =>
    obtain ⟨tn, gt, rd, pa, lf, ms, e, ht, rfl, hc, hx⟩ := h
    exact .inr ⟨x, tn, gt, rd, pa, lf, ms, rfl, e, ht, rfl, hc, hx⟩
set_option maxHeartbeats 1000000 in
theorem new_calls (w : World) : Calls Try.prog 35 #[] w fun e w' => e = .returned (.pointer (some ⟨w.heap.size, 0, none⟩)) ∧ w.alloc (.cells #[.int .i64 0, .slice none 0 0, .pointer none, .pointer none, .pointer none, .pointer none, .pointer none, .pointer none, .pointer none, .pointer none] 77) = w' := by
  go_enter Try.func35, Try.ntmps35
  go_wp2
  go_ret
  exact ⟨rfl, rfl⟩
set_option maxHeartbeats 1000000 in
theorem of_calls {W : World} {base : Nat} {ρ : Nat → Nat} {g : Nat} {s : PEng} {cells : Array Value} {vs : Value} (h : EngAt W base ρ g s cells vs) (t : Int) :
    Calls Try.prog 53 #[.pointer (some ⟨g, 0, none⟩), .int .i64 t] W fun e w' => (∃ p, e = .returned p ∧ Got W base ρ cells t p (ofE s t)) ∧ W = w' := by
  have HO := Aside0.mk (show ofE s t = if inT t then (s.txs.getD t.toNat none) else none from rfl)
  have HI := Aside0.mk (show inT t = (decide (0 ≤ t) && decide (t < 8)) from rfl)
  by_cases h0 : t < 0
  · have HE := Aside0.mk (show ofE s t = none by rw [HO.out, HI.out]; simp; omega)
    go_enter Try.func53, Try.ntmps53
    go_wp2
    go_ret
    exact ⟨⟨_, rfl, by rw [HE.out]; rfl⟩, rfl⟩
  · by_cases h8 : 8 ≤ t
    · have HE := Aside0.mk (show ofE s t = none by rw [HO.out, HI.out]; simp; omega)
      go_enter Try.func53, Try.ntmps53
      go_wp2
      go_ret
      exact ⟨⟨_, rfl, by rw [HE.out]; rfl⟩, rfl⟩
    · obtain ⟨tn, rfl⟩ : ∃ tn : Nat, t = tn := ⟨t.toNat, by omega⟩
      have ht : tn < 8 := by omega
      obtain ⟨p, hc, hp, hx⟩ := h.cellT ht
      have HE := Aside0.mk (show Got W base ρ cells tn p (ofE s (tn : Int)) by
        rw [HO.out, HI.out, if_pos (by simp; omega)]
        show Got W base ρ cells tn p (s.txs.getD tn none)
        rcases hx.form with ⟨e, e2⟩ | ⟨x, gt, rd, pa, lf, ms, e, e2, hx⟩
        · rw [e]; exact e2
        · rw [e]; exact ⟨tn, gt, rd, pa, lf, ms, rfl, ht, e2, hp, hx⟩)
      have ht8 : (tn : Int) < 8 := by omega
      clear HO HI hp hx h8
      go_enter Try.func53, Try.ntmps53
      go_wp2
      go_ret
      exact ⟨⟨_, rfl, HE.out⟩, rfl⟩
set_option maxHeartbeats 1000000 in
theorem open_calls {W : World} {base : Nat} {ρ : Nat → Nat} {g : Nat} {s : PEng} {cells : Array Value} {vs : Value} (h : EngAt W base ρ g s cells vs) (t : Int) :
    Calls Try.prog 39 #[.pointer (some ⟨g, 0, none⟩), .int .i64 t] W fun e w' => (∃ p, e = .returned p ∧ Got W base ρ cells t p (openE s t)) ∧ W = w' := by
  have hof := of_calls h t
  have HO := Aside0.mk (show openE s t = (ofE s t).bind fun x => if x.commits then none else some x from rfl)
  clear h
  go_enter Try.func39, Try.ntmps39
  go_wp2_with fail
  refine hof.mono ?_; rintro e w' ⟨⟨p, rfl, hp⟩, rfl⟩
  clear hof
  rcases hp.form with ⟨e0, rfl⟩ | ⟨x, tn, gt, rd, pa, lf, ms, e0, rfl, ht, rfl, hcc, hx⟩
  · have HE := Aside0.mk (show openE s t = none by rw [HO.out, e0]; rfl)
    clear hp e0 HO
    go_wp2
    go_ret
    exact ⟨⟨_, rfl, by rw [HE.out]; rfl⟩, rfl⟩
  · have k4 := blk_cell hx.blk 4
    cases hc : x.commits with
    | true =>
      have HE := Aside0.mk (show openE s tn = none by rw [HO.out, e0]; simp [hc])
      clear hp e0 HO hx
      go_wp2
      go_ret
      exact ⟨⟨_, rfl, by rw [HE.out]; rfl⟩, rfl⟩
    | false =>
      have HE := Aside0.mk (show Got W base ρ cells tn (.pointer (some ⟨gt, 0, none⟩)) (openE s tn) by rw [HO.out, e0]; simp only [Option.bind_some, hc]; exact ⟨tn, gt, rd, pa, lf, ms, rfl, ht, rfl, hcc, hx⟩)
      clear hp e0 HO hx
      go_wp2
      go_ret
      exact ⟨⟨_, rfl, HE.out⟩, rfl⟩
set_option maxHeartbeats 1000000 in
theorem is_calls {W : World} {base : Nat} {ρ : Nat → Nat} {g : Nat} {s : PEng} {cells : Array Value} {vs : Value} (h : EngAt W base ρ g s cells vs) (n : Int) :
    Calls Try.prog 40 #[.pointer (some ⟨g, 0, none⟩), .int .i64 n] W fun e w' => e = .returned (.bool (isE s n)) ∧ W = w' := by
  have HO := Aside0.mk (show isE s n = (decide (0 ≤ n) && decide (n < s.vars.length)) from rfl)
  have k1 := h.cell1
  obtain ⟨A, c, rfl⟩ := Kd.N_slice h.vars
  clear h
  by_cases h0 : 0 ≤ n
  · by_cases h1 : n < s.vars.length
    · have HE := Aside0.mk (show isE s n = true by rw [HO.out]; simp [h0, h1])
      go_enter Try.func40, Try.ntmps40
      go_wp2
      go_ret
      exact ⟨by rw [HE.out]; rfl, rfl⟩
    · have HE := Aside0.mk (show isE s n = false by rw [HO.out]; simp [h0, h1])
      go_enter Try.func40, Try.ntmps40
      go_wp2
      go_ret
      exact ⟨by rw [HE.out]; rfl, rfl⟩
  · have HE := Aside0.mk (show isE s n = false by rw [HO.out]; simp [h0])
    go_enter Try.func40, Try.ntmps40
    go_wp2
    go_ret
    exact ⟨by rw [HE.out]; rfl, rfl⟩
end Go.Proofs.Ytcnbgamalhfkmaa.P
