/- tl2: a new engine; both engines side by side; begin. -/
import Derived.Test.YtcnbgamalhfkmaaR1
namespace Go.Proofs.Ytcnbgamalhfkmaa.P
open Go.RowKit Go.Proofs.YtcnbgamalhfkmaaW.PrintWords Go.Proofs.YtcnbgamalhfkmaaW.PrintLast Go.Proofs.YtcnbgamalhfkmaaW.PrintMore
set_option linter.unusedVariables false
set_option linter.unusedSimpArgs false
open Go.WideShapes Go.Maps
theorem new_eng (w : World) {base : Nat} (hb : base ≤ w.heap.size) : EngAt (w.alloc (.cells #[.int .i64 0, .slice none 0 0, .pointer none, .pointer none, .pointer none, .pointer none, .pointer none, .pointer none, .pointer none, .pointer none] 77)) base (fun k => if k = w.heap.size then 1 else 0) w.heap.size newE #[.int .i64 0, .slice none 0 0, .pointer none, .pointer none, .pointer none, .pointer none, .pointer none, .pointer none, .pointer none, .pointer none] (.slice none 0 0) := by
  refine ⟨by simp, fun k hk => ?_, rfl, blk_new w _, rfl, rfl, rfl, Kd.N_nil _ _ _ _ _, fun t ht => ?_⟩
  · change (if k = w.heap.size then 1 else 0) ≠ 0 at hk
    have : k = w.heap.size := by
      by_cases e1 : k = w.heap.size
      · exact e1
      · rw [if_neg e1] at hk; exact absurd rfl hk
    rw [World.size_alloc]
    omega
  · match t, ht with
    | 0, _ => exact ⟨_, rfl, rfl⟩
    | 1, _ => exact ⟨_, rfl, rfl⟩
    | 2, _ => exact ⟨_, rfl, rfl⟩
    | 3, _ => exact ⟨_, rfl, rfl⟩
    | 4, _ => exact ⟨_, rfl, rfl⟩
    | 5, _ => exact ⟨_, rfl, rfl⟩
    | 6, _ => exact ⟨_, rfl, rfl⟩
    | 7, _ => exact ⟨_, rfl, rfl⟩
/-- The two engines, apart, in what was made since w0. -/
def Pair (w0 : World) (g a : Nat) (s : PEng) (r : REng) (W : World) : Prop := ∃ ρ cells vs σ V gt tc, EngAt W w0.heap.size ρ g s cells vs ∧ RefAt W w0.heap.size σ a r V gt tc ∧ (∀ k, ρ k ≠ 0 → σ k = 0) ∧ Below w0.heap.size w0 W
section
variable {w0 W W' : World} {ρ σ : Nat → Nat} {g a gt : Nat} {s s' : PEng} {r r' : REng} {cells tc : Array Value} {vs V : Value}
theorem Pair.turnE (hR : RefAt W w0.heap.size σ a r V gt tc) (hap : ∀ k, ρ k ≠ 0 → σ k = 0) (hb : Below w0.heap.size w0 W) (h : EngPost W w0.heap.size ρ g s' W') : Pair w0 g a s' r W' := by
  obtain ⟨ρ', cells', vs', he, hd⟩ := h
  refine ⟨ρ', cells', vs', σ, V, gt, tc, he, hR.kept hd.kept (fun k hk => hap k hk), fun k hk => ?_, hb.trans hd.below⟩
  by_cases hl : k < W.heap.size
  · rw [hd.same k hl] at hk; exact hap k hk
  · by_cases e : σ k = 0
    · exact e
    · have := hR.own k e; omega
theorem Pair.turnR (hE : EngAt W w0.heap.size ρ g s cells vs) (hap : ∀ k, ρ k ≠ 0 → σ k = 0) (hb : Below w0.heap.size w0 W) (h : RefPost W w0.heap.size σ a r' W') : Pair w0 g a s r' W' := by
  obtain ⟨σ', V', gt', tc', he, hd⟩ := h
  have hap2 : ∀ k, σ k ≠ 0 → ρ k = 0 := fun k hk => by
    by_cases e : ρ k = 0
    · exact e
    · exact absurd (hap k e) hk
  refine ⟨ρ, cells, vs, σ', V', gt', tc', hE.kept hd.kept (fun k hk => hap2 k hk), he, fun k hk => ?_, hb.trans hd.below⟩
  rw [hd.same k (hE.own k hk).2]
  exact hap k hk
theorem new_pair (w : World) : Pair w w.heap.size (w.heap.size + 1 + 1) newE newR (((w.alloc (.cells #[.int .i64 0, .slice none 0 0, .pointer none, .pointer none, .pointer none, .pointer none, .pointer none, .pointer none, .pointer none, .pointer none] 77)).alloc (.cells zT 51)).alloc (.cells #[.int .i64 0, .slice none 0 0, .slice (some ⟨w.heap.size + 1, 0, none⟩) 8 8] 55)) := by
  have h1 := new_eng w (Nat.le_refl w.heap.size)
  have h2 := new_ref (w.alloc (.cells #[.int .i64 0, .slice none 0 0, .pointer none, .pointer none, .pointer none, .pointer none, .pointer none, .pointer none, .pointer none, .pointer none] 77)) (base := w.heap.size) (by simp)
  rw [World.size_alloc] at h2
  refine ⟨_, _, _, _, _, _, _, h1.below (below_alloc (below_alloc (Below.refl _ _) _) _), h2, fun k hk => ?_, below_alloc (below_alloc (below_alloc (Below.refl _ _) _) _) _⟩
  change (if k = w.heap.size then 1 else 0) ≠ 0 at hk
  show (if k = w.heap.size + 1 then 3 else if k = w.heap.size + 1 + 1 then 1 else 0) = 0
  have : k = w.heap.size := by
    by_cases e1 : k = w.heap.size
    · exact e1
    · rw [if_neg e1] at hk; exact absurd rfl hk
  rw [if_neg (by omega), if_neg (by omega)]
def begE : Nat → PEng
  | 0 => newE
  | i + 1 => (makeE (begE i) (10 + (i : Int))).2.2
def begR : Nat → REng
  | 0 => newR
  | i + 1 => (makeR (begR i) (10 + (i : Int))).2.2
theorem begR_len : ∀ i, i < 4 → (begR i).vars.length ≤ 4000
  | 0, _ => by decide
  | 1, _ => by decide
  | 2, _ => by decide
  | 3, _ => by decide
theorem begE_len : ∀ i, i < 4 → (begE i).vars.length ≤ 4000
  | 0, _ => by decide
  | 1, _ => by decide
  | 2, _ => by decide
  | 3, _ => by decide
set_option maxHeartbeats 8000000 in
set_option maxRecDepth 100000 in
theorem begin2_calls (w : World) : Calls Try.prog 10 #[] w fun e w' => e = .returned (.tuple #[.pointer (some ⟨w.heap.size, 0, none⟩), .pointer (some ⟨w.heap.size + 1 + 1, 0, none⟩)]) ∧ Pair w w.heap.size (w.heap.size + 1 + 1) (begE 4) (begR 4) w' := by
  have hn := new_calls w
  have hr := rnew_calls (w.alloc (.cells #[.int .i64 0, .slice none 0 0, .pointer none, .pointer none, .pointer none, .pointer none, .pointer none, .pointer none, .pointer none, .pointer none] 77))
  rw [World.size_alloc] at hr
  have HP := Aside0.mk (new_pair w)
  go_enter Try.func10, Try.ntmps10
  go_wp2_with fail
  refine hn.mono ?_; rintro e w' ⟨rfl, rfl⟩
  go_wp2_with fail
  refine hr.mono ?_; rintro e w' ⟨rfl, rfl⟩
  clear hn hr
  generalize ((w.alloc (.cells #[.int .i64 0, .slice none 0 0, .pointer none, .pointer none, .pointer none, .pointer none, .pointer none, .pointer none, .pointer none, .pointer none] 77)).alloc (.cells zT 51)).alloc (.cells #[.int .i64 0, .slice none 0 0, .slice (some ⟨w.heap.size + 1, 0, none⟩) 8 8] 55) = W0 at *
  go_wp2
  go_loopg [4] 4 (fun gg s4 wr => ∃ i : Nat, i ≤ 4 ∧ 4 - i ≤ gg ∧ s4 = .int .i64 i ∧ Aside0 (Pair w w.heap.size (w.heap.size + 1 + 1) (begE i) (begR i) wr))
  case atStart => exact ⟨0, by omega, by omega, rfl, ⟨HP.out⟩⟩
  case round =>
    obtain ⟨i, hi, hg, rfl, HR⟩ := hrel
    by_cases hlt : i < 4
    · have hltz : (i : Int) < 4 := by omega
      have hw : wrap64 (10 + (i : Int)) = 10 + (i : Int) := IntWalk.wrap64_in _ (by omega)
      obtain ⟨ρ, cells, vs, σ, V, gt, tc, hE, hR, hap, hb⟩ := HR.out
      have hmk := make_calls hE (begE_len i hlt) (10 + (i : Int))
      have HAP := Aside0.mk hap
      have HB := Aside0.mk hb
      have HRR := Aside0.mk hR
      clear hE hap hb hR HR HP
      go_wp2_with fail
      refine hmk.mono ?_; rintro e W1 ⟨rfl, hP1⟩
      have HP1 := Aside0.mk (Pair.turnE HRR.out HAP.out HB.out hP1)
      clear hmk hP1 HAP HB HRR
      obtain ⟨ρ1, cells1, vs1, σ1, V1, gt1, tc1, hE1, hR1, hap1, hb1⟩ := HP1.out
      have hmr := rmake_calls hR1 (10 + (i : Int)) (begR_len i hlt)
      have HAP := Aside0.mk hap1
      have HB := Aside0.mk hb1
      have HEE := Aside0.mk hE1
      clear hE1 hap1 hb1 hR1 HP1
      go_wp2_with fail
      refine hmr.mono ?_; rintro e W2 ⟨rfl, hP2⟩
      have HP2 := Aside0.mk (Pair.turnR HEE.out HAP.out HB.out hP2)
      clear hmr hP2 HAP HB HEE
      go_wp2
      go_roundg (4 - (i + 1))
      case measure => omega
      case rel => exact ⟨i + 1, by omega, by omega, by go_num, ⟨HP2.out⟩⟩
    · have hltz : ¬ (i : Int) < 4 := by omega
      obtain rfl : i = 4 := by omega
      go_wp2
      go_ret2
      exact ⟨rfl, HR.out⟩
end
end Go.Proofs.Ytcnbgamalhfkmaa.P
