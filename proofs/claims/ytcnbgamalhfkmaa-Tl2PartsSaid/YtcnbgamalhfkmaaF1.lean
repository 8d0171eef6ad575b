/- tl2: slices.Backward over the parts. -/
import Derived.Test.YtcnbgamalhfkmaaE1
import Derived.RangeFuncNested
import Derived.RangeFuncBound
import Derived.RangeFuncCalls
import Derived.RangeFuncLeaves
import Derived.Shelf.RegionOpen
import Derived.OwnWalkIn
import Derived.TacticsInMore
import Derived.LoopNIn
import Derived.LoopIn
import Derived.Maps.OwnIn
namespace Go.Proofs.Ytcnbgamalhfkmaa.P
open Go.RowKit Go.Proofs.YtcnbgamalhfkmaaW.PrintWords Go.Proofs.YtcnbgamalhfkmaaW.PrintLast Go.Proofs.YtcnbgamalhfkmaaW.PrintMore
set_option linter.unusedVariables false
set_option linter.unusedSimpArgs false
open Go.WideShapes Go.Maps Go.Shelf
attribute [local go_sem] Oper.semAt_some

/-- The places of a row, the last one ahead. -/
def backs (n : Nat) : List (Fin n) := (List.finRange n).reverse
theorem backs_len (n : Nat) : (backs n).length = n := by simp [backs]
theorem backs_take {n r : Nat} (h : r + 1 ≤ n) : (backs n).take (n - r) = (backs n).take (n - (r + 1)) ++ [(⟨r, by omega⟩ : Fin n)] := by
  have e : n - r = (n - (r + 1)) + 1 := by omega
  rw [e, List.take_succ_eq_append_getElem (by rw [backs_len]; omega)]
  congr 2
  unfold backs
  rw [List.getElem_reverse, List.getElem_finRange]
  ext
  simp
  omega
set_option maxRecDepth 100000 in
set_option maxHeartbeats 4000000 in
theorem back_round (n : Nat) (hn : 1 ≤ n) (l Bs n₀ b cap : Nat) (ms : List Nat) (hm : ms.length ≤ 100000) (hb : b < n₀) (hBn : Bs < n₀) (J Jx : List (Fin ms.length) → World → Prop)
    (hY : ∀ pre x W, J pre W → pre.length < ms.length → YieldAt Fence.wide (n - 1) Try.prog l #[.int .i64 (x.1 : Nat), .map (some (ms[x.1]'x.2))] W fun e W' =>
      (e = .returned (.bool true) ∧ J (pre ++ [x]) W' ∧ Below n₀ W W') ∨ (e = .returned (.bool false) ∧ Jx (pre ++ [x]) W'))
    (W : World) (hBs : W.cell? ⟨Bs, 0, none⟩ = some (.slice (some ⟨b, 0, none⟩) ms.length cap)) (hc : ∀ (j : Nat) (hj : j < ms.length), W.cell? ⟨b, j, none⟩ = some (.map (some ms[j]))) (h0 : J [] W) :
    CallsIn Fence.wide n Try.prog 63 #[.func (.yield l) #[] #[], .pointer (some ⟨Bs, 0, none⟩)] W fun e W' => (∃ v, e = .returned v) ∧
      ((∃ ys, ys = backs ms.length ∧ J ys W') ∨ (∃ pre, pre <+: backs ms.length ∧ Jx pre W')) := by
  refine callsIn_of_wp Try.func63 rfl trivial ?_ rfl
  simp only [Try.ntmps63, List.size_toArray, List.length_cons, List.length_nil, Nat.reduceAdd, Nat.reduceSub, Array.replicate_succ, Array.replicate_zero, List.push_toArray, List.append_toArray, List.nil_append, List.cons_append]
  gi_wp2
  gi_loopw [3] (fun i wr => ∃ r : Nat, r ≤ ms.length ∧ i = .int .i64 ((r : Int) - 1) ∧ J ((backs ms.length).take (ms.length - r)) wr ∧ Below n₀ W wr)
    (fun i _ => (intOf i + 1).toNat)
  case atStart => exact ⟨ms.length, Nat.le_refl _, rfl, by rw [Nat.sub_self]; exact h0, Below.refl _ _⟩
  case round =>
    obtain ⟨r, hr, rfl, hJs, hnx⟩ := hrel
    have hbx := (hnx.cell (p := ⟨Bs, 0, none⟩) hBn).trans hBs
    cases r with
    | zero =>
      have hneg : ¬ (0 : Int) ≤ ((0 : Nat) : Int) - 1 := by omega
      have hJ' : J (backs ms.length) wr := by
        have h := hJs
        rw [Nat.sub_zero, List.take_of_length_le (by rw [backs_len]; omega)] at h
        exact h
      have HJ := Aside0.mk hJ'
      clear hJs hJ'
      gi_wp2
      go_end0
      first | exact ⟨⟨_, rfl⟩, .inl ⟨_, rfl, HJ.out⟩⟩ | exact ⟨⟨_, rfl⟩, .inl HJ.out⟩ | exact .inl HJ.out
    | succ r =>
      have hri : (((r + 1 : Nat)) : Int) - 1 = (r : Int) := by omega
      rw [hri]
      have hlt : r < ms.length := by omega
      have hcx := (hnx.cell (p := ⟨b, r, none⟩) hb).trans (hc r hlt)
      have hz : (0 : Int) ≤ (r : Int) := by omega
      have hltz : (r : Int) < (ms.length : Int) := by omega
      obtain ⟨fn, tmps, assign, body, hy, hR⟩ := hY _ ⟨r, hlt⟩ wr hJs (by rw [List.length_take, backs_len]; omega)
      dsimp only at hy
      have HP := Aside0.mk (show (backs ms.length).take (ms.length - (r + 1)) ++ [(⟨r, hlt⟩ : Fin ms.length)] = (backs ms.length).take (ms.length - r) from (backs_take hr).symm)
      clear hri hbx hJs
      have hbx := (hnx.cell (p := ⟨Bs, 0, none⟩) hBn).trans hBs
      gi_wp2
      refine hR.mono ?_
      rintro e W3 (⟨rfl, hJ3, hk3⟩ | ⟨rfl, hJx3⟩)
      · gi_wp2
        go_roundw
        case rel => exact ⟨r, by omega, rfl, by rw [← HP.out]; exact hJ3, hnx.trans hk3⟩
        case measure => simp [intOf]
      · gi_wp2
        refine bodyPost_ret (results_none rfl _ _ _) rfl ?_
        exact ⟨⟨_, rfl⟩, .inr ⟨_, by rw [HP.out]; exact List.take_prefix _ _, hJx3⟩⟩
set_option maxHeartbeats 1000000 in
theorem backward_calls (A : Option Addr) (len cap : Nat) (w : World) :
    Calls Try.prog 43 #[.slice A len cap] w fun e w' => e = .returned (.func (.func 63) #[] #[.pointer (some ⟨w.heap.size, 0, none⟩)]) ∧ w.alloc (.cells #[.slice A len cap] 79) = w' := by
  go_enter Try.func43, Try.ntmps43
  go_wp2
  go_ret
  exact ⟨rfl, rfl⟩
/-- The iterator's contract. -/
theorem back_stops (n : Nat) (hn : 1 ≤ n) (Bs n₀ b cap : Nat) (ms : List Nat) (hm : ms.length ≤ 100000) (w : World) (hb : b < n₀) (hBn : Bs < n₀) (hn₀ : n₀ ≤ w.heap.size)
    (hBs : w.cell? ⟨Bs, 0, none⟩ = some (.slice (some ⟨b, 0, none⟩) ms.length cap)) (hc : ∀ (j : Nat) (hj : j < ms.length), w.cell? ⟨b, j, none⟩ = some (.map (some ms[j]))) :
    SeqStopsK Fence.wide n Try.prog 63 #[.pointer (some ⟨Bs, 0, none⟩)] (fun x : Fin ms.length => #[Value.int .i64 (x.1 : Nat), .map (some (ms[x.1]'x.2))]) (Below n₀) (fun ys => ys = backs ms.length) (fun pre => pre <+: backs ms.length) ms.length w := fun l J Jx W hW _ _ hY h0 =>
  back_round n hn l Bs n₀ b cap ms hm hb hBn J Jx hY W ((hW.cell (p := ⟨Bs, 0, none⟩) (by show Bs < _; omega)).trans hBs) (fun j hj => (hW.cell (p := ⟨b, j, none⟩) (by show b < _; omega)).trans (hc j hj)) h0
end Go.Proofs.Ytcnbgamalhfkmaa.P
