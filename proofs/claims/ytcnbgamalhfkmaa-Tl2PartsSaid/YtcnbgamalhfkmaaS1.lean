/- tl2: sorted. -/
import Derived.Test.YtcnbgamalhfkmaaS0
namespace Go.Proofs.Ytcnbgamalhfkmaa.P
open Go.RowKit Go.Proofs.YtcnbgamalhfkmaaW.PrintWords Go.Proofs.YtcnbgamalhfkmaaW.PrintLast Go.Proofs.YtcnbgamalhfkmaaW.PrintMore
set_option linter.unusedVariables false
set_option linter.unusedSimpArgs false
open Go.WideShapes Go.Maps Go.Shelf
def keysM (q : Mp) : List Int := q.map (·.1)
theorem keysM_rise {q : Mp} (h : Rise q) : (keysM q).Pairwise (· < ·) := List.pairwise_map.2 h
theorem mem_keysM (q : Mp) (j : Int) : j ∈ keysM q ↔ (getM q j).isSome = true := by
  induction q with
  | nil => simp [keysM, getM]
  | cons x q ih =>
    rw [getM_cons]
    by_cases e : x.1 = j
    · simp [keysM, e]
    · rw [if_neg e, ← ih]
      simp only [keysM, List.map_cons, List.mem_cons]
      exact ⟨fun h => h.resolve_left (fun e2 => e e2.symm), .inr⟩
section
variable {w : World}
set_option maxRecDepth 100000 in
set_option maxHeartbeats 4000000 in
theorem sorted_calls {bq : Nat} {q : Mp} (hq : MapAt w bq q) (hl : q.length ≤ 100000) :
    Calls Try.prog 54 #[.map (some bq)] w fun e w' => ∃ v, e = .returned v ∧ Kd.N kI 3 w' (w.heap.size + 1) (fun _ => True) v (keysM q) ∧ Below w.heap.size w w' := by
  have HQ := Aside0.mk hq
  have hbq := hq.lt
  go_enter Try.func54, Try.ntmps54
  go_wp2_with (first
    | (at_range; refine wpList_range_own _ rfl _ 78 rfl 3 3 lawM Try.underlying78 _ bq q.length _ rfl hq ?_; intro w0 hrg0 hg0 hs0)
    | go_in)
  go_frame
  go_loopw [3, 4] (fun s3 _ wr => ∃ (left : Lit → Bool) (cnt : Nat) (ys : List Int), wr.ranges Try.prog 3 (plainElem (H := Unit) Try.prog 3) bq w.heap.size q.length (toD q) left cnt ∧ Aside0 (ys.length + cnt ≤ q.length) ∧ Aside0 (Kd.N kI 3 wr (w.heap.size + 1) (fun _ => True) s3 ys) ∧
      Aside0 (ys.Nodup) ∧ Aside0 (∀ j, left (keyL j) = true → (getM q j).isSome = true) ∧ Aside0 (∀ j, j ∈ ys ↔ ((getM q j).isSome = true ∧ left (keyL j) = false)) ∧ Aside0 (Below w.heap.size w wr) ∧ w.heap.size + 1 ≤ wr.heap.size)
    (fun _ _ wr => wr.rangeLeft bq w.heap.size)
  case atStart =>
    refine ⟨_, _, [], hrg0, ⟨?_⟩, ⟨Kd.N_nil _ _ _ _ _⟩, ⟨List.nodup_nil⟩, ⟨fun j hj => isSome_of_has hj⟩, ⟨fun j => ?_⟩, ⟨(Below.refl _ w).grown hg0 (Nat.le_refl _) (fun k e => by cases e)⟩, by omega⟩
    · show 0 + Maps.size (toD q) ≤ _
      unfold toD; rw [Maps.size_eq, List.length_map]; omega
    · rw [has_toD]
      cases getM q j <;> simp
  case round =>
    obtain ⟨left, cnt, ys, hrg, HL, HN, HD, HI, HG, HB, hsz⟩ := hrel
    obtain ⟨A, c0, rfl⟩ := Kd.N_slice HN.out
    have hyl : ys.length ≤ 100000 := by have := HL.out; omega
    go_wp2_with (first
      | (at_next; refine wpList_next_ranges_ii _ rfl _ rfl 3 3 .i64 .i64 lawM Try.underlying3 Try.underlying3 bq w.heap.size q.length _ _ _ rfl hrg ?_ ?_)
      | go_in)
    · intro hc0 hl0
      have hperm : ys.Perm (keysM q) := (List.perm_ext_iff_of_nodup HD.out ((keysM_rise HQ.out.rise).imp fun h => Int.ne_of_lt h)).2 (fun j => by rw [HG.out j, mem_keysM, hl0]; simp)
      have hE := Aside0.mk (show sortI ys = keysM q from rise_perm (sortI_pair ys) (keysM_rise HQ.out.rise) ((sortI_perm ys).trans hperm))
      have hsc := sort_calls HN.out (by omega)
      go_wp2_with fail
      refine hsc.mono ?_; rintro e w2 ⟨⟨u, rfl⟩, hN2, hg2⟩
      have HN2 := Aside0.mk hN2
      have HG2 := Aside0.mk hg2
      clear hsc hN2 hg2
      go_wp2
      go_ret
      refine ⟨_, rfl, by rw [← hE.out]; exact HN2.out, HB.out.grown HG2.out HB.out.size (fun k e => ?_)⟩
      have := HN.out.1 k e
      have h3 := Kd.N_base HN.out k e
      omega
    · intro x c w1 cnt1 hwx hwc hlx hat hrg1 hlt hg1 hs1 hen
      have hN1 := N_flat_move kI_flat HN.out (w1 := w1) (fun k hk => hg1.block k (Kd.N_lt HN.out k hk) (fun e => by have := Kd.N_base HN.out k hk; injection e with e; omega))
      have HN1 := Aside0.mk hN1
      clear hN1
      go_wp2_with ((with_reducible refine gate_builtin (b := .append) (xs := #[.tmp 11, .tmp 13]) rfl ?_); at_builtin; refine Kd.N_append kI (w0 := w1) (w.heap.size + 1) rfl (.tmp 11) (.tmp 13) 29 3 (.int .i64 0) 8 rfl Try.underlying29 info3 rfl (by decide) (by omega) (.slice A ys.length c0) ys x [.int .i64 x] (fun _ => True) (fun _ => False) rfl (by simp [Act.eval]) ?aP (fun _ hk => hk.elim) (fun _ _ => trivial) ?aO ?aB ?aS ?aL ?_; (case aP => exact fun W' _ => rfl); (case aO => exact HN1.out); (case aB => exact Below.refl _ _); (case aS => omega); (case aL => omega); intro v1 w2 ho hb hg hat2; have HN2 := Aside0.mk ho; have HB2 := Aside0.mk hb; have HG2 := Aside0.mk hg; clear ho hb hg hat2; go_frame)
      have hrg2 := hrg1.kept HG2.out (fun e => by have := Kd.N_base HN1.out _ e.symm; omega) (fun e => by have := Kd.N_base HN1.out _ e.symm; omega)
      have hs2 := HG2.out.size
      go_roundw
      case rel =>
        refine ⟨_, cnt1, ys ++ [x], hrg2, ⟨by have := HL.out; simp; omega⟩, ⟨HN2.out⟩, ⟨?_⟩, ⟨fun j hj => HI.out j (by simp only [Bool.and_eq_true] at hj; exact hj.1)⟩, ⟨fun j => ?_⟩, ⟨?_⟩, by omega⟩
        · rw [List.nodup_append]
          refine ⟨HD.out, by simp, fun a ha b hb e => ?_⟩
          rw [List.mem_singleton.1 hb] at e
          subst e
          have h1 := ((HG.out a).1 ha).2
          have h2 : left (keyL a) = true := hlx
          rw [h1] at h2; cases h2
        · rw [List.mem_append, List.mem_singleton, HG.out j]
          show _ ↔ (getM q j).isSome = true ∧ (left (keyL j) && !(keyL j).sameKey (keyL x)) = false
          rw [same_key]
          by_cases e : j = x
          · subst e
            have := HI.out j hlx
            simp [this]
          · have e2 : (j == x) = false := by rw [beq_eq_false_iff_ne]; exact e
            rw [e2]
            simp [e]
        · exact (HB.out.grown hg1 HB.out.size (fun k e => by injection e with e; omega)).grown HG2.out (by have := HB.out.size; omega) (fun k e => by have := Kd.N_base HN1.out k e; omega)
      case measure => rw [hrg2.left_eq, hrg.left_eq]; exact hlt
end
end Go.Proofs.Ytcnbgamalhfkmaa.P
