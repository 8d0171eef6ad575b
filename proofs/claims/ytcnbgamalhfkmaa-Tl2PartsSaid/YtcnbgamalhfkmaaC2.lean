/- tl2: Begin. -/
import Derived.Test.YtcnbgamalhfkmaaC1
namespace Go.Proofs.Ytcnbgamalhfkmaa.P
open Go.RowKit Go.Proofs.YtcnbgamalhfkmaaW.PrintWords Go.Proofs.YtcnbgamalhfkmaaW.PrintLast Go.Proofs.YtcnbgamalhfkmaaW.PrintMore
set_option linter.unusedVariables false
set_option linter.unusedSimpArgs false
open Go.WideShapes Go.Maps

theorem frozen_lt {w w1 : World} (h : Below w.heap.size w w1) {a : Addr} {b : Bool} (hl : a.block < w.heap.size) (hf : w.frozen? a = b) : w1.frozen? a = b := (h.frozen hl).trans hf
theorem inT_iff {t : Int} : inT t = true ↔ 0 ≤ t ∧ t < 8 := by simp [inT]
theorem ofE_in {s : PEng} {tn : Nat} (ht : tn < 8) : ofE s (tn : Int) = s.txs.getD tn none := by
  unfold ofE
  rw [if_pos (inT_iff.2 (by omega))]
  rfl
theorem ofE_out {s : PEng} {t : Int} (ht : t < 0 ∨ 8 ≤ t) : ofE s t = none := by
  unfold ofE
  rw [if_neg (by rw [inT_iff]; omega)]
theorem N_one {w : World} {base b m : Nat} (hb : w.heap[b]? = some (.cells #[.map (some m)] 78 (0, 0))) (hbase : base ≤ b) : Kd.N kP 78 w base (fun k => k = b) (.slice (some ⟨b, 0, none⟩) 1 1) [m] := by
  refine Kd.R_N ⟨fun k hk => by simpa [Value.ownBlock] using hk.symm, [.map (some m)], ⟨rfl, .inr ⟨b, 1, _, rfl, hbase, hb, Nat.le_refl _, by decide, rfl, rfl⟩⟩, ?_⟩
  exact Reps.one (v := .map (some m)) rfl (Reps.none _ _)
theorem EngPost.below {W W1 W2 : World} {base : Nat} {ρ : Nat → Nat} {g : Nat} {s : PEng} (h : EngPost W base ρ g s W1) (hb : Below W1.heap.size W1 W2) : EngPost W base ρ g s W2 := by
  obtain ⟨ρ', cells', vs', he, hd⟩ := h
  exact ⟨ρ', cells', vs', he.below hb, ⟨hd.same, hd.kept.below hb, hd.below.trans (hb.mono he.base_le)⟩⟩
theorem EngPost.drew {W W1 : World} {base : Nat} {ρ : Nat → Nat} {g : Nat} {s : PEng} (h : EngPost W base ρ g s W1) : EngPost W base ρ g s W1.drew := h.below (below_drew (Below.refl _ _))
/-- A new transaction. -/
theorem EngAt.new_tx {W : World} {base : Nat} {ρ : Nat → Nat} {g : Nat} {s : PEng} {cells : Array Value} {vs : Value} (h : EngAt W base ρ g s cells vs) {t : Nat} (ht : t < 8) :
    EngPost W base ρ g (P.setTx s (t : Int) (some ⟨s.clock, 0, [], [[]], false, false, []⟩)) ((((W.alloc (.map #[] 0)).alloc (.cells #[.map (some W.heap.size)] 78)).alloc (.cells #[.int .i64 s.clock, .int .i64 0, .slice none 0 0, .slice (some ⟨W.heap.size + 1, 0, none⟩) 1 1, .bool false, .bool false, .slice none 0 0] 81)).setCell ⟨g, 2 + t, none⟩ (.pointer (some ⟨W.heap.size + 1 + 1, 0, none⟩))).drew := by
  have hgl := h.g_lt
  obtain ⟨W1, hW1⟩ : ∃ W1, W.alloc (.map #[] 0) = W1 := ⟨_, rfl⟩
  obtain ⟨W2, hW2⟩ : ∃ W2, W1.alloc (.cells #[.map (some W.heap.size)] 78) = W2 := ⟨_, rfl⟩
  obtain ⟨W3, hW3⟩ : ∃ W3, W2.alloc (.cells #[.int .i64 s.clock, .int .i64 0, .slice none 0 0, .slice (some ⟨W.heap.size + 1, 0, none⟩) 1 1, .bool false, .bool false, .slice none 0 0] 81) = W3 := ⟨_, rfl⟩
  have s1 : W1.heap.size = W.heap.size + 1 := by rw [← hW1]; simp
  have s2 : W2.heap.size = W.heap.size + 2 := by rw [← hW2]; simp [s1]
  have s3 : W3.heap.size = W.heap.size + 3 := by rw [← hW3]; simp [s2]
  have hm : MapAt W3 W.heap.size [] := (MapAt.made W).move (by
    rw [hW1, ← hW3, Below.heap_alloc W2 _ _ (by omega), ← hW2, Below.heap_alloc W1 _ _ (by omega)])
  have hp : W3.heap[W.heap.size + 1]? = some (.cells #[.map (some W.heap.size)] 78 (0, 0)) := by
    rw [← hW3, Below.heap_alloc W2 _ _ (by omega), ← hW2]
    have := blk_new W1 (.cells #[.map (some W.heap.size)] 78)
    rwa [s1] at this
  have hx : W3.heap[W.heap.size + 2]? = some (.cells #[.int .i64 s.clock, .int .i64 0, .slice none 0 0, .slice (some ⟨W.heap.size + 1, 0, none⟩) 1 1, .bool false, .bool false, .slice none 0 0] 81 (0, 0)) := by
    have := blk_new W2 (.cells #[.int .i64 s.clock, .int .i64 0, .slice none 0 0, .slice (some ⟨W.heap.size + 1, 0, none⟩) 1 1, .bool false, .bool false, .slice none 0 0] 81)
    rwa [hW3, s2] at this
  have hB : Below W.heap.size W W3 := by
    rw [← hW3, ← hW2, ← hW1]
    exact below_alloc (below_alloc (below_alloc (Below.refl _ _) _) _) _
  rw [hW1, hW2, hW3]
  refine EngPost.drew ?_
  show EngPost W base ρ g _ (W3.setCell ⟨g, 2 + t, none⟩ (.pointer (some ⟨W.heap.size + 2, 0, none⟩)))
  have hset : ∀ k, k ≠ g → (W3.setCell ⟨g, 2 + t, none⟩ (.pointer (some ⟨W.heap.size + 2, 0, none⟩))).heap[k]? = W3.heap[k]? := fun k hk => Below.heap_setCell W3 _ _ k hk
  have hsame : Same W ρ (fun k => if k = W.heap.size then rl t 4 else if k = W.heap.size + 1 then rl t 2 else if k = W.heap.size + 2 then rl t 0 else ρ k) := fun k hk => by
    show (if k = W.heap.size then _ else _) = _
    rw [if_neg (by omega), if_neg (by omega), if_neg (by omega)]
  refine ⟨fun k => if k = W.heap.size then rl t 4 else if k = W.heap.size + 1 then rl t 2 else if k = W.heap.size + 2 then rl t 0 else ρ k, _, vs, h.setTx ht (p' := .pointer (some ⟨W.heap.size + 2, 0, none⟩)) hsame (fun k hk => ?_) ?_ (fun k h0 h1 _ => ?_) ⟨W.heap.size + 2, .slice none 0 0, .slice (some ⟨W.heap.size + 1, 0, none⟩) 1 1, .slice none 0 0, [W.heap.size], rfl, ?_⟩, ⟨hsame, ?_, ?_⟩⟩
  · rw [setCell_size, s3]
    have hb := h.base_le
    by_cases e0 : k = W.heap.size
    · omega
    · by_cases e1 : k = W.heap.size + 1
      · omega
      · by_cases e2 : k = W.heap.size + 2
        · omega
        · simp only [e0, e1, e2, if_false] at hk
          have := h.own k hk
          omega
  · exact blk_set (blk_below h.blk hB) _ _
  · rw [hset k (fun e => h1 (by rw [e]; exact h.role))]
    exact hB.block k (h.own k h0).2
  · have hb := h.base_le
    refine ⟨by simp, by omega, by rw [hset _ (by omega)]; exact hx, Kd.N_nil _ _ _ _ _, ?_, ⟨none, 0, rfl, Nat.le_refl _, Kd.F_nil _ _ _⟩, ⟨rfl, by simp, fun i m p hm' hp' => ?_⟩⟩
    · have hh := N_one (w := W3.setCell ⟨g, 2 + t, none⟩ (.pointer (some ⟨W.heap.size + 2, 0, none⟩))) (base := base) (b := W.heap.size + 1) (m := W.heap.size) (by rw [hset _ (by omega)]; exact hp) (by omega)
      exact Kd.N_mono hh (fun k hk => by rw [hk]; simp)
    · have e0 : i = 0 := by
        have := (List.getElem?_eq_some_iff.1 hm').1
        simpa using this
      subst e0
      simp only [List.getElem?_cons_zero, Option.some.injEq] at hm' hp'
      subst hm' hp'
      exact ⟨hb, by simp, hm.move (hset _ (by omega))⟩
  · exact (Kept.of_below hB _).setCell (.inl (by rw [h.role]; omega)) _
  · exact (hB.mono h.base_le).setCell (p := ⟨g, 2 + t, none⟩) hgl.1 _
set_option maxHeartbeats 8000000 in
set_option maxRecDepth 100000 in
theorem begin_calls {W : World} {base : Nat} {ρ : Nat → Nat} {g : Nat} {s : PEng} {cells : Array Value} {vs : Value} (h : EngAt W base ρ g s cells vs) (t : Int) :
    Calls Try.prog 11 #[.pointer (some ⟨g, 0, none⟩), .int .i64 t] W fun e w' => e = .returned (.int .i64 (beginE s t).1) ∧ EngPost W base ρ g (beginE s t).2 w' := by
  have HO := Aside0.mk (show beginE s t = if !inT t || (ofE s t).isSome then (1, s) else (0, setTx s t (some ⟨s.clock, 0, [], [[]], false, false, []⟩)) from rfl)
  have HH := Aside0.mk h
  by_cases h0 : t < 0
  · have HE := Aside0.mk (show beginE s t = (1, s) by rw [HO.out, if_pos]; simp [inT]; omega)
    clear h HO
    go_enter Try.func11, Try.ntmps11
    go_wp2
    go_ret
    rw [HE.out]
    exact ⟨rfl, ρ, _, _, HH.out, Did.refl⟩
  · by_cases h8 : 8 ≤ t
    · have HE := Aside0.mk (show beginE s t = (1, s) by rw [HO.out, if_pos]; simp [inT]; omega)
      clear h HO
      go_enter Try.func11, Try.ntmps11
      go_wp2
      go_ret
      rw [HE.out]
      exact ⟨rfl, ρ, _, _, HH.out, Did.refl⟩
    · obtain ⟨tn, rfl⟩ : ∃ tn : Nat, t = tn := ⟨t.toNat, by omega⟩
      have ht : tn < 8 := by omega
      have ht8 : (tn : Int) < 8 := by omega
      have hin : inT (tn : Int) = true := inT_iff.2 (by omega)
      obtain ⟨p, hc, hp, hx⟩ := h.cellT ht
      have hofe := ofE_in (s := s) ht
      rcases hx.form with ⟨e0, rfl⟩ | ⟨x, gt, rd, pa, lf, ms, e0, rfl, hx⟩
      · have HE := Aside0.mk (show beginE s tn = (0, setTx s tn (some ⟨s.clock, 0, [], [[]], false, false, []⟩)) by rw [HO.out, if_neg]; rw [hin, hofe, e0]; simp)
        have k0 := h.cell0
        have ft := blk_frozen h.blk (2 + tn)
        have hmm := @run_makeMap Try.prog
        have hgl := h.g_lt.2
        have n0 := World.new_ne W _ k0
        have n1 := World.new_ne W _ hc
        have n2 : W.heap.size + 1 ≠ g := by omega
        have n3 : W.heap.size + 1 + 1 ≠ g := by omega
        have hft : ∀ o1 o2 o3 : Obj, (((W.alloc o1).alloc o2).alloc o3).drew.frozen? ⟨g, 2 + tn, none⟩ = false := fun o1 o2 o3 => frozen_lt (w := W) (below_drew (below_alloc (below_alloc (below_alloc (Below.refl _ _) _) _) _)) hgl ft
        have hct : ∀ o1 o2 o3 : Obj, (((W.alloc o1).alloc o2).alloc o3).drew.cell? ⟨g, 2 + tn, none⟩ = some (.pointer none) := fun o1 o2 o3 => pw_cell_below (below_drew (below_alloc (below_alloc (below_alloc (Below.refl _ _) _) _) _)) hc
        clear h HO h8 hin hp hx hofe e0
        go_enter Try.func11, Try.ntmps11
        go_wp2_with fail
        go_region_law (fail)
        all_goals
          go_wp2
          go_ret
          rw [HE.out]
          exact ⟨rfl, HH.out.new_tx ht⟩
      · have HE := Aside0.mk (show beginE s tn = (1, s) by rw [HO.out, if_pos]; rw [hin, hofe, e0]; simp)
        clear h HO h8 hin hp hx hofe e0
        go_enter Try.func11, Try.ntmps11
        go_wp2
        go_ret
        rw [HE.out]
        exact ⟨rfl, ρ, _, _, HH.out, Did.refl⟩
end Go.Proofs.Ytcnbgamalhfkmaa.P
