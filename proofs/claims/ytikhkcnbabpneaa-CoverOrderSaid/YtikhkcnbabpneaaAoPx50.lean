-- Laid by this session's program wip/printx.py over the kit's print.py; functions that it does not take are walked by hand.
import Derived.Test.YtikhkcnbabpneaaAoPx0
import Derived.Test.YtikhkcnbabpneaaAoPx30
import Derived.Test.YtikhkcnbabpneaaAoPx32
import Derived.Test.YtikhkcnbabpneaaAoPx38
import Derived.Test.YtikhkcnbabpneaaAoH18
namespace Go.Proofs.Ytikhkcnbabpneaa.P
open Go.RowKit Go.Proofs.YtikhkcnbabpneaaW.PrintWords Go.Proofs.YtikhkcnbabpneaaW.PrintLast Go.Proofs.YtikhkcnbabpneaaW.PrintMore
attribute [local go_sem] max2_int min2_int max_two min_two max_three min_three max_four min_four   -- for this text's walks alone
set_option linter.unusedVariables false
set_option linter.unusedSimpArgs false

/-! ### selvagelaw09_CoverOrder: function 5 -/
mutual
def selvagelaw09_CoverOrder.l0 : Nat → List (S25) → List (S61) → List (S25) → Int → Option (Bool)
  | 0, _, _, _, _ => none
  | k + 1, x3, x4, x5, x6 => if x6 ≥ 0 then (if 0 ≤ x6 then (if x6 < (x3.length : Int) then (if x5.length < 1599289640401 then (selvagelaw09_CoverOrder.l0 k x3 x4 (x5 ++ [(⟨(rd_T25 x3 x6).f0, (rd_T25 x3 x6).f1, (rd_T25 x3 x6).f2, (rd_T25 x3 x6).f3, (rd_T25 x3 x6).f4, (rd_T25 x3 x6).f5⟩ : S25)]) (wrap64 (x6 - 1))) else (none)) else (none)) else (none)) else ((cover_Check.f k x3 x4).bind fun bt396 => ((cover_Check.f k x5 x4).bind fun bt398 => (if bt396.2 = 27 then (selvagelaw09_CoverOrder.j1 k bt396.2 bt398.2 true) else (selvagelaw09_CoverOrder.j1 k bt396.2 bt398.2 (bt398.2 == 27)))))
def selvagelaw09_CoverOrder.j1 : Nat → Int → Int → Bool → Option (Bool)
  | 0, _, _, _ => none
  | k + 1, x8, x10, x45 => if x45 = true then ((selvagelaw09_lives.f).bind fun t400 => (some t400)) else (if x8 = x10 then ((selvagelaw09_lives.f).bind fun t401 => (some t401)) else (some false))
end
def selvagelaw09_CoverOrder.f (k : Nat) (l0 : List (S25)) : Option (Bool) := (selvagelaw09_few.f k l0 5).bind fun t386 => ((selvageref09_Cons.f).bind fun t389 => (selvagelaw09_CoverOrder.l0 k t386 t389 ([] : List (S25)) (wrap64 ((t386.length : Int) - 1))))
theorem selvagelaw09_CoverOrder.mono_l : ∀ k, (∀ y0 y1 y2 y3, LeO (selvagelaw09_CoverOrder.l0 k y0 y1 y2 y3) (selvagelaw09_CoverOrder.l0 (k + 1) y0 y1 y2 y3)) ∧ (∀ y0 y1 y2, LeO (selvagelaw09_CoverOrder.j1 k y0 y1 y2) (selvagelaw09_CoverOrder.j1 (k + 1) y0 y1 y2))
  | 0 => ⟨fun _ _ _ _ r h => by simp [selvagelaw09_CoverOrder.l0] at h, fun _ _ _ r h => by simp [selvagelaw09_CoverOrder.j1] at h⟩
  | k + 1 => by
    obtain ⟨ih0, ih1⟩ := selvagelaw09_CoverOrder.mono_l k
    refine ⟨?_, ?_⟩
    · intro y0 y1 y2 y3
      unfold selvagelaw09_CoverOrder.l0
      repeat' first
      | (with_reducible exact ih0 _ _ _ _)
      | (with_reducible exact ih1 _ _ _)
      | (with_reducible exact cover_Check.mono _ _ _)
      | (with_reducible exact selvagelaw09_few.mono _ _ _)
      | (with_reducible exact LeO.refl _)
      | (with_reducible exact LeO.none _)
      | (with_reducible refine LeO.ite ?_ ?_)
      | (with_reducible refine LeO.bind ?_ (fun _ => ?_))
      | exact ih0 _ _ _ _
      | exact ih1 _ _ _
      | exact cover_Check.mono _ _ _
      | exact selvagelaw09_few.mono _ _ _
      | exact LeO.none _
      | refine LeO.ite ?_ ?_
      | refine LeO.bind ?_ (fun _ => ?_)
    · intro y0 y1 y2
      unfold selvagelaw09_CoverOrder.j1
      repeat' first
      | (with_reducible exact ih0 _ _ _ _)
      | (with_reducible exact ih1 _ _ _)
      | (with_reducible exact cover_Check.mono _ _ _)
      | (with_reducible exact selvagelaw09_few.mono _ _ _)
      | (with_reducible exact LeO.refl _)
      | (with_reducible exact LeO.none _)
      | (with_reducible refine LeO.ite ?_ ?_)
      | (with_reducible refine LeO.bind ?_ (fun _ => ?_))
      | exact ih0 _ _ _ _
      | exact ih1 _ _ _
      | exact cover_Check.mono _ _ _
      | exact selvagelaw09_few.mono _ _ _
      | exact LeO.none _
      | refine LeO.ite ?_ ?_
      | refine LeO.bind ?_ (fun _ => ?_)
theorem selvagelaw09_CoverOrder.mono : ∀ a0 k, LeO (selvagelaw09_CoverOrder.f k a0) (selvagelaw09_CoverOrder.f (k + 1) a0) := by
  intro a0 k
  obtain ⟨ih0, ih1⟩ := selvagelaw09_CoverOrder.mono_l k
  unfold selvagelaw09_CoverOrder.f
  repeat' first
      | (with_reducible exact ih0 _ _ _ _)
      | (with_reducible exact ih1 _ _ _)
      | (with_reducible exact cover_Check.mono _ _ _)
      | (with_reducible exact selvagelaw09_few.mono _ _ _)
      | (with_reducible exact LeO.refl _)
      | (with_reducible exact LeO.none _)
      | (with_reducible refine LeO.ite ?_ ?_)
      | (with_reducible refine LeO.bind ?_ (fun _ => ?_))
      | exact ih0 _ _ _ _
      | exact ih1 _ _ _
      | exact cover_Check.mono _ _ _
      | exact selvagelaw09_few.mono _ _ _
      | exact LeO.none _
      | refine LeO.ite ?_ ?_
      | refine LeO.bind ?_ (fun _ => ?_)
set_option maxHeartbeats 8000000 in
set_option maxRecDepth 100000 in
theorem selvagelaw09_CoverOrder.calls (k : Nat) (A0 : Option Addr) (c0 : Nat) (l0 : List (S25)) (r : Bool) (w : World) (hr0 : Kd.C k25 w A0 l0.length l0) (hc0 : l0.length ≤ c0) (h : selvagelaw09_CoverOrder.f k l0 = some r) :
    Calls Try.prog 5 #[.slice A0 l0.length c0] w fun e w' => e = .returned (.bool r) ∧ Below w.heap.size w w' := by
  have hu25 := Try.underlying25
  have HR0 := Aside0.mk hr0
  have HC0 := Aside0.mk hc0
  clear hr0 hc0
  have HB := Aside0.mk (Below.refl w.heap.size w)
  have H : ((selvagelaw09_few.f k l0 5).bind fun t386 => ((selvageref09_Cons.f).bind fun t389 => (selvagelaw09_CoverOrder.l0 k t386 t389 ([] : List (S25)) (wrap64 ((t386.length : Int) - 1))))) = some r := h
  clear h
  replace H := Option.bind_eq_some_iff.mp H
  obtain ⟨t386, A20, H⟩ := H
  replace H : ((selvageref09_Cons.f).bind fun t389 => (selvagelaw09_CoverOrder.l0 k t386 t389 ([] : List (S25)) (wrap64 ((t386.length : Int) - 1)))) = some r := H
  have A2 := Aside0.mk A20
  clear A20
  replace H := Option.bind_eq_some_iff.mp H
  obtain ⟨t389, A30, H⟩ := H
  replace H : (selvagelaw09_CoverOrder.l0 k t386 t389 ([] : List (S25)) (wrap64 ((t386.length : Int) - 1))) = some r := H
  have A3 := Aside0.mk A30
  clear A30
  have H' := Aside0.mk H
  clear H
  go_enter Try.func5, Try.ntmps5
  go_wp2_with (first | ((with_reducible refine gate_callee (f := 11) rfl ?_); refine goesL_ (some 12) rfl rfl Try.func11 (by kernel_rfl) rfl #[.slice A0 l0.length c0, .int .i64 5] rfl (by (try simp only [List.map_toArray, List.map_cons, List.map_nil]); first | done | rfl | (simp only [List.length_drop, List.length_take]; rfl)) ?_; (with_reducible refine (selvagelaw09_few.calls k _ _ l0 5 t386 _ ?side1 ?side2 A2.out).mono ?_); (case side1 => repeat (first | exact HR0.out | (with_reducible refine Kd.C_alloc ?_ _) | (with_reducible refine Kd.C_drewN ?_ _) | (with_reducible refine Kd.C_drew ?_))); (case side2 => exact HC0.out); rintro e w4 ⟨v387, rfl, ho0, hb⟩; refine ⟨_, rfl, ?_⟩; have n0_ := Aside0.mk (Kd.N_lower (Kd.N_mono (ok' := fun k_ => True) (Kd.R_N (Kd.R_bound ho0)) (fun k_ hk_ => trivial)) (below_size (by repeat (first | (with_reducible first | exact HB.out | apply below_alloc | apply pw_below_drewN | apply below_drew1) | exact HB.out)))); have n1_ := Aside0.mk (below_step (by repeat (first | (with_reducible first | exact HB.out | apply below_alloc | apply pw_below_drewN | apply below_drew1) | exact HB.out)) hb); clear HB; have HO388 := n0_; have HB := n1_; clear n0_ n1_; (try clear hb); (try clear hb2); (try clear hk); (try clear hi); (try clear ho0)) | ((with_reducible refine gate_callee (f := 12) rfl ?_); refine goesL_ (some 13) rfl rfl Try.func12 (by kernel_rfl) rfl #[] rfl (by (try simp only [List.map_toArray, List.map_cons, List.map_nil]); first | done | rfl | (simp only [List.length_drop, List.length_take]; rfl)) ?_; (with_reducible refine (selvageref09_Cons.calls  t389 _ A3.out).mono ?_); rintro e w5 ⟨v390, rfl, ho0, hb⟩; refine ⟨_, rfl, ?_⟩; have n0_ := Aside0.mk (Kd.N_elder' (by (with_reducible repeat (first | apply Kd.N_alloc | apply Kd.N_drewN | apply Kd.N_drew)); exact HO388.out) (Kd.R_base ho0) hb); have n1_ := Aside0.mk (Kd.R_lower ho0 (below_size (by repeat (first | (with_reducible first | exact HB.out | apply below_alloc | apply pw_below_drewN | apply below_drew1) | exact HB.out)))); have n2_ := Aside0.mk (below_step (by repeat (first | (with_reducible first | exact HB.out | apply below_alloc | apply pw_below_drewN | apply below_drew1) | exact HB.out)) hb); clear HO388; clear HB; have HO388 := n0_; have HO391 := n1_; have HB := n2_; clear n0_ n1_ n2_; (try clear hb); (try clear hb2); (try clear hk); (try clear hi); (try clear ho0); obtain ⟨Ao6, co6, eo6⟩ := Kd.N_slice HO388.out; subst eo6))
  go_loopg [5, 6] k (fun kq v5 v6 w' => ∃ (x5_1 : List (S25)) (x6_1 : Int), v6 = .int .i64 x6_1 ∧ Aside0 (selvagelaw09_CoverOrder.l0 kq t386 t389 x5_1 x6_1 = some r) ∧ Aside0 (kq ≤ k) ∧ Aside0 (Kd.N k25 25 w' w.heap.size (fun k_ => some k_ ≠ (v390 : Value).ownBlock ∧ some k_ ≠ (v5 : Value).ownBlock) (.slice Ao6 t386.length co6) t386) ∧ Aside0 (Kd.R k61 61 w' w.heap.size (fun _ => True) v390 t389) ∧ Aside0 (Kd.N k25 25 w' w.heap.size (fun k_ => some k_ ≠ ((.slice Ao6 t386.length co6) : Value).ownBlock ∧ some k_ ≠ (v390 : Value).ownBlock) v5 x5_1) ∧ Aside0 (Below w.heap.size w w'))
  case atStart => exact ⟨(([] : List (S25))), (wrap64 ((t386.length : Int) - 1)), (by first | rfl | (simp; done) | (simp [*]; done)), H', ⟨Nat.le_refl _⟩, ⟨by (with_reducible repeat (first | apply Kd.N_alloc | apply Kd.N_drewN | apply Kd.N_drew)); exact Kd.N_mono HO388.out (fun _ hk => ⟨hk.2, (by simp [Value.ownBlock])⟩)⟩, ⟨by (with_reducible repeat (first | apply Kd.R_alloc | apply Kd.R_drewN | apply Kd.R_drew)); exact HO391.out⟩, ⟨by first | exact Kd.R_nil _ _ _ _ _ | exact Kd.N_nil _ _ _ _ _ | exact Kd.V_nil _ _ _ _ _ | exact Kd.Q_nil _ _ _ _ _ | exact Kd.S_nil _ _ _ _ _⟩, ⟨by repeat (first | (with_reducible first | exact HB.out | apply below_alloc | apply pw_below_drewN | apply below_drew1) | exact HB.out)⟩⟩
  case round =>
    clear H'
    try clear c1
    try clear p2
    try clear c5
    try clear p6
    obtain ⟨x5_1, x6_1, rfl, HA, HK1, HO_3, HO_4, HO_5, HB⟩ := hrel
    cases gk with
    | zero => exact absurd HA.out (by simp [selvagelaw09_CoverOrder.l0])
    | succ k1 =>
      have H := HA.out
      clear HA
      simp only [selvagelaw09_CoverOrder.l0] at H
      by_cases c7 : x6_1 ≥ 0
      · rw [if_pos c7] at H
        have c7b0 : decide (0 ≤ x6_1) = true := decide_eq_true c7
        clear c7
        by_cases c8 : 0 ≤ x6_1
        · rw [if_pos c8] at H
          have c8b0 : decide (0 ≤ x6_1) = true := decide_eq_true c8
          clear c8
          by_cases c9 : x6_1 < (t386.length : Int)
          · rw [if_pos c9] at H
            have c9b0 : decide (x6_1 < (t386.length : Int)) = true := decide_eq_true c9
            clear c9
            by_cases c10 : x5_1.length < 1599289640401
            · rw [if_pos c10] at H
              have LMc10 := Aside0.mk c10
              clear c10
              obtain ⟨y393, hy393⟩ : ∃ y_ : List (S25), y_ = (x5_1 ++ [(⟨(rd_T25 t386 x6_1).f0, (rd_T25 t386 x6_1).f1, (rd_T25 t386 x6_1).f2, (rd_T25 t386 x6_1).f3, (rd_T25 t386 x6_1).f4, (rd_T25 t386 x6_1).f5⟩ : S25)]) := ⟨_, rfl⟩
              replace H : (selvagelaw09_CoverOrder.l0 k1 t386 t389 y393 (wrap64 (x6_1 - 1))) = some r := by first | (rw [hy393]; with_reducible exact H) | (have H2_ := (Option.bind_some _ _).symm.trans H; rw [hy393]; with_reducible exact H2_) | (have H2_ := (Option.bind_some _ _).symm.trans H; with_reducible exact H2_) | with_reducible exact H | (rw [hy393]; exact H) | exact H
              have Ny393 := Aside0.mk hy393
              clear hy393
              have H' := Aside0.mk H
              clear H
              have p392 : 0 ≤ (x6_1 : Int) := of_decide_eq_true (by first | (with_reducible assumption) | assumption)
              have q392 : x6_1 < (t386.length : Int) := of_decide_eq_true (by first | (with_reducible assumption) | assumption)
              obtain ⟨ad392, A392_4, c392_4, A392_5, c392_5, e392, hx392_0, hx392_1, hx392_2, hx392_3, hx392_4, hx392_5, hl392_4, hi392_4, hl392_5, hi392_5⟩ := at_T25 (Kd.N_reads' HO_3.out).2.2 x6_1 p392 q392
              cases e392
              obtain ⟨ce392, hce392, hMe392, hcc392⟩ := Kd.N_get HO_3.out z25 x6_1 p392 (by first | exact q392 | exact of_decide_eq_true (by first | (with_reducible assumption) | assumption) | (have e_ := (Kd.N_reads' HO_3.out).1; omega))
              obtain ⟨ua392_4, uc392_4, ua392_5, uc392_5, rfl, ul392_4, ge392_4, ul392_5, ge392_5⟩ := k25_openF hMe392
              have hv392_4 := hcc392 4 _ rfl
              rw [add_field _ _ 4 (by omega)] at hv392_4
              replace hv392_4 := Option.some.inj (hv392_4.symm.trans hx392_4)
              injection hv392_4 with hva_ hvn_ hvc_
              rw [hva_] at ge392_4
              rw [hvc_] at ul392_4
              have HL392_4 := Aside0.mk (show Kd.V Kd.string 9 _ w.heap.size _ _ ((rd_T25 t386 x6_1).f4) from Kd.V_mk ul392_4 ge392_4)
              clear hva_ hvn_ hvc_ ge392_4 ul392_4
              have hv392_5 := hcc392 5 _ rfl
              rw [add_field _ _ 5 (by omega)] at hv392_5
              replace hv392_5 := Option.some.inj (hv392_5.symm.trans hx392_5)
              injection hv392_5 with hva_ hvn_ hvc_
              rw [hva_] at ge392_5
              rw [hvc_] at ul392_5
              have HL392_5 := Aside0.mk (show Kd.V k25 25 _ w.heap.size _ _ ((rd_T25 t386 x6_1).f5) from Kd.V_mk ul392_5 ge392_5)
              clear hva_ hvn_ hvc_ ge392_5 ul392_5
              clear hcc392 hce392
              have HR392_4 := Aside0.mk hi392_4
              have HC392_4 := Aside0.mk hl392_4
              clear hi392_4 hl392_4
              have HR392_5 := Aside0.mk hi392_5
              have HC392_5 := Aside0.mk hl392_5
              clear hi392_5 hl392_5
              replace p392 := eq_true p392
              replace q392 := eq_true q392
              go_wp2_with (first | ((with_reducible refine gate_builtin (b := .append) (xs := #[.tmp 21, .tmp 26]) rfl ?_); at_builtin; refine Kd.N_append k25 (w0 := w) w.heap.size rfl (.tmp 21) (.tmp 26) 22 25 (.agg #[(.int .i64 0), (.string ⟨#[]⟩), (.int .i64 0), (.int .i64 0), (.slice none 0 0), (.slice none 0 0)]) 88 rfl Try.underlying22 info25 rfl (by decide) (by omega) u5 x5_1 (⟨(rd_T25 t386 x6_1).f0, (rd_T25 t386 x6_1).f1, (rd_T25 t386 x6_1).f2, (rd_T25 t386 x6_1).f3, (rd_T25 t386 x6_1).f4, (rd_T25 t386 x6_1).f5⟩ : S25) [.int .i64 ((rd_T25 t386 x6_1).f0), .string ((rd_T25 t386 x6_1).f1), .int .i64 ((rd_T25 t386 x6_1).f2), .int .i64 ((rd_T25 t386 x6_1).f3), .slice A392_4 ((rd_T25 t386 x6_1).f4).length c392_4, .slice A392_5 ((rd_T25 t386 x6_1).f5).length c392_5] (fun k_ => some k_ ≠ (.slice (some ad392) t386.length co6 : Value).ownBlock ∧ some k_ ≠ (v390 : Value).ownBlock) (fun k_ => ((fun k_ => some k_ ≠ (.slice (some ad392) t386.length co6 : Value).ownBlock ∧ some k_ ≠ (v390 : Value).ownBlock)) k_ ∧ some k_ ≠ (u5 : Value).ownBlock) rfl rfl ?aP (fun _ hk => hk) ?aF ?aO ?aB ?aS ?aL ?_; (case aP => exact (k25_mkF _ _ (⟨(rd_T25 t386 x6_1).f0, (rd_T25 t386 x6_1).f1, (rd_T25 t386 x6_1).f2, (rd_T25 t386 x6_1).f3, (rd_T25 t386 x6_1).f4, (rd_T25 t386 x6_1).f5⟩ : S25) (Kd.V_reads' (Kd.V_mono (ok' := (fun k_ => ((fun k_ => some k_ ≠ (.slice (some ad392) t386.length co6 : Value).ownBlock ∧ some k_ ≠ (v390 : Value).ownBlock)) k_ ∧ some k_ ≠ (u5 : Value).ownBlock)) (HL392_4.out) (fun k_ hk => ⟨⟨hk.2, hk.1.1⟩, hk.1.2⟩))).2.1 (Kd.V_F (Kd.V_mono (ok' := (fun k_ => ((fun k_ => some k_ ≠ (.slice (some ad392) t386.length co6 : Value).ownBlock ∧ some k_ ≠ (v390 : Value).ownBlock)) k_ ∧ some k_ ≠ (u5 : Value).ownBlock)) (HL392_4.out) (fun k_ hk => ⟨⟨hk.2, hk.1.1⟩, hk.1.2⟩))) (Kd.V_reads' (Kd.V_mono (ok' := (fun k_ => ((fun k_ => some k_ ≠ (.slice (some ad392) t386.length co6 : Value).ownBlock ∧ some k_ ≠ (v390 : Value).ownBlock)) k_ ∧ some k_ ≠ (u5 : Value).ownBlock)) (HL392_5.out) (fun k_ hk => ⟨⟨hk.2, hk.1.1⟩, hk.1.2⟩))).2.1 (Kd.V_F (Kd.V_mono (ok' := (fun k_ => ((fun k_ => some k_ ≠ (.slice (some ad392) t386.length co6 : Value).ownBlock ∧ some k_ ≠ (v390 : Value).ownBlock)) k_ ∧ some k_ ≠ (u5 : Value).ownBlock)) (HL392_5.out) (fun k_ hk => ⟨⟨hk.2, hk.1.1⟩, hk.1.2⟩))))); (case aB => exact (by repeat (first | (with_reducible first | exact HB.out | apply below_alloc | apply pw_below_drewN | apply below_drew1) | exact HB.out))); (case aF => exact (fun k_ hk => ⟨Kd.fresh' (Kd.N_lt (by (with_reducible repeat (first | apply Kd.N_alloc | apply Kd.N_drewN | apply Kd.N_drew)); exact HO_3.out)) k_ hk, Kd.fresh' (Kd.R_lt (by (with_reducible repeat (first | apply Kd.R_alloc | apply Kd.R_drewN | apply Kd.R_drew)); exact HO_4.out)) k_ hk⟩)); (case aO => exact (by (with_reducible repeat (first | apply Kd.N_alloc | apply Kd.N_drewN | apply Kd.N_drew)); exact HO_5.out)); (case aS => exact (below_size (by repeat (first | (with_reducible first | exact HB.out | apply below_alloc | apply pw_below_drewN | apply below_drew1) | exact HB.out)))); (case aL => have := LMc10.out; omega); intro v394 w11 ho hb hg hat; rw [← Ny393.out] at ho; have n0_ := Aside0.mk (Kd.N_afterv (ok := (fun k_ => some k_ ≠ (v390 : Value).ownBlock)) (by (with_reducible repeat (first | apply Kd.N_alloc | apply Kd.N_drewN | apply Kd.N_drew)); exact HO_3.out) hg hat); have n1_ := Aside0.mk (Kd.R_over' (by (with_reducible repeat (first | apply Kd.R_alloc | apply Kd.R_drewN | apply Kd.R_drew)); exact HO_4.out) (Kd.N_typed (by (with_reducible repeat (first | apply Kd.N_alloc | apply Kd.N_drewN | apply Kd.N_drew)); exact HO_5.out)) (by decide) hg); have n2_ := Aside0.mk (Kd.V_afterv (ok := (fun k_ => some k_ ≠ (.slice (some ad392) t386.length co6 : Value).ownBlock ∧ some k_ ≠ (v390 : Value).ownBlock)) (by (with_reducible repeat (first | apply Kd.V_alloc | apply Kd.V_drewN | apply Kd.V_drew)); exact Kd.V_mono HL392_4.out (fun _ hk => ⟨⟨hk.2, hk.1.1⟩, hk.1.2⟩)) hg hat); have n3_ := Aside0.mk (Kd.V_afterv (ok := (fun k_ => some k_ ≠ (.slice (some ad392) t386.length co6 : Value).ownBlock ∧ some k_ ≠ (v390 : Value).ownBlock)) (by (with_reducible repeat (first | apply Kd.V_alloc | apply Kd.V_drewN | apply Kd.V_drew)); exact Kd.V_mono HL392_5.out (fun _ hk => ⟨⟨hk.2, hk.1.1⟩, hk.1.2⟩)) hg hat); have n4_ := Aside0.mk (hb); have n5_ := Aside0.mk (ho); clear HO_3; clear HO_4; clear HL392_4; clear HL392_5; clear HB; clear HO_5; have HO_3 := n0_; have HO_4 := n1_; have HL392_4 := n2_; have HL392_5 := n3_; have HB := n4_; have HO395 := n5_; clear n0_ n1_ n2_ n3_ n4_ n5_; clear ho hb hg hat))
              go_roundg k1
              case measure => have := HK1.out; omega
              case rel => exact ⟨(y393), (wrap64 (x6_1 - 1)), (by first | rfl | (simp; done) | (simp [*]; done)), H', ⟨by have := HK1.out; omega⟩, ⟨by (with_reducible repeat (first | apply Kd.N_alloc | apply Kd.N_drewN | apply Kd.N_drew)); exact HO_3.out⟩, ⟨by (with_reducible repeat (first | apply Kd.R_alloc | apply Kd.R_drewN | apply Kd.R_drew)); exact HO_4.out⟩, ⟨by (with_reducible repeat (first | apply Kd.N_alloc | apply Kd.N_drewN | apply Kd.N_drew)); exact HO395.out⟩, ⟨by repeat (first | (with_reducible first | exact HB.out | apply below_alloc | apply pw_below_drewN | apply below_drew1) | exact HB.out)⟩⟩
            · rw [if_neg c10] at H
              exact absurd H (by simp)
          · rw [if_neg c9] at H
            exact absurd H (by simp)
        · rw [if_neg c8] at H
          exact absurd H (by simp)
      · rw [if_neg c7] at H
        have c7b0 : decide (0 ≤ x6_1) = false := decide_eq_false c7
        clear c7
        replace H := Option.bind_eq_some_iff.mp H
        obtain ⟨⟨t396, t397⟩, A120, H⟩ := H
        replace H : ((cover_Check.f k1 x5_1 t389).bind fun bt398 => (if t397 = 27 then (selvagelaw09_CoverOrder.j1 k1 t397 bt398.2 true) else (selvagelaw09_CoverOrder.j1 k1 t397 bt398.2 (bt398.2 == 27)))) = some r := H
        have A12 := Aside0.mk A120
        clear A120
        replace H := Option.bind_eq_some_iff.mp H
        obtain ⟨⟨t398, t399⟩, A130, H⟩ := H
        replace H : (if t397 = 27 then (selvagelaw09_CoverOrder.j1 k1 t397 t399 true) else (selvagelaw09_CoverOrder.j1 k1 t397 t399 (t399 == 27))) = some r := H
        have A13 := Aside0.mk A130
        clear A130
        have HC14 := Aside0.mk H
        clear H
        obtain ⟨Ao15, co15, eo15⟩ := Kd.R_slice HO_4.out
        subst eo15
        go_upto_region 10 with (first | ((with_reducible refine gate_callee (f := 8) rfl ?_); refine goesL_ (some 31) rfl rfl Try.func8 (by kernel_rfl) rfl #[.slice Ao6 t386.length co6, .slice Ao15 t389.length co15] rfl (by (try simp only [List.map_toArray, List.map_cons, List.map_nil]); first | done | rfl | (simp only [List.length_drop, List.length_take]; rfl)) ?_; (with_reducible refine (cover_Check.calls k1 (fun k_ => (some k_ ≠ (.slice Ao15 t389.length co15 : Value).ownBlock ∧ some k_ ≠ (u5 : Value).ownBlock)) _ _ t386 _ _ t389 t396 t397 _ ?side1 ?side2 ?side3 A12.out).mono ?_); (case side1 => exact Kd.N_V (HO_3.out)); (case side2 => repeat (first | exact (Kd.R_reads' HO_4.out).2.2 | (with_reducible refine Kd.C_alloc ?_ _) | (with_reducible refine Kd.C_drewN ?_ _) | (with_reducible refine Kd.C_drew ?_))); (case side3 => exact (Kd.R_reads' HO_4.out).2.1); rintro e w16 ⟨rfl, hb⟩; refine ⟨_, rfl, ?_⟩; have n0_ := Aside0.mk (Kd.N_below (by (with_reducible repeat (first | apply Kd.N_alloc | apply Kd.N_drewN | apply Kd.N_drew)); exact HO_3.out) hb); have n1_ := Aside0.mk (Kd.R_below (by (with_reducible repeat (first | apply Kd.R_alloc | apply Kd.R_drewN | apply Kd.R_drew)); exact HO_4.out) hb); have n2_ := Aside0.mk (Kd.N_below (by (with_reducible repeat (first | apply Kd.N_alloc | apply Kd.N_drewN | apply Kd.N_drew)); exact HO_5.out) hb); have n3_ := Aside0.mk (below_step (by repeat (first | (with_reducible first | exact HB.out | apply below_alloc | apply pw_below_drewN | apply below_drew1) | exact HB.out)) hb); clear HO_3; clear HO_4; clear HO_5; clear HB; have HO_3 := n0_; have HO_4 := n1_; have HO_5 := n2_; have HB := n3_; clear n0_ n1_ n2_ n3_; (try clear hb); (try clear hb2); (try clear hk); (try clear hi); obtain ⟨Ao17, co17, eo17⟩ := Kd.N_slice HO_5.out; subst eo17) | ((with_reducible refine gate_callee (f := 8) rfl ?_); refine goesL_ (some 37) rfl rfl Try.func8 (by kernel_rfl) rfl #[.slice Ao17 x5_1.length co17, .slice Ao15 t389.length co15] rfl (by (try simp only [List.map_toArray, List.map_cons, List.map_nil]); first | done | rfl | (simp only [List.length_drop, List.length_take]; rfl)) ?_; (with_reducible refine (cover_Check.calls k1 (fun k_ => (some k_ ≠ (.slice Ao6 t386.length co6 : Value).ownBlock ∧ some k_ ≠ (.slice Ao15 t389.length co15 : Value).ownBlock)) _ _ x5_1 _ _ t389 t398 t399 _ ?side1 ?side2 ?side3 A13.out).mono ?_); (case side1 => exact Kd.N_V (HO_5.out)); (case side2 => repeat (first | exact (Kd.R_reads' HO_4.out).2.2 | (with_reducible refine Kd.C_alloc ?_ _) | (with_reducible refine Kd.C_drewN ?_ _) | (with_reducible refine Kd.C_drew ?_))); (case side3 => exact (Kd.R_reads' HO_4.out).2.1); rintro e w18 ⟨rfl, hb⟩; refine ⟨_, rfl, ?_⟩; have n0_ := Aside0.mk (Kd.N_below (by (with_reducible repeat (first | apply Kd.N_alloc | apply Kd.N_drewN | apply Kd.N_drew)); exact HO_3.out) hb); have n1_ := Aside0.mk (Kd.R_below (by (with_reducible repeat (first | apply Kd.R_alloc | apply Kd.R_drewN | apply Kd.R_drew)); exact HO_4.out) hb); have n2_ := Aside0.mk (Kd.N_below (by (with_reducible repeat (first | apply Kd.N_alloc | apply Kd.N_drewN | apply Kd.N_drew)); exact HO_5.out) hb); have n3_ := Aside0.mk (below_step (by repeat (first | (with_reducible first | exact HB.out | apply below_alloc | apply pw_below_drewN | apply below_drew1) | exact HB.out)) hb); clear HO_3; clear HO_4; clear HO_5; clear HB; have HO_3 := n0_; have HO_4 := n1_; have HO_5 := n2_; have HB := n3_; clear n0_ n1_ n2_ n3_; (try clear hb); (try clear hb2); (try clear hk); (try clear hi)))
        (try simp only [Act.put, List.setIfInBounds_toArray, List.set_cons_zero, List.set_cons_succ])
        go_cut [45] (fun v45 wc => ∃ (kq : Nat) (x45_13 : Bool), v45 = .bool x45_13 ∧ Aside0 (selvagelaw09_CoverOrder.j1 kq t397 t399 x45_13 = some r) ∧ Aside0 (kq ≤ k1) ∧ Aside0 (Below w.heap.size w wc))
        case first =>
          have H := HC14.out
          clear HC14
          by_cases c19 : t397 = 27
          · rw [if_pos c19] at H
            have c19b0 : (t397 == 27) = true := beq_iff_eq.mpr c19
            have c19b1 : (t397 != 27) = false := bne_eq_false_iff_eq.mpr c19
            clear c19
            (first | rw [c19b0] | (simp only [i64_w, i32_w]; rw [c19b0]) | skip)
            have H' := Aside0.mk H
            clear H
            go_wp2
            go_meet
            case rel => exact ⟨_, (true), (by first | rfl | (simp; done) | (simp [*]; done)), H', ⟨by have := HK1.out; first | omega | exact Nat.le_refl _⟩, ⟨by repeat (first | (with_reducible first | exact HB.out | apply below_alloc | apply pw_below_drewN | apply below_drew1) | exact HB.out)⟩⟩
          · rw [if_neg c19] at H
            have c19b0 : (t397 == 27) = false := beq_eq_false_iff_ne.mpr c19
            have c19b1 : (t397 != 27) = true := bne_iff_ne.mpr c19
            (first | rw [c19b0] | (simp only [i64_w, i32_w]; rw [c19b0]) | skip)
            have H' := Aside0.mk H
            clear H
            go_wp2
            go_meet
            case rel => exact ⟨_, ((t399 == 27)), (by first | rfl | (simp; done) | (simp [*]; done)), H', ⟨by have := HK1.out; first | omega | exact Nat.le_refl _⟩, ⟨by repeat (first | (with_reducible first | exact HB.out | apply below_alloc | apply pw_below_drewN | apply below_drew1) | exact HB.out)⟩⟩
        case rest =>
          clear HC14
          try clear c1
          try clear p2
          try clear c3
          try clear p3
          try clear q3
          try clear hx3
          try clear c5
          try clear p6
          try clear c7
          try clear c7b0
          try clear c8
          try clear c8b0
          try clear c9
          try clear c9b0
          try clear c10
          try clear c11
          try clear c12
          try clear c19
          try clear c19b0
          try clear c19b1
          try clear hx392_0
          try clear hx392_1
          try clear hx392_2
          try clear hx392_3
          try clear hx392_4
          try clear hx392_5
          try clear p2
          try clear p392
          try clear p6
          try clear q392
          obtain ⟨kq, x45_13, rfl, HA, HJ13, HB⟩ := hcut
          cases kq with
          | zero => exact absurd HA.out (by simp [selvagelaw09_CoverOrder.j1])
          | succ kj13 =>
            have H := HA.out
            clear HA
            simp only [selvagelaw09_CoverOrder.j1] at H
            by_cases c20 : x45_13 = true
            · subst c20
              have H1 : ((selvagelaw09_lives.f).bind fun t400 => (some t400)) = some r := by rw [if_pos rfl] at H; exact H
              clear H
              have H := H1
              clear H1
              replace H := Option.bind_eq_some_iff.mp H
              obtain ⟨t400, A210, H⟩ := H
              replace H : (some t400) = some r := H
              have A21 := Aside0.mk A210
              clear A210
              obtain rfl := Option.some.inj H
              go_wp2_with (first | ((with_reducible refine gate_callee (f := 10) rfl ?_); refine goesL_ (some 46) rfl rfl Try.func10 (by kernel_rfl) rfl #[] rfl (by (try simp only [List.map_toArray, List.map_cons, List.map_nil]); first | done | rfl | (simp only [List.length_drop, List.length_take]; rfl)) ?_; (with_reducible refine (selvagelaw09_lives.calls  t400 _ A21.out).mono ?_); rintro e w22 ⟨rfl, hb⟩; refine ⟨_, rfl, ?_⟩; have n0_ := Aside0.mk (below_step (by repeat (first | (with_reducible first | exact HB.out | apply below_alloc | apply pw_below_drewN | apply below_drew1) | exact HB.out)) hb); clear HB; have HB := n0_; clear n0_; (try clear hb); (try clear hb2); (try clear hk); (try clear hi)))
              go_ret
              exact ⟨by first | rfl | (simp [errW_none, errW_some] <;> rfl) | (simp [*, errW_none, errW_some] <;> rfl), by repeat (first | (with_reducible first | exact HB.out | apply below_alloc | apply pw_below_drewN | apply below_drew1) | exact HB.out)⟩
            · replace c20 := Bool.eq_false_iff.mpr c20
              subst c20
              have H1 : (if t397 = t399 then ((selvagelaw09_lives.f).bind fun t401 => (some t401)) else (some false)) = some r := by rw [if_neg (show ¬ (false = true) by decide)] at H; exact H
              clear H
              have H := H1
              clear H1
              by_cases c23 : t397 = t399
              · rw [if_pos c23] at H
                have c23b0 : (t397 == t399) = true := beq_iff_eq.mpr c23
                have c23b1 : (t397 != t399) = false := bne_eq_false_iff_eq.mpr c23
                clear c23
                replace H := Option.bind_eq_some_iff.mp H
                obtain ⟨t401, A240, H⟩ := H
                replace H : (some t401) = some r := H
                have A24 := Aside0.mk A240
                clear A240
                obtain rfl := Option.some.inj H
                go_wp2_with (first | (go_at_call 10; (with_reducible refine (selvagelaw09_lives.calls  t401 _ A24.out).mono ?_); rintro e w25 ⟨rfl, hb⟩; have n0_ := Aside0.mk (below_step (by repeat (first | (with_reducible first | exact HB.out | apply below_alloc | apply pw_below_drewN | apply below_drew1) | exact HB.out)) hb); clear HB; have HB := n0_; clear n0_; (try clear hb); (try clear hb2); (try clear hk); (try clear hi)))
                go_ret
                exact ⟨by first | rfl | (simp [errW_none, errW_some] <;> rfl) | (simp [*, errW_none, errW_some] <;> rfl), by repeat (first | (with_reducible first | exact HB.out | apply below_alloc | apply pw_below_drewN | apply below_drew1) | exact HB.out)⟩
              · rw [if_neg c23] at H
                have c23b0 : (t397 == t399) = false := beq_eq_false_iff_ne.mpr c23
                have c23b1 : (t397 != t399) = true := bne_iff_ne.mpr c23
                obtain rfl := Option.some.inj H
                go_wp2
                go_ret
                exact ⟨by first | rfl | (simp [errW_none, errW_some] <;> rfl) | (simp [*, errW_none, errW_some] <;> rfl), by repeat (first | (with_reducible first | exact HB.out | apply below_alloc | apply pw_below_drewN | apply below_drew1) | exact HB.out)⟩

end Go.Proofs.Ytikhkcnbabpneaa.P
