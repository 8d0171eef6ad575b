-- Laid by this session's program wip/printx.py over the kit's print.py; functions that it does not take are walked by hand.
import Derived.Test.YtikhkcnbabpneaaAvPx0
import Derived.Test.YtikhkcnbabpneaaAvPx19
namespace Go.Proofs.Ytikhkcnbabpneaa.P
open Go.RowKit Go.Proofs.YtikhkcnbabpneaaW.PrintWords Go.Proofs.YtikhkcnbabpneaaW.PrintLast Go.Proofs.YtikhkcnbabpneaaW.PrintMore
attribute [local go_sem] max2_int min2_int max_two min_two max_three min_three max_four min_four   -- for this text's walks alone
set_option linter.unusedVariables false
set_option linter.unusedSimpArgs false
def cover_column.l0 : Nat → List (S25) → List (List (S25)) → Int → Int → Option ((List (S25)))
 | 0, _, _, _, _ => none
 | k + 1, x3, x6, x7, x8 => if x8 < x7 then (if 0 ≤ x8 then (if x8 < (x6.length : Int) then (if 0 < ((rd_L6 x6 x8).length : Int) then ((cover_loose.f ((rd_T25 (rd_L6 x6 x8) 0).f0) ((rd_T25 (rd_L6 x6 x8) 0).f1) ((rd_T25 (rd_L6 x6 x8) 0).f2) ((rd_T25 (rd_L6 x6 x8) 0).f3) ((rd_T25 (rd_L6 x6 x8) 0).f4) ((rd_T25 (rd_L6 x6 x8) 0).f5)).bind fun t151 => (if t151 = true then (cover_column.l0 k x3 x6 x7 (wrap64 (x8 + 1))) else (if x3.length < 1599289640401 then (cover_column.l0 k (x3 ++ [(⟨(rd_T25 (rd_L6 x6 x8) 0).f0, (rd_T25 (rd_L6 x6 x8) 0).f1, (rd_T25 (rd_L6 x6 x8) 0).f2, (rd_T25 (rd_L6 x6 x8) 0).f3, (rd_T25 (rd_L6 x6 x8) 0).f4, (rd_T25 (rd_L6 x6 x8) 0).f5⟩ : S25)]) x6 x7 (wrap64 (x8 + 1))) else (none)))) else (none)) else (none)) else (none)) else (some x3)
def cover_column.f (k : Nat) (l0 : List (List (S25))) : Option ((List (S25))) := cover_column.l0 k ([] : List (S25)) l0 (l0.length : Int) 0
theorem cover_column.mono_l : ∀ k, (∀ y0 y1 y2 y3, LeO (cover_column.l0 k y0 y1 y2 y3) (cover_column.l0 (k + 1) y0 y1 y2 y3))
 | 0 => fun _ _ _ _ r h => by simp [cover_column.l0] at h
 | k + 1 => by
  have ih0 := cover_column.mono_l k
  ·
   intro y0 y1 y2 y3
   unfold cover_column.l0
   repeat' first
   | (with_reducible exact ih0 _ _ _ _)
   | (with_reducible exact LeO.refl _)
   | (with_reducible exact LeO.none _)
   | (with_reducible refine LeO.ite ?_ ?_)
   | (with_reducible refine LeO.bind ?_ (fun _ => ?_))
   | exact ih0 _ _ _ _
   | exact LeO.none _
   | refine LeO.ite ?_ ?_
   | refine LeO.bind ?_ (fun _ => ?_)
theorem cover_column.mono : ∀ a0 k, LeO (cover_column.f k a0) (cover_column.f (k + 1) a0) := by
 intro a0 k
 have ih0 := cover_column.mono_l k
 unfold cover_column.f
 repeat' first
  | (with_reducible exact ih0 _ _ _ _)
  | (with_reducible exact LeO.refl _)
  | (with_reducible exact LeO.none _)
  | (with_reducible refine LeO.ite ?_ ?_)
  | (with_reducible refine LeO.bind ?_ (fun _ => ?_))
  | exact ih0 _ _ _ _
  | exact LeO.none _
  | refine LeO.ite ?_ ?_
  | refine LeO.bind ?_ (fun _ => ?_)
set_option maxHeartbeats 8000000 in
set_option maxRecDepth 100000 in
theorem cover_column.calls (k : Nat) (P0_ : Nat → Prop) (A0 : Option Addr) (c0 : Nat) (l0 : List (List (S25))) (r : List (S25)) (w : World) (hs0 : Kd.V (Kd.slice 25 k25) 22 w w.heap.size (fun k_ => P0_ k_) (.slice A0 l0.length c0) l0) (h : cover_column.f k l0 = some r) :
 Calls Try.prog 53 #[.slice A0 l0.length c0] w fun e w' => ∃ v0_ : Value, e = .returned (v0_) ∧ Kd.N k25 25 w' w.heap.size (fun k_ => (P0_ k_ ∨ w.heap.size ≤ k_)) v0_ r ∧ Below w.heap.size w w' := by
 have hu25 := Try.underlying25
 have HO0 := Aside0.mk (show Kd.V (Kd.slice 25 k25) 22 w w.heap.size (fun k_ => (P0_ k_ ∨ w.heap.size ≤ k_)) (.slice A0 l0.length c0) l0 from Kd.V_mono hs0 (fun k_ hk => .inl hk))
 have HB := Aside0.mk (Below.refl w.heap.size w)
 have H : (cover_column.l0 k ([] : List (S25)) l0 (l0.length : Int) 0) = some r := h
 clear h
 have H' := Aside0.mk H
 clear H
 go_enter Try.func53, Try.ntmps53
 go_wp2
 go_loopg [3, 8] k (fun kq v3 v8 w' => ∃ (x3_1 : List (S25)) (x8_1 : Int), v8 = .int .i64 x8_1 ∧ Aside0 (cover_column.l0 kq x3_1 l0 (l0.length : Int) x8_1 = some r) ∧ Aside0 (kq ≤ k) ∧ Aside0 (Kd.N k25 25 w' w.heap.size (fun k_ => (P0_ k_ ∨ w.heap.size ≤ k_)) v3 x3_1) ∧ Aside0 (Kd.V (Kd.slice 25 k25) 22 w' w.heap.size (fun k_ => (P0_ k_ ∨ w.heap.size ≤ k_) ∧ some k_ ≠ (v3 : Value).ownBlock) (.slice A0 l0.length c0) l0) ∧ Aside0 (Below w.heap.size w w'))
 case atStart => exact ⟨(([] : List (S25))), (0), (by first | rfl | (simp; done) | (simp [*]; done)), H', ⟨Nat.le_refl _⟩, ⟨by first | exact Kd.R_nil _ _ _ _ _ | exact Kd.N_nil _ _ _ _ _ | exact Kd.V_nil _ _ _ _ _ | exact Kd.Q_nil _ _ _ _ _ | exact Kd.S_nil _ _ _ _ _⟩, ⟨by (with_reducible repeat (first | apply Kd.V_alloc | apply Kd.V_drewN | apply Kd.V_drew)); exact Kd.V_mono HO0.out (fun _ hk => ⟨hk, (by simp [Value.ownBlock])⟩)⟩, ⟨by repeat ((with_reducible first | exact HB.out | apply below_alloc | apply pw_below_drewN | apply below_drew1))⟩⟩
 case round =>
  clear H'
  obtain ⟨x3_1, x8_1, rfl, HA, HK1, HO_3, HO_6, HB⟩ := hrel
  cases gk with
  | zero => exact absurd HA.out (by simp [cover_column.l0])
  | succ k1 =>
   have H := HA.out
   clear HA
   simp only [cover_column.l0] at H
   by_cases c2 : x8_1 < (l0.length : Int)
   ·
    rw [if_pos c2] at H
    have c2b0 : decide (x8_1 < (l0.length : Int)) = true := decide_eq_true c2
    clear c2
    by_cases c3 : 0 ≤ x8_1
    ·
     rw [if_pos c3] at H
     have c3b0 : decide (0 ≤ x8_1) = true := decide_eq_true c3
     clear c3
     by_cases c4 : x8_1 < (l0.length : Int)
     ·
      rw [if_pos c4] at H
      have c4b0 : decide (x8_1 < (l0.length : Int)) = true := decide_eq_true c4
      clear c4
      by_cases c5 : 0 < ((rd_L6 l0 x8_1).length : Int)
      ·
       rw [if_pos c5] at H
       have c5b0 : decide (0 < ((rd_L6 l0 x8_1).length : Int)) = true := decide_eq_true c5
       have c5b1 : decide (0 < (rd_L6 l0 x8_1).length) = true := decide_eq_true (by omega)
       clear c5
       replace H := Option.bind_eq_some_iff.mp H
       obtain ⟨t151, A60, H⟩ := H
       replace H : (if t151 = true then (cover_column.l0 k1 x3_1 l0 (l0.length : Int) (wrap64 (x8_1 + 1))) else (if x3_1.length < 1599289640401 then (cover_column.l0 k1 (x3_1 ++ [(⟨(rd_T25 (rd_L6 l0 x8_1) 0).f0, (rd_T25 (rd_L6 l0 x8_1) 0).f1, (rd_T25 (rd_L6 l0 x8_1) 0).f2, (rd_T25 (rd_L6 l0 x8_1) 0).f3, (rd_T25 (rd_L6 l0 x8_1) 0).f4, (rd_T25 (rd_L6 l0 x8_1) 0).f5⟩ : S25)]) l0 (l0.length : Int) (wrap64 (x8_1 + 1))) else (none))) = some r := H
       have A6 := Aside0.mk A60
       clear A60
       by_cases c7 : t151 = true
       ·
        subst c7
        have H1 : (cover_column.l0 k1 x3_1 l0 (l0.length : Int) (wrap64 (x8_1 + 1))) = some r := by rw [if_pos rfl] at H; exact H
        clear H
        have H := H1
        clear H1
        have H' := Aside0.mk H
        clear H
        have p149 : 0 ≤ (x8_1 : Int) := of_decide_eq_true (by first | (with_reducible assumption) | assumption)
        have q149 : x8_1 < (l0.length : Int) := of_decide_eq_true (by first | (with_reducible assumption) | assumption)
        obtain ⟨ad149, A149_0, c149_0, e149, hx149_0, hl149_0, hi149_0⟩ := at_L6 (Kd.V_reads' HO_6.out).2.2 x8_1 p149 q149
        cases e149
        obtain ⟨ce149, hce149, hMe149, hcc149⟩ := Kd.V_get HO_6.out [] x8_1 p149 (by first | exact q149 | exact of_decide_eq_true (by first | (with_reducible assumption) | assumption) | (have e_ := (Kd.V_reads' HO_6.out).1; omega))
        obtain ⟨ua149_0, uc149_0, rfl, ul149_0, ge149_0⟩ := Kd.FK_slice_open hMe149
        have hv149_0 := hcc149 0 _ rfl
        rw [Nat.add_zero, show ((Kd.slice 25 k25)).sz = 1 from rfl, Nat.mul_one] at hv149_0
        replace hv149_0 := Option.some.inj (hv149_0.symm.trans hx149_0)
        injection hv149_0 with hva_ hvn_ hvc_
        rw [hva_] at ge149_0
        rw [hvc_] at ul149_0
        have HL149_0 := Aside0.mk (show Kd.V k25 25 _ w.heap.size _ _ (rd_L6 l0 x8_1) from Kd.V_mk ul149_0 ge149_0)
        clear hva_ hvn_ hvc_ ge149_0 ul149_0
        clear hcc149 hce149
        have HR149_0 := Aside0.mk hi149_0
        have HC149_0 := Aside0.mk hl149_0
        clear hi149_0 hl149_0
        replace p149 := eq_true p149
        replace q149 := eq_true q149
        have p150 : 0 ≤ (0 : Int) := (by omega)
        have q150 : 0 < ((rd_L6 l0 x8_1).length : Int) := of_decide_eq_true (by first | (with_reducible assumption) | assumption)
        obtain ⟨ad150, A150_4, c150_4, A150_5, c150_5, e150, hx150_0, hx150_1, hx150_2, hx150_3, hx150_4, hx150_5, hl150_4, hi150_4, hl150_5, hi150_5⟩ := at_T25 (by repeat ((with_reducible exact HR149_0.out))) 0 p150 q150
        cases e150
        obtain ⟨ce150, hce150, hMe150, hcc150⟩ := Kd.V_get HL149_0.out z25 0 p150 (by first | exact q150 | exact of_decide_eq_true (by first | (with_reducible assumption) | assumption) | (have e_ := (Kd.V_reads' HL149_0.out).1; omega))
        obtain ⟨ua150_4, uc150_4, ua150_5, uc150_5, rfl, ul150_4, ge150_4, ul150_5, ge150_5⟩ := k25_openF hMe150
        have hv150_4 := hcc150 4 _ rfl
        rw [add_field _ _ 4 (by omega)] at hv150_4
        replace hv150_4 := Option.some.inj (hv150_4.symm.trans hx150_4)
        injection hv150_4 with hva_ hvn_ hvc_
        rw [hva_] at ge150_4
        rw [hvc_] at ul150_4
        have HL150_4 := Aside0.mk (show Kd.V Kd.string 9 _ w.heap.size _ _ ((rd_T25 (rd_L6 l0 x8_1) 0).f4) from Kd.V_mk ul150_4 ge150_4)
        clear hva_ hvn_ hvc_ ge150_4 ul150_4
        have hv150_5 := hcc150 5 _ rfl
        rw [add_field _ _ 5 (by omega)] at hv150_5
        replace hv150_5 := Option.some.inj (hv150_5.symm.trans hx150_5)
        injection hv150_5 with hva_ hvn_ hvc_
        rw [hva_] at ge150_5
        rw [hvc_] at ul150_5
        have HL150_5 := Aside0.mk (show Kd.V k25 25 _ w.heap.size _ _ ((rd_T25 (rd_L6 l0 x8_1) 0).f5) from Kd.V_mk ul150_5 ge150_5)
        clear hva_ hvn_ hvc_ ge150_5 ul150_5
        clear hcc150 hce150
        have qi150 : (0 < (rd_L6 l0 x8_1).length) = True := eq_true (by omega)
        (try rw [show ((0 : Int)).toNat = 0 from rfl] at hx150_0)
        (try rw [show 0 * 6 = 0 from rfl] at hx150_0)
        (try rw [Addr.add_zero'] at hx150_0)
        (try rw [show ((0 : Int)).toNat = 0 from rfl] at hx150_1)
        (try rw [show 0 * 6 = 0 from rfl] at hx150_1)
        (try rw [Addr.add_zero'] at hx150_1)
        (try rw [show ((0 : Int)).toNat = 0 from rfl] at hx150_2)
        (try rw [show 0 * 6 = 0 from rfl] at hx150_2)
        (try rw [Addr.add_zero'] at hx150_2)
        (try rw [show ((0 : Int)).toNat = 0 from rfl] at hx150_3)
        (try rw [show 0 * 6 = 0 from rfl] at hx150_3)
        (try rw [Addr.add_zero'] at hx150_3)
        (try rw [show ((0 : Int)).toNat = 0 from rfl] at hx150_4)
        (try rw [show 0 * 6 = 0 from rfl] at hx150_4)
        (try rw [Addr.add_zero'] at hx150_4)
        (try rw [show ((0 : Int)).toNat = 0 from rfl] at hx150_5)
        (try rw [show 0 * 6 = 0 from rfl] at hx150_5)
        (try rw [Addr.add_zero'] at hx150_5)
        have HR150_4 := Aside0.mk hi150_4
        have HC150_4 := Aside0.mk hl150_4
        clear hi150_4 hl150_4
        have HR150_5 := Aside0.mk hi150_5
        have HC150_5 := Aside0.mk hl150_5
        clear hi150_5 hl150_5
        replace p150 := eq_true p150
        replace q150 := eq_true q150
        go_wp2_with (first | ((with_reducible refine gate_callee (f := 46) rfl ?_); refine goesL_ (some 15) rfl rfl Try.func46 (by kernel_rfl) rfl #[.agg #[.int .i64 ((rd_T25 (rd_L6 l0 x8_1) 0).f0), .string ((rd_T25 (rd_L6 l0 x8_1) 0).f1), .int .i64 ((rd_T25 (rd_L6 l0 x8_1) 0).f2), .int .i64 ((rd_T25 (rd_L6 l0 x8_1) 0).f3), .slice A150_4 ((rd_T25 (rd_L6 l0 x8_1) 0).f4).length c150_4, .slice A150_5 ((rd_T25 (rd_L6 l0 x8_1) 0).f5).length c150_5]] rfl (by (try simp only [List.map_toArray, List.map_cons, List.map_nil]); first | done | rfl | (simp only [List.length_drop, List.length_take]; rfl)) ?_; (with_reducible refine (cover_loose.calls ((rd_T25 (rd_L6 l0 x8_1) 0).f0) ((rd_T25 (rd_L6 l0 x8_1) 0).f1) ((rd_T25 (rd_L6 l0 x8_1) 0).f2) ((rd_T25 (rd_L6 l0 x8_1) 0).f3) _ _ ((rd_T25 (rd_L6 l0 x8_1) 0).f4) _ _ ((rd_T25 (rd_L6 l0 x8_1) 0).f5) true _ ?side1 ?side2 ?side3 ?side4 A6.out).mono ?_); (case side1 => repeat (first | exact (by repeat (first | (with_reducible exact HR150_4.out) | (with_reducible refine Kd.C_alloc ?_ _) | (with_reducible refine Kd.C_drewN ?_ _) | (with_reducible refine Kd.C_drew ?_) | exact HR150_4.out)) | (with_reducible refine Kd.C_alloc ?_ _) | (with_reducible refine Kd.C_drewN ?_ _) | (with_reducible refine Kd.C_drew ?_))); (case side2 => exact HC150_4.out); (case side3 => repeat (first | exact (by repeat (first | (with_reducible exact HR150_5.out) | (with_reducible refine Kd.C_alloc ?_ _) | (with_reducible refine Kd.C_drewN ?_ _) | (with_reducible refine Kd.C_drew ?_) | exact HR150_5.out)) | (with_reducible refine Kd.C_alloc ?_ _) | (with_reducible refine Kd.C_drewN ?_ _) | (with_reducible refine Kd.C_drew ?_))); (case side4 => exact HC150_5.out); rintro e w8 ⟨rfl, hb⟩; refine ⟨_, rfl, ?_⟩; have n0_ := Aside0.mk (Kd.N_below (by (with_reducible repeat (first | apply Kd.N_alloc | apply Kd.N_drewN | apply Kd.N_drew)); exact HO_3.out) hb); have n1_ := Aside0.mk (Kd.V_below (by (with_reducible repeat (first | apply Kd.V_alloc | apply Kd.V_drewN | apply Kd.V_drew)); exact HO_6.out) hb); have n2_ := Aside0.mk (Kd.V_below (by (with_reducible repeat (first | apply Kd.V_alloc | apply Kd.V_drewN | apply Kd.V_drew)); exact HL149_0.out) hb); have n3_ := Aside0.mk (Kd.V_below (by (with_reducible repeat (first | apply Kd.V_alloc | apply Kd.V_drewN | apply Kd.V_drew)); exact HL150_4.out) hb); have n4_ := Aside0.mk (Kd.V_below (by (with_reducible repeat (first | apply Kd.V_alloc | apply Kd.V_drewN | apply Kd.V_drew)); exact HL150_5.out) hb); have n5_ := Aside0.mk (Kd.C_below (by repeat (first | (with_reducible exact HR149_0.out) | (with_reducible refine Kd.C_alloc ?_ _) | (with_reducible refine Kd.C_drewN ?_ _) | (with_reducible refine Kd.C_drew ?_) | exact HR149_0.out)) hb); have n6_ := Aside0.mk (Kd.C_below (by repeat (first | (with_reducible exact HR150_4.out) | (with_reducible refine Kd.C_alloc ?_ _) | (with_reducible refine Kd.C_drewN ?_ _) | (with_reducible refine Kd.C_drew ?_) | exact HR150_4.out)) hb); have n7_ := Aside0.mk (Kd.C_below (by repeat (first | (with_reducible exact HR150_5.out) | (with_reducible refine Kd.C_alloc ?_ _) | (with_reducible refine Kd.C_drewN ?_ _) | (with_reducible refine Kd.C_drew ?_) | exact HR150_5.out)) hb); have n8_ := Aside0.mk (below_step (by repeat (first | (with_reducible first | exact HB.out | apply below_alloc | apply pw_below_drewN | apply below_drew1) | exact HB.out)) hb); clear HO_3; clear HO_6; clear HL149_0; clear HL150_4; clear HL150_5; clear HR149_0; clear HR150_4; clear HR150_5; clear HB; have HO_3 := n0_; have HO_6 := n1_; have HL149_0 := n2_; have HL150_4 := n3_; have HL150_5 := n4_; have HR149_0 := n5_; have HR150_4 := n6_; have HR150_5 := n7_; have HB := n8_; clear n0_ n1_ n2_ n3_ n4_ n5_ n6_ n7_ n8_; (try clear hb); (try clear hb2); (try clear hk); (try clear hi)))
        go_roundg k1
        case measure => have := HK1.out; omega
        case rel => exact ⟨(x3_1), (wrap64 (x8_1 + 1)), (by first | rfl | (simp; done) | (simp [*]; done)), H', ⟨by have := HK1.out; omega⟩, ⟨by (with_reducible repeat (first | apply Kd.N_alloc | apply Kd.N_drewN | apply Kd.N_drew)); exact HO_3.out⟩, ⟨by (with_reducible repeat (first | apply Kd.V_alloc | apply Kd.V_drewN | apply Kd.V_drew)); exact HO_6.out⟩, ⟨by repeat ((with_reducible first | exact HB.out | apply below_alloc | apply pw_below_drewN | apply below_drew1))⟩⟩
       ·
        replace c7 := Bool.eq_false_iff.mpr c7
        subst c7
        have H1 : (if x3_1.length < 1599289640401 then (cover_column.l0 k1 (x3_1 ++ [(⟨(rd_T25 (rd_L6 l0 x8_1) 0).f0, (rd_T25 (rd_L6 l0 x8_1) 0).f1, (rd_T25 (rd_L6 l0 x8_1) 0).f2, (rd_T25 (rd_L6 l0 x8_1) 0).f3, (rd_T25 (rd_L6 l0 x8_1) 0).f4, (rd_T25 (rd_L6 l0 x8_1) 0).f5⟩ : S25)]) l0 (l0.length : Int) (wrap64 (x8_1 + 1))) else (none)) = some r := by rw [if_neg (show ¬ (false = true) by decide)] at H; exact H
        clear H
        have H := H1
        clear H1
        by_cases c9 : x3_1.length < 1599289640401
        ·
         rw [if_pos c9] at H
         have LMc9 := Aside0.mk c9
         clear c9
         obtain ⟨y153, hy153⟩ : ∃ y_ : List (S25), y_ = (x3_1 ++ [(⟨(rd_T25 (rd_L6 l0 x8_1) 0).f0, (rd_T25 (rd_L6 l0 x8_1) 0).f1, (rd_T25 (rd_L6 l0 x8_1) 0).f2, (rd_T25 (rd_L6 l0 x8_1) 0).f3, (rd_T25 (rd_L6 l0 x8_1) 0).f4, (rd_T25 (rd_L6 l0 x8_1) 0).f5⟩ : S25)]) := ⟨_, rfl⟩
         replace H : (cover_column.l0 k1 y153 l0 (l0.length : Int) (wrap64 (x8_1 + 1))) = some r := by first | (rw [hy153]; with_reducible exact H) | (have H2_ := (Option.bind_some _ _).symm.trans H; rw [hy153]; with_reducible exact H2_) | (have H2_ := (Option.bind_some _ _).symm.trans H; with_reducible exact H2_) | with_reducible exact H | (rw [hy153]; exact H) | exact H
         have Ny153 := Aside0.mk hy153
         clear hy153
         have H' := Aside0.mk H
         clear H
         have p149 : 0 ≤ (x8_1 : Int) := of_decide_eq_true (by first | (with_reducible assumption) | assumption)
         have q149 : x8_1 < (l0.length : Int) := of_decide_eq_true (by first | (with_reducible assumption) | assumption)
         obtain ⟨ad149, A149_0, c149_0, e149, hx149_0, hl149_0, hi149_0⟩ := at_L6 (Kd.V_reads' HO_6.out).2.2 x8_1 p149 q149
         cases e149
         obtain ⟨ce149, hce149, hMe149, hcc149⟩ := Kd.V_get HO_6.out [] x8_1 p149 (by first | exact q149 | exact of_decide_eq_true (by first | (with_reducible assumption) | assumption) | (have e_ := (Kd.V_reads' HO_6.out).1; omega))
         obtain ⟨ua149_0, uc149_0, rfl, ul149_0, ge149_0⟩ := Kd.FK_slice_open hMe149
         have hv149_0 := hcc149 0 _ rfl
         rw [Nat.add_zero, show ((Kd.slice 25 k25)).sz = 1 from rfl, Nat.mul_one] at hv149_0
         replace hv149_0 := Option.some.inj (hv149_0.symm.trans hx149_0)
         injection hv149_0 with hva_ hvn_ hvc_
         rw [hva_] at ge149_0
         rw [hvc_] at ul149_0
         have HL149_0 := Aside0.mk (show Kd.V k25 25 _ w.heap.size _ _ (rd_L6 l0 x8_1) from Kd.V_mk ul149_0 ge149_0)
         clear hva_ hvn_ hvc_ ge149_0 ul149_0
         clear hcc149 hce149
         have HR149_0 := Aside0.mk hi149_0
         have HC149_0 := Aside0.mk hl149_0
         clear hi149_0 hl149_0
         replace p149 := eq_true p149
         replace q149 := eq_true q149
         have p150 : 0 ≤ (0 : Int) := (by omega)
         have q150 : 0 < ((rd_L6 l0 x8_1).length : Int) := of_decide_eq_true (by first | (with_reducible assumption) | assumption)
         obtain ⟨ad150, A150_4, c150_4, A150_5, c150_5, e150, hx150_0, hx150_1, hx150_2, hx150_3, hx150_4, hx150_5, hl150_4, hi150_4, hl150_5, hi150_5⟩ := at_T25 (by repeat ((with_reducible exact HR149_0.out))) 0 p150 q150
         cases e150
         obtain ⟨ce150, hce150, hMe150, hcc150⟩ := Kd.V_get HL149_0.out z25 0 p150 (by first | exact q150 | exact of_decide_eq_true (by first | (with_reducible assumption) | assumption) | (have e_ := (Kd.V_reads' HL149_0.out).1; omega))
         obtain ⟨ua150_4, uc150_4, ua150_5, uc150_5, rfl, ul150_4, ge150_4, ul150_5, ge150_5⟩ := k25_openF hMe150
         have hv150_4 := hcc150 4 _ rfl
         rw [add_field _ _ 4 (by omega)] at hv150_4
         replace hv150_4 := Option.some.inj (hv150_4.symm.trans hx150_4)
         injection hv150_4 with hva_ hvn_ hvc_
         rw [hva_] at ge150_4
         rw [hvc_] at ul150_4
         have HL150_4 := Aside0.mk (show Kd.V Kd.string 9 _ w.heap.size _ _ ((rd_T25 (rd_L6 l0 x8_1) 0).f4) from Kd.V_mk ul150_4 ge150_4)
         clear hva_ hvn_ hvc_ ge150_4 ul150_4
         have hv150_5 := hcc150 5 _ rfl
         rw [add_field _ _ 5 (by omega)] at hv150_5
         replace hv150_5 := Option.some.inj (hv150_5.symm.trans hx150_5)
         injection hv150_5 with hva_ hvn_ hvc_
         rw [hva_] at ge150_5
         rw [hvc_] at ul150_5
         have HL150_5 := Aside0.mk (show Kd.V k25 25 _ w.heap.size _ _ ((rd_T25 (rd_L6 l0 x8_1) 0).f5) from Kd.V_mk ul150_5 ge150_5)
         clear hva_ hvn_ hvc_ ge150_5 ul150_5
         clear hcc150 hce150
         have qi150 : (0 < (rd_L6 l0 x8_1).length) = True := eq_true (by omega)
         (try rw [show ((0 : Int)).toNat = 0 from rfl] at hx150_0)
         (try rw [show 0 * 6 = 0 from rfl] at hx150_0)
         (try rw [Addr.add_zero'] at hx150_0)
         (try rw [show ((0 : Int)).toNat = 0 from rfl] at hx150_1)
         (try rw [show 0 * 6 = 0 from rfl] at hx150_1)
         (try rw [Addr.add_zero'] at hx150_1)
         (try rw [show ((0 : Int)).toNat = 0 from rfl] at hx150_2)
         (try rw [show 0 * 6 = 0 from rfl] at hx150_2)
         (try rw [Addr.add_zero'] at hx150_2)
         (try rw [show ((0 : Int)).toNat = 0 from rfl] at hx150_3)
         (try rw [show 0 * 6 = 0 from rfl] at hx150_3)
         (try rw [Addr.add_zero'] at hx150_3)
         (try rw [show ((0 : Int)).toNat = 0 from rfl] at hx150_4)
         (try rw [show 0 * 6 = 0 from rfl] at hx150_4)
         (try rw [Addr.add_zero'] at hx150_4)
         (try rw [show ((0 : Int)).toNat = 0 from rfl] at hx150_5)
         (try rw [show 0 * 6 = 0 from rfl] at hx150_5)
         (try rw [Addr.add_zero'] at hx150_5)
         have HR150_4 := Aside0.mk hi150_4
         have HC150_4 := Aside0.mk hl150_4
         clear hi150_4 hl150_4
         have HR150_5 := Aside0.mk hi150_5
         have HC150_5 := Aside0.mk hl150_5
         clear hi150_5 hl150_5
         replace p150 := eq_true p150
         replace q150 := eq_true q150
         go_wp2_with (first | ((with_reducible refine gate_callee (f := 46) rfl ?_); refine goesL_ (some 15) rfl rfl Try.func46 (by kernel_rfl) rfl #[.agg #[.int .i64 ((rd_T25 (rd_L6 l0 x8_1) 0).f0), .string ((rd_T25 (rd_L6 l0 x8_1) 0).f1), .int .i64 ((rd_T25 (rd_L6 l0 x8_1) 0).f2), .int .i64 ((rd_T25 (rd_L6 l0 x8_1) 0).f3), .slice A150_4 ((rd_T25 (rd_L6 l0 x8_1) 0).f4).length c150_4, .slice A150_5 ((rd_T25 (rd_L6 l0 x8_1) 0).f5).length c150_5]] rfl (by (try simp only [List.map_toArray, List.map_cons, List.map_nil]); first | done | rfl | (simp only [List.length_drop, List.length_take]; rfl)) ?_; (with_reducible refine (cover_loose.calls ((rd_T25 (rd_L6 l0 x8_1) 0).f0) ((rd_T25 (rd_L6 l0 x8_1) 0).f1) ((rd_T25 (rd_L6 l0 x8_1) 0).f2) ((rd_T25 (rd_L6 l0 x8_1) 0).f3) _ _ ((rd_T25 (rd_L6 l0 x8_1) 0).f4) _ _ ((rd_T25 (rd_L6 l0 x8_1) 0).f5) false _ ?side1 ?side2 ?side3 ?side4 A6.out).mono ?_); (case side1 => repeat (exact (by repeat ((with_reducible exact HR150_4.out))))); (case side2 => exact HC150_4.out); (case side3 => repeat (exact (by repeat ((with_reducible exact HR150_5.out))))); (case side4 => exact HC150_5.out); rintro e w10 ⟨rfl, hb⟩; refine ⟨_, rfl, ?_⟩; have n0_ := Aside0.mk (Kd.N_below (by (with_reducible repeat (first | apply Kd.N_alloc | apply Kd.N_drewN | apply Kd.N_drew)); exact HO_3.out) hb); have n1_ := Aside0.mk (Kd.V_below (by (with_reducible repeat (first | apply Kd.V_alloc | apply Kd.V_drewN | apply Kd.V_drew)); exact HO_6.out) hb); have n2_ := Aside0.mk (Kd.V_below (by (with_reducible repeat (first | apply Kd.V_alloc | apply Kd.V_drewN | apply Kd.V_drew)); exact HL149_0.out) hb); have n3_ := Aside0.mk (Kd.V_below (by (with_reducible repeat (first | apply Kd.V_alloc | apply Kd.V_drewN | apply Kd.V_drew)); exact HL150_4.out) hb); have n4_ := Aside0.mk (Kd.V_below (by (with_reducible repeat (first | apply Kd.V_alloc | apply Kd.V_drewN | apply Kd.V_drew)); exact HL150_5.out) hb); have n5_ := Aside0.mk (Kd.C_below (by repeat ((with_reducible exact HR149_0.out))) hb); have n6_ := Aside0.mk (Kd.C_below (by repeat ((with_reducible exact HR150_4.out))) hb); have n7_ := Aside0.mk (Kd.C_below (by repeat ((with_reducible exact HR150_5.out))) hb); have n8_ := Aside0.mk (below_step (by repeat ((with_reducible first | exact HB.out | apply below_alloc | apply pw_below_drewN | apply below_drew1))) hb); clear HO_3; clear HO_6; clear HL149_0; clear HL150_4; clear HL150_5; clear HR149_0; clear HR150_4; clear HR150_5; clear HB; have HO_3 := n0_; have HO_6 := n1_; have HL149_0 := n2_; have HL150_4 := n3_; have HL150_5 := n4_; have HR149_0 := n5_; have HR150_4 := n6_; have HR150_5 := n7_; have HB := n8_; clear n0_ n1_ n2_ n3_ n4_ n5_ n6_ n7_ n8_; (try clear hb); (try clear hb2); (try clear hk); (try clear hi); have p152 : 0 ≤ (0 : Int) := (by omega); have q152 : 0 < ((rd_L6 l0 x8_1).length : Int) := of_decide_eq_true (by first | (with_reducible assumption) | assumption); obtain ⟨ad152, A152_4, c152_4, A152_5, c152_5, e152, hx152_0, hx152_1, hx152_2, hx152_3, hx152_4, hx152_5, hl152_4, hi152_4, hl152_5, hi152_5⟩ := at_T25 (by repeat ((with_reducible exact HR149_0.out))) 0 p152 q152; obtain rfl : ad150 = ad152 := (by injection e152); obtain ⟨ce152, hce152, hMe152, hcc152⟩ := Kd.V_get HL149_0.out z25 0 p152 (by first | exact q152 | exact of_decide_eq_true (by first | (with_reducible assumption) | assumption) | (have e_ := (Kd.V_reads' HL149_0.out).1; omega)); obtain ⟨ua152_4, uc152_4, ua152_5, uc152_5, rfl, ul152_4, ge152_4, ul152_5, ge152_5⟩ := k25_openF hMe152; have hv152_4 := hcc152 4 _ rfl; rw [add_field _ _ 4 (by omega)] at hv152_4; replace hv152_4 := Option.some.inj (hv152_4.symm.trans hx152_4); injection hv152_4 with hva_ hvn_ hvc_; rw [hva_] at ge152_4; rw [hvc_] at ul152_4; have HL152_4 := Aside0.mk (show Kd.V Kd.string 9 _ w.heap.size _ _ ((rd_T25 (rd_L6 l0 x8_1) 0).f4) from Kd.V_mk ul152_4 ge152_4); clear hva_ hvn_ hvc_ ge152_4 ul152_4; have hv152_5 := hcc152 5 _ rfl; rw [add_field _ _ 5 (by omega)] at hv152_5; replace hv152_5 := Option.some.inj (hv152_5.symm.trans hx152_5); injection hv152_5 with hva_ hvn_ hvc_; rw [hva_] at ge152_5; rw [hvc_] at ul152_5; have HL152_5 := Aside0.mk (show Kd.V k25 25 _ w.heap.size _ _ ((rd_T25 (rd_L6 l0 x8_1) 0).f5) from Kd.V_mk ul152_5 ge152_5); clear hva_ hvn_ hvc_ ge152_5 ul152_5; clear hcc152 hce152; have qi152 : (0 < (rd_L6 l0 x8_1).length) = True := eq_true (by omega); (try rw [show ((0 : Int)).toNat = 0 from rfl] at hx152_0); (try rw [show 0 * 6 = 0 from rfl] at hx152_0); (try rw [Addr.add_zero'] at hx152_0); (try rw [show ((0 : Int)).toNat = 0 from rfl] at hx152_1); (try rw [show 0 * 6 = 0 from rfl] at hx152_1); (try rw [Addr.add_zero'] at hx152_1); (try rw [show ((0 : Int)).toNat = 0 from rfl] at hx152_2); (try rw [show 0 * 6 = 0 from rfl] at hx152_2); (try rw [Addr.add_zero'] at hx152_2); (try rw [show ((0 : Int)).toNat = 0 from rfl] at hx152_3); (try rw [show 0 * 6 = 0 from rfl] at hx152_3); (try rw [Addr.add_zero'] at hx152_3); (try rw [show ((0 : Int)).toNat = 0 from rfl] at hx152_4); (try rw [show 0 * 6 = 0 from rfl] at hx152_4); (try rw [Addr.add_zero'] at hx152_4); (try rw [show ((0 : Int)).toNat = 0 from rfl] at hx152_5); (try rw [show 0 * 6 = 0 from rfl] at hx152_5); (try rw [Addr.add_zero'] at hx152_5); have HR152_4 := Aside0.mk hi152_4; have HC152_4 := Aside0.mk hl152_4; clear hi152_4 hl152_4; have HR152_5 := Aside0.mk hi152_5; have HC152_5 := Aside0.mk hl152_5; clear hi152_5 hl152_5; replace p152 := eq_true p152; replace q152 := eq_true q152) | ((with_reducible refine gate_builtin (b := .append) (xs := #[.tmp 17, .tmp 21]) rfl ?_); at_builtin; refine Kd.N_append k25 (w0 := w) w.heap.size rfl (.tmp 17) (.tmp 21) 22 25 (.agg #[(.int .i64 0), (.string ⟨#[]⟩), (.int .i64 0), (.int .i64 0), (.slice none 0 0), (.slice none 0 0)]) 88 rfl Try.underlying22 info25 rfl (by decide) (by omega) u3 x3_1 (⟨(rd_T25 (rd_L6 l0 x8_1) 0).f0, (rd_T25 (rd_L6 l0 x8_1) 0).f1, (rd_T25 (rd_L6 l0 x8_1) 0).f2, (rd_T25 (rd_L6 l0 x8_1) 0).f3, (rd_T25 (rd_L6 l0 x8_1) 0).f4, (rd_T25 (rd_L6 l0 x8_1) 0).f5⟩ : S25) [.int .i64 ((rd_T25 (rd_L6 l0 x8_1) 0).f0), .string ((rd_T25 (rd_L6 l0 x8_1) 0).f1), .int .i64 ((rd_T25 (rd_L6 l0 x8_1) 0).f2), .int .i64 ((rd_T25 (rd_L6 l0 x8_1) 0).f3), .slice A152_4 ((rd_T25 (rd_L6 l0 x8_1) 0).f4).length c152_4, .slice A152_5 ((rd_T25 (rd_L6 l0 x8_1) 0).f5).length c152_5] (fun k_ => (P0_ k_ ∨ w.heap.size ≤ k_)) (fun k_ => ((fun k_ => (P0_ k_ ∨ w.heap.size ≤ k_))) k_ ∧ some k_ ≠ (u3 : Value).ownBlock) rfl rfl ?aP (fun _ hk => hk) ?aF ?aO ?aB ?aS ?aL ?_; (case aP => exact (k25_mkF _ _ (⟨(rd_T25 (rd_L6 l0 x8_1) 0).f0, (rd_T25 (rd_L6 l0 x8_1) 0).f1, (rd_T25 (rd_L6 l0 x8_1) 0).f2, (rd_T25 (rd_L6 l0 x8_1) 0).f3, (rd_T25 (rd_L6 l0 x8_1) 0).f4, (rd_T25 (rd_L6 l0 x8_1) 0).f5⟩ : S25) (Kd.V_reads' (Kd.V_mono (ok' := (fun k_ => ((fun k_ => (P0_ k_ ∨ w.heap.size ≤ k_))) k_ ∧ some k_ ≠ (u3 : Value).ownBlock)) (HL152_4.out) (fun k_ hk => ⟨hk.1, hk.2⟩))).2.1 (Kd.V_F (Kd.V_mono (ok' := (fun k_ => ((fun k_ => (P0_ k_ ∨ w.heap.size ≤ k_))) k_ ∧ some k_ ≠ (u3 : Value).ownBlock)) (HL152_4.out) (fun k_ hk => ⟨hk.1, hk.2⟩))) (Kd.V_reads' (Kd.V_mono (ok' := (fun k_ => ((fun k_ => (P0_ k_ ∨ w.heap.size ≤ k_))) k_ ∧ some k_ ≠ (u3 : Value).ownBlock)) (HL152_5.out) (fun k_ hk => ⟨hk.1, hk.2⟩))).2.1 (Kd.V_F (Kd.V_mono (ok' := (fun k_ => ((fun k_ => (P0_ k_ ∨ w.heap.size ≤ k_))) k_ ∧ some k_ ≠ (u3 : Value).ownBlock)) (HL152_5.out) (fun k_ hk => ⟨hk.1, hk.2⟩))))); (case aB => exact (by repeat ((with_reducible first | exact HB.out | apply below_alloc | apply pw_below_drewN | apply below_drew1)))); (case aF => exact (fun k_ hk => (.inr (Nat.le_trans (below_size (by repeat ((with_reducible first | exact HB.out | apply below_alloc | apply pw_below_drewN | apply below_drew1)))) hk)))); (case aO => exact (by (with_reducible repeat (first | apply Kd.N_alloc | apply Kd.N_drewN | apply Kd.N_drew)); exact HO_3.out)); (case aS => exact (below_size (by repeat ((with_reducible first | exact HB.out | apply below_alloc | apply pw_below_drewN | apply below_drew1))))); (case aL => have := LMc9.out; omega); intro v154 w11 ho hb hg hat; rw [← Ny153.out] at ho; have n0_ := Aside0.mk (Kd.V_afterv (ok := (fun k_ => (P0_ k_ ∨ w.heap.size ≤ k_))) (by (with_reducible repeat (first | apply Kd.V_alloc | apply Kd.V_drewN | apply Kd.V_drew)); exact HO_6.out) hg hat); have n1_ := Aside0.mk (Kd.V_afterv (ok := (fun k_ => (P0_ k_ ∨ w.heap.size ≤ k_))) (by (with_reducible repeat (first | apply Kd.V_alloc | apply Kd.V_drewN | apply Kd.V_drew)); exact HL149_0.out) hg hat); have n2_ := Aside0.mk (Kd.V_afterv (ok := (fun k_ => (P0_ k_ ∨ w.heap.size ≤ k_))) (by (with_reducible repeat (first | apply Kd.V_alloc | apply Kd.V_drewN | apply Kd.V_drew)); exact HL150_4.out) hg hat); have n3_ := Aside0.mk (Kd.V_afterv (ok := (fun k_ => (P0_ k_ ∨ w.heap.size ≤ k_))) (by (with_reducible repeat (first | apply Kd.V_alloc | apply Kd.V_drewN | apply Kd.V_drew)); exact HL150_5.out) hg hat); have n4_ := Aside0.mk (Kd.V_afterv (ok := (fun k_ => (P0_ k_ ∨ w.heap.size ≤ k_))) (by (with_reducible repeat (first | apply Kd.V_alloc | apply Kd.V_drewN | apply Kd.V_drew)); exact HL152_4.out) hg hat); have n5_ := Aside0.mk (Kd.V_afterv (ok := (fun k_ => (P0_ k_ ∨ w.heap.size ≤ k_))) (by (with_reducible repeat (first | apply Kd.V_alloc | apply Kd.V_drewN | apply Kd.V_drew)); exact HL152_5.out) hg hat); have n6_ := Aside0.mk (hb); have n7_ := Aside0.mk (ho); clear HO_6; clear HL149_0; clear HL150_4; clear HL150_5; clear HL152_4; clear HL152_5; clear HB; clear HO_3; have HO_6 := n0_; have HL149_0 := n1_; have HL150_4 := n2_; have HL150_5 := n3_; have HL152_4 := n4_; have HL152_5 := n5_; have HB := n6_; have HO155 := n7_; clear n0_ n1_ n2_ n3_ n4_ n5_ n6_ n7_; clear ho hb hg hat))
         go_roundg k1
         case measure => have := HK1.out; omega
         case rel => exact ⟨(y153), (wrap64 (x8_1 + 1)), (by first | rfl | (simp; done) | (simp [*]; done)), H', ⟨by have := HK1.out; omega⟩, ⟨by (with_reducible repeat (first | apply Kd.N_alloc | apply Kd.N_drewN | apply Kd.N_drew)); exact HO155.out⟩, ⟨by (with_reducible repeat (first | apply Kd.V_alloc | apply Kd.V_drewN | apply Kd.V_drew)); exact HO_6.out⟩, ⟨by repeat ((with_reducible first | exact HB.out | apply below_alloc | apply pw_below_drewN | apply below_drew1))⟩⟩
        ·
         rw [if_neg c9] at H
         exact absurd H (by simp)
      ·
       rw [if_neg c5] at H
       exact absurd H (by simp)
     ·
      rw [if_neg c4] at H
      exact absurd H (by simp)
    ·
     rw [if_neg c3] at H
     exact absurd H (by simp)
   ·
    rw [if_neg c2] at H
    have c2b0 : decide (x8_1 < (l0.length : Int)) = false := decide_eq_false c2
    clear c2
    obtain rfl := Option.some.inj H
    go_wp2
    go_ret
    exact ⟨_, by first | rfl | (simp [errW_none, errW_some] <;> rfl) | (simp [*, errW_none, errW_some] <;> rfl), by (with_reducible repeat (first | apply Kd.N_alloc | apply Kd.N_drewN | apply Kd.N_drew)); exact HO_3.out, by repeat ((with_reducible first | exact HB.out | apply below_alloc | apply pw_below_drewN | apply below_drew1))⟩
end Go.Proofs.Ytikhkcnbabpneaa.P
-- Laid by this session's program wip/printx.py over the kit's print.py; functions that it does not take are walked by hand.
namespace Go.Proofs.Ytikhkcnbabpneaa.P
open Go.RowKit Go.Proofs.YtikhkcnbabpneaaW.PrintWords Go.Proofs.YtikhkcnbabpneaaW.PrintLast Go.Proofs.YtikhkcnbabpneaaW.PrintMore
attribute [local go_sem] max2_int min2_int max_two min_two max_three min_three max_four min_four   -- for this text's walks alone
set_option linter.unusedVariables false
set_option linter.unusedSimpArgs false
def cover_others.l0 : Nat → List (List (S25)) → List (List (S25)) → Int → Int → Option ((List (List (S25))))
 | 0, _, _, _, _ => none
 | k + 1, x3, x6, x7, x8 => if x8 < x7 then (if 0 ≤ x8 then (if x8 < (x6.length : Int) then (if 0 < ((rd_L6 x6 x8).length : Int) then ((cover_loose.f ((rd_T25 (rd_L6 x6 x8) 0).f0) ((rd_T25 (rd_L6 x6 x8) 0).f1) ((rd_T25 (rd_L6 x6 x8) 0).f2) ((rd_T25 (rd_L6 x6 x8) 0).f3) ((rd_T25 (rd_L6 x6 x8) 0).f4) ((rd_T25 (rd_L6 x6 x8) 0).f5)).bind fun t158 => (if t158 = true then (if 1 ≤ ((rd_L6 x6 x8).length : Int) then (if x3.length < 5864062014805 then (cover_others.l0 k (x3 ++ [((rd_L6 x6 x8).drop 1)]) x6 x7 (wrap64 (x8 + 1))) else (none)) else (none)) else (cover_others.l0 k x3 x6 x7 (wrap64 (x8 + 1))))) else (none)) else (none)) else (none)) else (some x3)
def cover_others.f (k : Nat) (l0 : List (List (S25))) : Option ((List (List (S25)))) := cover_others.l0 k ([] : List (List (S25))) l0 (l0.length : Int) 0
theorem cover_others.mono_l : ∀ k, (∀ y0 y1 y2 y3, LeO (cover_others.l0 k y0 y1 y2 y3) (cover_others.l0 (k + 1) y0 y1 y2 y3))
 | 0 => fun _ _ _ _ r h => by simp [cover_others.l0] at h
 | k + 1 => by
  have ih0 := cover_others.mono_l k
  ·
   intro y0 y1 y2 y3
   unfold cover_others.l0
   repeat' first
   | (with_reducible exact ih0 _ _ _ _)
   | (with_reducible exact LeO.refl _)
   | (with_reducible exact LeO.none _)
   | (with_reducible refine LeO.ite ?_ ?_)
   | (with_reducible refine LeO.bind ?_ (fun _ => ?_))
   | exact ih0 _ _ _ _
   | exact LeO.none _
   | refine LeO.ite ?_ ?_
   | refine LeO.bind ?_ (fun _ => ?_)
theorem cover_others.mono : ∀ a0 k, LeO (cover_others.f k a0) (cover_others.f (k + 1) a0) := by
 intro a0 k
 have ih0 := cover_others.mono_l k
 unfold cover_others.f
 repeat' first
  | (with_reducible exact ih0 _ _ _ _)
  | (with_reducible exact LeO.refl _)
  | (with_reducible exact LeO.none _)
  | (with_reducible refine LeO.ite ?_ ?_)
  | (with_reducible refine LeO.bind ?_ (fun _ => ?_))
  | exact ih0 _ _ _ _
  | exact LeO.none _
  | refine LeO.ite ?_ ?_
  | refine LeO.bind ?_ (fun _ => ?_)
set_option maxHeartbeats 8000000 in
set_option maxRecDepth 100000 in
theorem cover_others.calls (k : Nat) (P0_ : Nat → Prop) (A0 : Option Addr) (c0 : Nat) (l0 : List (List (S25))) (r : List (List (S25))) (w : World) (hs0 : Kd.V (Kd.slice 25 k25) 22 w w.heap.size (fun k_ => P0_ k_) (.slice A0 l0.length c0) l0) (h : cover_others.f k l0 = some r) :
 Calls Try.prog 58 #[.slice A0 l0.length c0] w fun e w' => ∃ v0_ : Value, e = .returned (v0_) ∧ Kd.N (Kd.slice 25 k25) 22 w' w.heap.size (fun k_ => (P0_ k_ ∨ w.heap.size ≤ k_)) v0_ r ∧ Below w.heap.size w w' := by
 have hu25 := Try.underlying25
 have HO0 := Aside0.mk (show Kd.V (Kd.slice 25 k25) 22 w w.heap.size (fun k_ => (P0_ k_ ∨ w.heap.size ≤ k_)) (.slice A0 l0.length c0) l0 from Kd.V_mono hs0 (fun k_ hk => .inl hk))
 have HB := Aside0.mk (Below.refl w.heap.size w)
 have H : (cover_others.l0 k ([] : List (List (S25))) l0 (l0.length : Int) 0) = some r := h
 clear h
 have H' := Aside0.mk H
 clear H
 go_enter Try.func58, Try.ntmps58
 go_wp2
 go_loopg [3, 8] k (fun kq v3 v8 w' => ∃ (x3_1 : List (List (S25))) (x8_1 : Int), v8 = .int .i64 x8_1 ∧ Aside0 (cover_others.l0 kq x3_1 l0 (l0.length : Int) x8_1 = some r) ∧ Aside0 (kq ≤ k) ∧ Aside0 (Kd.N (Kd.slice 25 k25) 22 w' w.heap.size (fun k_ => (P0_ k_ ∨ w.heap.size ≤ k_)) v3 x3_1) ∧ Aside0 (Kd.V (Kd.slice 25 k25) 22 w' w.heap.size (fun k_ => (P0_ k_ ∨ w.heap.size ≤ k_) ∧ some k_ ≠ (v3 : Value).ownBlock) (.slice A0 l0.length c0) l0) ∧ Aside0 (Below w.heap.size w w'))
 case atStart => exact ⟨(([] : List (List (S25)))), (0), (by first | rfl | (simp; done) | (simp [*]; done)), H', ⟨Nat.le_refl _⟩, ⟨by first | exact Kd.R_nil _ _ _ _ _ | exact Kd.N_nil _ _ _ _ _ | exact Kd.V_nil _ _ _ _ _ | exact Kd.Q_nil _ _ _ _ _ | exact Kd.S_nil _ _ _ _ _⟩, ⟨by (with_reducible repeat (first | apply Kd.V_alloc | apply Kd.V_drewN | apply Kd.V_drew)); exact Kd.V_mono HO0.out (fun _ hk => ⟨hk, (by simp [Value.ownBlock])⟩)⟩, ⟨by repeat ((with_reducible first | exact HB.out | apply below_alloc | apply pw_below_drewN | apply below_drew1))⟩⟩
 case round =>
  clear H'
  obtain ⟨x3_1, x8_1, rfl, HA, HK1, HO_3, HO_6, HB⟩ := hrel
  cases gk with
  | zero => exact absurd HA.out (by simp [cover_others.l0])
  | succ k1 =>
   have H := HA.out
   clear HA
   simp only [cover_others.l0] at H
   by_cases c2 : x8_1 < (l0.length : Int)
   ·
    rw [if_pos c2] at H
    have c2b0 : decide (x8_1 < (l0.length : Int)) = true := decide_eq_true c2
    clear c2
    by_cases c3 : 0 ≤ x8_1
    ·
     rw [if_pos c3] at H
     have c3b0 : decide (0 ≤ x8_1) = true := decide_eq_true c3
     clear c3
     by_cases c4 : x8_1 < (l0.length : Int)
     ·
      rw [if_pos c4] at H
      have c4b0 : decide (x8_1 < (l0.length : Int)) = true := decide_eq_true c4
      clear c4
      by_cases c5 : 0 < ((rd_L6 l0 x8_1).length : Int)
      ·
       rw [if_pos c5] at H
       have c5b0 : decide (0 < ((rd_L6 l0 x8_1).length : Int)) = true := decide_eq_true c5
       have c5b1 : decide (0 < (rd_L6 l0 x8_1).length) = true := decide_eq_true (by omega)
       clear c5
       replace H := Option.bind_eq_some_iff.mp H
       obtain ⟨t158, A60, H⟩ := H
       replace H : (if t158 = true then (if 1 ≤ ((rd_L6 l0 x8_1).length : Int) then (if x3_1.length < 5864062014805 then (cover_others.l0 k1 (x3_1 ++ [((rd_L6 l0 x8_1).drop 1)]) l0 (l0.length : Int) (wrap64 (x8_1 + 1))) else (none)) else (none)) else (cover_others.l0 k1 x3_1 l0 (l0.length : Int) (wrap64 (x8_1 + 1)))) = some r := H
       have A6 := Aside0.mk A60
       clear A60
       by_cases c7 : t158 = true
       ·
        subst c7
        have H1 : (if 1 ≤ ((rd_L6 l0 x8_1).length : Int) then (if x3_1.length < 5864062014805 then (cover_others.l0 k1 (x3_1 ++ [((rd_L6 l0 x8_1).drop 1)]) l0 (l0.length : Int) (wrap64 (x8_1 + 1))) else (none)) else (none)) = some r := by rw [if_pos rfl] at H; exact H
        clear H
        have H := H1
        clear H1
        by_cases c8 : 1 ≤ ((rd_L6 l0 x8_1).length : Int)
        ·
         rw [if_pos c8] at H
         have c8b0 := eq_true c8
         have c8b1 : decide (1 ≤ ((rd_L6 l0 x8_1).length : Int)) = true := decide_eq_true c8
         clear c8
         obtain ⟨y159, hy159⟩ : ∃ y_ : List (S25), y_ = ((rd_L6 l0 x8_1).drop 1) := ⟨_, rfl⟩
         replace H : (if x3_1.length < 5864062014805 then (cover_others.l0 k1 (x3_1 ++ [y159]) l0 (l0.length : Int) (wrap64 (x8_1 + 1))) else (none)) = some r := by first | (rw [hy159]; with_reducible exact H) | (have H2_ := (Option.bind_some _ _).symm.trans H; rw [hy159]; with_reducible exact H2_) | (have H2_ := (Option.bind_some _ _).symm.trans H; with_reducible exact H2_) | with_reducible exact H | (rw [hy159]; exact H) | exact H
         have Ny159 := Aside0.mk hy159
         clear hy159
         by_cases c9 : x3_1.length < 5864062014805
         ·
          rw [if_pos c9] at H
          have LMc9 := Aside0.mk c9
          clear c9
          obtain ⟨y164, hy164⟩ : ∃ y_ : List (List (S25)), y_ = (x3_1 ++ [y159]) := ⟨_, rfl⟩
          replace H : (cover_others.l0 k1 y164 l0 (l0.length : Int) (wrap64 (x8_1 + 1))) = some r := by first | (rw [hy164]; with_reducible exact H) | (have H2_ := (Option.bind_some _ _).symm.trans H; rw [hy164]; with_reducible exact H2_) | (have H2_ := (Option.bind_some _ _).symm.trans H; with_reducible exact H2_) | with_reducible exact H | (rw [hy164]; exact H) | exact H
          have Ny164 := Aside0.mk hy164
          clear hy164
          have H' := Aside0.mk H
          clear H
          have p156 : 0 ≤ (x8_1 : Int) := of_decide_eq_true (by first | (with_reducible assumption) | assumption)
          have q156 : x8_1 < (l0.length : Int) := of_decide_eq_true (by first | (with_reducible assumption) | assumption)
          obtain ⟨ad156, A156_0, c156_0, e156, hx156_0, hl156_0, hi156_0⟩ := at_L6 (Kd.V_reads' HO_6.out).2.2 x8_1 p156 q156
          cases e156
          obtain ⟨ce156, hce156, hMe156, hcc156⟩ := Kd.V_get HO_6.out [] x8_1 p156 (by first | exact q156 | exact of_decide_eq_true (by first | (with_reducible assumption) | assumption) | (have e_ := (Kd.V_reads' HO_6.out).1; omega))
          obtain ⟨ua156_0, uc156_0, rfl, ul156_0, ge156_0⟩ := Kd.FK_slice_open hMe156
          have hv156_0 := hcc156 0 _ rfl
          rw [Nat.add_zero, show ((Kd.slice 25 k25)).sz = 1 from rfl, Nat.mul_one] at hv156_0
          replace hv156_0 := Option.some.inj (hv156_0.symm.trans hx156_0)
          injection hv156_0 with hva_ hvn_ hvc_
          rw [hva_] at ge156_0
          rw [hvc_] at ul156_0
          have HL156_0 := Aside0.mk (show Kd.V k25 25 _ w.heap.size _ _ (rd_L6 l0 x8_1) from Kd.V_mk ul156_0 ge156_0)
          clear hva_ hvn_ hvc_ ge156_0 ul156_0
          clear hcc156 hce156
          have HR156_0 := Aside0.mk hi156_0
          have HC156_0 := Aside0.mk hl156_0
          clear hi156_0 hl156_0
          replace p156 := eq_true p156
          replace q156 := eq_true q156
          have p157 : 0 ≤ (0 : Int) := (by omega)
          have q157 : 0 < ((rd_L6 l0 x8_1).length : Int) := of_decide_eq_true (by first | (with_reducible assumption) | assumption)
          obtain ⟨ad157, A157_4, c157_4, A157_5, c157_5, e157, hx157_0, hx157_1, hx157_2, hx157_3, hx157_4, hx157_5, hl157_4, hi157_4, hl157_5, hi157_5⟩ := at_T25 (by repeat ((with_reducible exact HR156_0.out))) 0 p157 q157
          cases e157
          obtain ⟨ce157, hce157, hMe157, hcc157⟩ := Kd.V_get HL156_0.out z25 0 p157 (by first | exact q157 | exact of_decide_eq_true (by first | (with_reducible assumption) | assumption) | (have e_ := (Kd.V_reads' HL156_0.out).1; omega))
          obtain ⟨ua157_4, uc157_4, ua157_5, uc157_5, rfl, ul157_4, ge157_4, ul157_5, ge157_5⟩ := k25_openF hMe157
          have hv157_4 := hcc157 4 _ rfl
          rw [add_field _ _ 4 (by omega)] at hv157_4
          replace hv157_4 := Option.some.inj (hv157_4.symm.trans hx157_4)
          injection hv157_4 with hva_ hvn_ hvc_
          rw [hva_] at ge157_4
          rw [hvc_] at ul157_4
          have HL157_4 := Aside0.mk (show Kd.V Kd.string 9 _ w.heap.size _ _ ((rd_T25 (rd_L6 l0 x8_1) 0).f4) from Kd.V_mk ul157_4 ge157_4)
          clear hva_ hvn_ hvc_ ge157_4 ul157_4
          have hv157_5 := hcc157 5 _ rfl
          rw [add_field _ _ 5 (by omega)] at hv157_5
          replace hv157_5 := Option.some.inj (hv157_5.symm.trans hx157_5)
          injection hv157_5 with hva_ hvn_ hvc_
          rw [hva_] at ge157_5
          rw [hvc_] at ul157_5
          have HL157_5 := Aside0.mk (show Kd.V k25 25 _ w.heap.size _ _ ((rd_T25 (rd_L6 l0 x8_1) 0).f5) from Kd.V_mk ul157_5 ge157_5)
          clear hva_ hvn_ hvc_ ge157_5 ul157_5
          clear hcc157 hce157
          have qi157 : (0 < (rd_L6 l0 x8_1).length) = True := eq_true (by omega)
          (try rw [show ((0 : Int)).toNat = 0 from rfl] at hx157_0)
          (try rw [show 0 * 6 = 0 from rfl] at hx157_0)
          (try rw [Addr.add_zero'] at hx157_0)
          (try rw [show ((0 : Int)).toNat = 0 from rfl] at hx157_1)
          (try rw [show 0 * 6 = 0 from rfl] at hx157_1)
          (try rw [Addr.add_zero'] at hx157_1)
          (try rw [show ((0 : Int)).toNat = 0 from rfl] at hx157_2)
          (try rw [show 0 * 6 = 0 from rfl] at hx157_2)
          (try rw [Addr.add_zero'] at hx157_2)
          (try rw [show ((0 : Int)).toNat = 0 from rfl] at hx157_3)
          (try rw [show 0 * 6 = 0 from rfl] at hx157_3)
          (try rw [Addr.add_zero'] at hx157_3)
          (try rw [show ((0 : Int)).toNat = 0 from rfl] at hx157_4)
          (try rw [show 0 * 6 = 0 from rfl] at hx157_4)
          (try rw [Addr.add_zero'] at hx157_4)
          (try rw [show ((0 : Int)).toNat = 0 from rfl] at hx157_5)
          (try rw [show 0 * 6 = 0 from rfl] at hx157_5)
          (try rw [Addr.add_zero'] at hx157_5)
          have HR157_4 := Aside0.mk hi157_4
          have HC157_4 := Aside0.mk hl157_4
          clear hi157_4 hl157_4
          have HR157_5 := Aside0.mk hi157_5
          have HC157_5 := Aside0.mk hl157_5
          clear hi157_5 hl157_5
          replace p157 := eq_true p157
          replace q157 := eq_true q157
          go_wp2_with (first | ((with_reducible refine gate_callee (f := 46) rfl ?_); refine goesL_ (some 15) rfl rfl Try.func46 (by kernel_rfl) rfl #[.agg #[.int .i64 ((rd_T25 (rd_L6 l0 x8_1) 0).f0), .string ((rd_T25 (rd_L6 l0 x8_1) 0).f1), .int .i64 ((rd_T25 (rd_L6 l0 x8_1) 0).f2), .int .i64 ((rd_T25 (rd_L6 l0 x8_1) 0).f3), .slice A157_4 ((rd_T25 (rd_L6 l0 x8_1) 0).f4).length c157_4, .slice A157_5 ((rd_T25 (rd_L6 l0 x8_1) 0).f5).length c157_5]] rfl (by (try simp only [List.map_toArray, List.map_cons, List.map_nil]); first | done | rfl | (simp only [List.length_drop, List.length_take]; rfl)) ?_; (with_reducible refine (cover_loose.calls ((rd_T25 (rd_L6 l0 x8_1) 0).f0) ((rd_T25 (rd_L6 l0 x8_1) 0).f1) ((rd_T25 (rd_L6 l0 x8_1) 0).f2) ((rd_T25 (rd_L6 l0 x8_1) 0).f3) _ _ ((rd_T25 (rd_L6 l0 x8_1) 0).f4) _ _ ((rd_T25 (rd_L6 l0 x8_1) 0).f5) true _ ?side1 ?side2 ?side3 ?side4 A6.out).mono ?_); (case side1 => repeat (exact (by repeat ((with_reducible exact HR157_4.out))))); (case side2 => exact HC157_4.out); (case side3 => repeat (exact (by repeat ((with_reducible exact HR157_5.out))))); (case side4 => exact HC157_5.out); rintro e w10 ⟨rfl, hb⟩; refine ⟨_, rfl, ?_⟩; have n0_ := Aside0.mk (Kd.N_below (by (with_reducible repeat (first | apply Kd.N_alloc | apply Kd.N_drewN | apply Kd.N_drew)); exact HO_3.out) hb); have n1_ := Aside0.mk (Kd.V_below (by (with_reducible repeat (first | apply Kd.V_alloc | apply Kd.V_drewN | apply Kd.V_drew)); exact HO_6.out) hb); have n2_ := Aside0.mk (Kd.V_below (by (with_reducible repeat (first | apply Kd.V_alloc | apply Kd.V_drewN | apply Kd.V_drew)); exact HL156_0.out) hb); have n3_ := Aside0.mk (Kd.V_below (by (with_reducible repeat (first | apply Kd.V_alloc | apply Kd.V_drewN | apply Kd.V_drew)); exact HL157_4.out) hb); have n4_ := Aside0.mk (Kd.V_below (by (with_reducible repeat (first | apply Kd.V_alloc | apply Kd.V_drewN | apply Kd.V_drew)); exact HL157_5.out) hb); have n5_ := Aside0.mk (Kd.C_below (by repeat ((with_reducible exact HR156_0.out))) hb); have n6_ := Aside0.mk (Kd.C_below (by repeat ((with_reducible exact HR157_4.out))) hb); have n7_ := Aside0.mk (Kd.C_below (by repeat ((with_reducible exact HR157_5.out))) hb); have n8_ := Aside0.mk (below_step (by repeat ((with_reducible first | exact HB.out | apply below_alloc | apply pw_below_drewN | apply below_drew1))) hb); clear HO_3; clear HO_6; clear HL156_0; clear HL157_4; clear HL157_5; clear HR156_0; clear HR157_4; clear HR157_5; clear HB; have HO_3 := n0_; have HO_6 := n1_; have HL156_0 := n2_; have HL157_4 := n3_; have HL157_5 := n4_; have HR156_0 := n5_; have HR157_4 := n6_; have HR157_5 := n7_; have HB := n8_; clear n0_ n1_ n2_ n3_ n4_ n5_ n6_ n7_ n8_; (try clear hb); (try clear hb2); (try clear hk); (try clear hi); have q11 : (1 : Int) ≤ (((rd_L6 l0 x8_1).length : Int) : Int) := of_decide_eq_true (by first | (with_reducible assumption) | assumption); obtain ⟨i011, hi011, _, hsz11, _⟩ := info_parts info25; have hroom11 : (rd_L6 l0 x8_1).length ≤ c156_0 := HC156_0.out; have hC11 : Kd.F k25 _ _ (some ad157) (rd_L6 l0 x8_1).length (rd_L6 l0 x8_1) := (Kd.V_at (base := w.heap.size) HL156_0.out).2.2; have hcut11 := cut_from (P := Try.prog) 22 25 .i64 Try.underlying22 hi011 6 hsz11 (some ad157) (rd_L6 l0 x8_1).length c156_0 1 (by omega) q11; have hr11 := Kd.F_cut (m := (1 : Int).toNat) (c := c156_0) hC11 (by omega) hroom11; obtain ⟨A11, hA11⟩ : ∃ A1, A1 = (if c156_0 = (1 : Int).toNat then (some ad157) else ((some ad157) : Option Addr).map (·.add ((1 : Int).toNat * 6))) := ⟨_, rfl⟩; obtain ⟨c11, hc11⟩ : ∃ c1, c1 = c156_0 - (1 : Int).toNat := ⟨_, rfl⟩; have hy11 : y159.length = (rd_L6 l0 x8_1).length - (1 : Int).toNat := (by rw [Ny159.out, List.length_drop] <;> omega); rw [show (rd_L6 l0 x8_1).drop (1 : Int).toNat = y159 from Ny159.out.symm] at hr11; replace hr11 : Kd.F k25 _ _ A11 y159.length y159 := (by rw [hA11]; exact hr11); rw [← hy11, ← hA11, ← hc11] at hcut11; have HO163 := Aside0.mk (show Kd.V k25 25 _ w.heap.size _ (.slice A11 y159.length c11) y159 from Kd.V_mk (by rw [hy11, hc11]; exact Nat.sub_le_sub_right hroom11 _) hr11); have HC163 := Aside0.mk (show y159.length ≤ c11 from by rw [hy11, hc11]; exact Nat.sub_le_sub_right hroom11 _); clear hr11 hC11 hroom11 hi011 hsz11 hc11; have KY11 := Aside0.mk hy11; have KA11 := Aside0.mk hA11; clear hy11 hA11; replace q11 := eq_true q11) | ((with_reducible refine gate_builtin (b := .append) (xs := #[.tmp 16, .tmp 19]) rfl ?_); at_builtin; refine Kd.N_append (Kd.slice 25 k25) (w0 := w) w.heap.size rfl (.tmp 16) (.tmp 19) 53 22 (.slice none 0 0) 24 rfl Try.underlying53 info22 rfl (by decide) (by omega) u3 x3_1 y159 [.slice A11 y159.length c11] (fun k_ => (P0_ k_ ∨ w.heap.size ≤ k_)) (fun k_ => ((fun k_ => (P0_ k_ ∨ w.heap.size ≤ k_))) k_ ∧ some k_ ≠ (u3 : Value).ownBlock) rfl rfl ?aP (fun _ hk => hk) ?aF ?aO ?aB ?aS ?aL ?_; (case aP => exact (Kd.FK_slice_mk (Kd.V_reads' (Kd.V_mono (ok' := (fun k_ => ((fun k_ => (P0_ k_ ∨ w.heap.size ≤ k_))) k_ ∧ some k_ ≠ (u3 : Value).ownBlock)) (HO163.out) (fun k_ hk => ⟨hk.1, hk.2⟩))).2.1 (Kd.V_F (Kd.V_mono (ok' := (fun k_ => ((fun k_ => (P0_ k_ ∨ w.heap.size ≤ k_))) k_ ∧ some k_ ≠ (u3 : Value).ownBlock)) (HO163.out) (fun k_ hk => ⟨hk.1, hk.2⟩))))); (case aB => exact (by repeat ((with_reducible first | exact HB.out | apply below_alloc | apply pw_below_drewN | apply below_drew1)))); (case aF => exact (fun k_ hk => (.inr (Nat.le_trans (below_size (by repeat ((with_reducible first | exact HB.out | apply below_alloc | apply pw_below_drewN | apply below_drew1)))) hk)))); (case aO => exact (by (with_reducible repeat (first | apply Kd.N_alloc | apply Kd.N_drewN | apply Kd.N_drew)); exact HO_3.out)); (case aS => exact (below_size (by repeat ((with_reducible first | exact HB.out | apply below_alloc | apply pw_below_drewN | apply below_drew1))))); (case aL => have := LMc9.out; omega); intro v165 w12 ho hb hg hat; rw [← Ny164.out] at ho; have n0_ := Aside0.mk (Kd.V_afterv (ok := (fun k_ => (P0_ k_ ∨ w.heap.size ≤ k_))) (by (with_reducible repeat (first | apply Kd.V_alloc | apply Kd.V_drewN | apply Kd.V_drew)); exact HO_6.out) hg hat); have n1_ := Aside0.mk (Kd.V_afterv (ok := (fun k_ => (P0_ k_ ∨ w.heap.size ≤ k_))) (by (with_reducible repeat (first | apply Kd.V_alloc | apply Kd.V_drewN | apply Kd.V_drew)); exact HL156_0.out) hg hat); have n2_ := Aside0.mk (Kd.V_afterv (ok := (fun k_ => (P0_ k_ ∨ w.heap.size ≤ k_))) (by (with_reducible repeat (first | apply Kd.V_alloc | apply Kd.V_drewN | apply Kd.V_drew)); exact HL157_4.out) hg hat); have n3_ := Aside0.mk (Kd.V_afterv (ok := (fun k_ => (P0_ k_ ∨ w.heap.size ≤ k_))) (by (with_reducible repeat (first | apply Kd.V_alloc | apply Kd.V_drewN | apply Kd.V_drew)); exact HL157_5.out) hg hat); have n4_ := Aside0.mk (Kd.V_afterv (ok := (fun k_ => (P0_ k_ ∨ w.heap.size ≤ k_))) (by (with_reducible repeat (first | apply Kd.V_alloc | apply Kd.V_drewN | apply Kd.V_drew)); exact HO163.out) hg hat); have n5_ := Aside0.mk (hb); have n6_ := Aside0.mk (ho); clear HO_6; clear HL156_0; clear HL157_4; clear HL157_5; clear HO163; clear HB; clear HO_3; have HO_6 := n0_; have HL156_0 := n1_; have HL157_4 := n2_; have HL157_5 := n3_; have HO163 := n4_; have HB := n5_; have HO166 := n6_; clear n0_ n1_ n2_ n3_ n4_ n5_ n6_; clear ho hb hg hat))
          go_roundg k1
          case measure => have := HK1.out; omega
          case rel => exact ⟨(y164), (wrap64 (x8_1 + 1)), (by first | rfl | (simp; done) | (simp [*]; done)), H', ⟨by have := HK1.out; omega⟩, ⟨by (with_reducible repeat (first | apply Kd.N_alloc | apply Kd.N_drewN | apply Kd.N_drew)); exact HO166.out⟩, ⟨by (with_reducible repeat (first | apply Kd.V_alloc | apply Kd.V_drewN | apply Kd.V_drew)); exact HO_6.out⟩, ⟨by repeat ((with_reducible first | exact HB.out | apply below_alloc | apply pw_below_drewN | apply below_drew1))⟩⟩
         ·
          rw [if_neg c9] at H
          exact absurd H (by simp)
        ·
         rw [if_neg c8] at H
         exact absurd H (by simp)
       ·
        replace c7 := Bool.eq_false_iff.mpr c7
        subst c7
        have H1 : (cover_others.l0 k1 x3_1 l0 (l0.length : Int) (wrap64 (x8_1 + 1))) = some r := by rw [if_neg (show ¬ (false = true) by decide)] at H; exact H
        clear H
        have H := H1
        clear H1
        have H' := Aside0.mk H
        clear H
        have p156 : 0 ≤ (x8_1 : Int) := of_decide_eq_true (by first | (with_reducible assumption) | assumption)
        have q156 : x8_1 < (l0.length : Int) := of_decide_eq_true (by first | (with_reducible assumption) | assumption)
        obtain ⟨ad156, A156_0, c156_0, e156, hx156_0, hl156_0, hi156_0⟩ := at_L6 (Kd.V_reads' HO_6.out).2.2 x8_1 p156 q156
        cases e156
        obtain ⟨ce156, hce156, hMe156, hcc156⟩ := Kd.V_get HO_6.out [] x8_1 p156 (by first | exact q156 | exact of_decide_eq_true (by first | (with_reducible assumption) | assumption) | (have e_ := (Kd.V_reads' HO_6.out).1; omega))
        obtain ⟨ua156_0, uc156_0, rfl, ul156_0, ge156_0⟩ := Kd.FK_slice_open hMe156
        have hv156_0 := hcc156 0 _ rfl
        rw [Nat.add_zero, show ((Kd.slice 25 k25)).sz = 1 from rfl, Nat.mul_one] at hv156_0
        replace hv156_0 := Option.some.inj (hv156_0.symm.trans hx156_0)
        injection hv156_0 with hva_ hvn_ hvc_
        rw [hva_] at ge156_0
        rw [hvc_] at ul156_0
        have HL156_0 := Aside0.mk (show Kd.V k25 25 _ w.heap.size _ _ (rd_L6 l0 x8_1) from Kd.V_mk ul156_0 ge156_0)
        clear hva_ hvn_ hvc_ ge156_0 ul156_0
        clear hcc156 hce156
        have HR156_0 := Aside0.mk hi156_0
        have HC156_0 := Aside0.mk hl156_0
        clear hi156_0 hl156_0
        replace p156 := eq_true p156
        replace q156 := eq_true q156
        have p157 : 0 ≤ (0 : Int) := (by omega)
        have q157 : 0 < ((rd_L6 l0 x8_1).length : Int) := of_decide_eq_true (by first | (with_reducible assumption) | assumption)
        obtain ⟨ad157, A157_4, c157_4, A157_5, c157_5, e157, hx157_0, hx157_1, hx157_2, hx157_3, hx157_4, hx157_5, hl157_4, hi157_4, hl157_5, hi157_5⟩ := at_T25 (by repeat ((with_reducible exact HR156_0.out))) 0 p157 q157
        cases e157
        obtain ⟨ce157, hce157, hMe157, hcc157⟩ := Kd.V_get HL156_0.out z25 0 p157 (by first | exact q157 | exact of_decide_eq_true (by first | (with_reducible assumption) | assumption) | (have e_ := (Kd.V_reads' HL156_0.out).1; omega))
        obtain ⟨ua157_4, uc157_4, ua157_5, uc157_5, rfl, ul157_4, ge157_4, ul157_5, ge157_5⟩ := k25_openF hMe157
        have hv157_4 := hcc157 4 _ rfl
        rw [add_field _ _ 4 (by omega)] at hv157_4
        replace hv157_4 := Option.some.inj (hv157_4.symm.trans hx157_4)
        injection hv157_4 with hva_ hvn_ hvc_
        rw [hva_] at ge157_4
        rw [hvc_] at ul157_4
        have HL157_4 := Aside0.mk (show Kd.V Kd.string 9 _ w.heap.size _ _ ((rd_T25 (rd_L6 l0 x8_1) 0).f4) from Kd.V_mk ul157_4 ge157_4)
        clear hva_ hvn_ hvc_ ge157_4 ul157_4
        have hv157_5 := hcc157 5 _ rfl
        rw [add_field _ _ 5 (by omega)] at hv157_5
        replace hv157_5 := Option.some.inj (hv157_5.symm.trans hx157_5)
        injection hv157_5 with hva_ hvn_ hvc_
        rw [hva_] at ge157_5
        rw [hvc_] at ul157_5
        have HL157_5 := Aside0.mk (show Kd.V k25 25 _ w.heap.size _ _ ((rd_T25 (rd_L6 l0 x8_1) 0).f5) from Kd.V_mk ul157_5 ge157_5)
        clear hva_ hvn_ hvc_ ge157_5 ul157_5
        clear hcc157 hce157
        have qi157 : (0 < (rd_L6 l0 x8_1).length) = True := eq_true (by omega)
        (try rw [show ((0 : Int)).toNat = 0 from rfl] at hx157_0)
        (try rw [show 0 * 6 = 0 from rfl] at hx157_0)
        (try rw [Addr.add_zero'] at hx157_0)
        (try rw [show ((0 : Int)).toNat = 0 from rfl] at hx157_1)
        (try rw [show 0 * 6 = 0 from rfl] at hx157_1)
        (try rw [Addr.add_zero'] at hx157_1)
        (try rw [show ((0 : Int)).toNat = 0 from rfl] at hx157_2)
        (try rw [show 0 * 6 = 0 from rfl] at hx157_2)
        (try rw [Addr.add_zero'] at hx157_2)
        (try rw [show ((0 : Int)).toNat = 0 from rfl] at hx157_3)
        (try rw [show 0 * 6 = 0 from rfl] at hx157_3)
        (try rw [Addr.add_zero'] at hx157_3)
        (try rw [show ((0 : Int)).toNat = 0 from rfl] at hx157_4)
        (try rw [show 0 * 6 = 0 from rfl] at hx157_4)
        (try rw [Addr.add_zero'] at hx157_4)
        (try rw [show ((0 : Int)).toNat = 0 from rfl] at hx157_5)
        (try rw [show 0 * 6 = 0 from rfl] at hx157_5)
        (try rw [Addr.add_zero'] at hx157_5)
        have HR157_4 := Aside0.mk hi157_4
        have HC157_4 := Aside0.mk hl157_4
        clear hi157_4 hl157_4
        have HR157_5 := Aside0.mk hi157_5
        have HC157_5 := Aside0.mk hl157_5
        clear hi157_5 hl157_5
        replace p157 := eq_true p157
        replace q157 := eq_true q157
        go_wp2_with (first | ((with_reducible refine gate_callee (f := 46) rfl ?_); refine goesL_ (some 15) rfl rfl Try.func46 (by kernel_rfl) rfl #[.agg #[.int .i64 ((rd_T25 (rd_L6 l0 x8_1) 0).f0), .string ((rd_T25 (rd_L6 l0 x8_1) 0).f1), .int .i64 ((rd_T25 (rd_L6 l0 x8_1) 0).f2), .int .i64 ((rd_T25 (rd_L6 l0 x8_1) 0).f3), .slice A157_4 ((rd_T25 (rd_L6 l0 x8_1) 0).f4).length c157_4, .slice A157_5 ((rd_T25 (rd_L6 l0 x8_1) 0).f5).length c157_5]] rfl (by (try simp only [List.map_toArray, List.map_cons, List.map_nil]); first | done | rfl | (simp only [List.length_drop, List.length_take]; rfl)) ?_; (with_reducible refine (cover_loose.calls ((rd_T25 (rd_L6 l0 x8_1) 0).f0) ((rd_T25 (rd_L6 l0 x8_1) 0).f1) ((rd_T25 (rd_L6 l0 x8_1) 0).f2) ((rd_T25 (rd_L6 l0 x8_1) 0).f3) _ _ ((rd_T25 (rd_L6 l0 x8_1) 0).f4) _ _ ((rd_T25 (rd_L6 l0 x8_1) 0).f5) false _ ?side1 ?side2 ?side3 ?side4 A6.out).mono ?_); (case side1 => repeat (first | exact (by repeat (first | (with_reducible exact HR157_4.out) | (with_reducible refine Kd.C_alloc ?_ _) | (with_reducible refine Kd.C_drewN ?_ _) | (with_reducible refine Kd.C_drew ?_) | exact HR157_4.out)) | (with_reducible refine Kd.C_alloc ?_ _) | (with_reducible refine Kd.C_drewN ?_ _) | (with_reducible refine Kd.C_drew ?_))); (case side2 => exact HC157_4.out); (case side3 => repeat (first | exact (by repeat (first | (with_reducible exact HR157_5.out) | (with_reducible refine Kd.C_alloc ?_ _) | (with_reducible refine Kd.C_drewN ?_ _) | (with_reducible refine Kd.C_drew ?_) | exact HR157_5.out)) | (with_reducible refine Kd.C_alloc ?_ _) | (with_reducible refine Kd.C_drewN ?_ _) | (with_reducible refine Kd.C_drew ?_))); (case side4 => exact HC157_5.out); rintro e w13 ⟨rfl, hb⟩; refine ⟨_, rfl, ?_⟩; have n0_ := Aside0.mk (Kd.N_below (by (with_reducible repeat (first | apply Kd.N_alloc | apply Kd.N_drewN | apply Kd.N_drew)); exact HO_3.out) hb); have n1_ := Aside0.mk (Kd.V_below (by (with_reducible repeat (first | apply Kd.V_alloc | apply Kd.V_drewN | apply Kd.V_drew)); exact HO_6.out) hb); have n2_ := Aside0.mk (Kd.V_below (by (with_reducible repeat (first | apply Kd.V_alloc | apply Kd.V_drewN | apply Kd.V_drew)); exact HL156_0.out) hb); have n3_ := Aside0.mk (Kd.V_below (by (with_reducible repeat (first | apply Kd.V_alloc | apply Kd.V_drewN | apply Kd.V_drew)); exact HL157_4.out) hb); have n4_ := Aside0.mk (Kd.V_below (by (with_reducible repeat (first | apply Kd.V_alloc | apply Kd.V_drewN | apply Kd.V_drew)); exact HL157_5.out) hb); have n5_ := Aside0.mk (Kd.C_below (by repeat (first | (with_reducible exact HR156_0.out) | (with_reducible refine Kd.C_alloc ?_ _) | (with_reducible refine Kd.C_drewN ?_ _) | (with_reducible refine Kd.C_drew ?_) | exact HR156_0.out)) hb); have n6_ := Aside0.mk (Kd.C_below (by repeat (first | (with_reducible exact HR157_4.out) | (with_reducible refine Kd.C_alloc ?_ _) | (with_reducible refine Kd.C_drewN ?_ _) | (with_reducible refine Kd.C_drew ?_) | exact HR157_4.out)) hb); have n7_ := Aside0.mk (Kd.C_below (by repeat (first | (with_reducible exact HR157_5.out) | (with_reducible refine Kd.C_alloc ?_ _) | (with_reducible refine Kd.C_drewN ?_ _) | (with_reducible refine Kd.C_drew ?_) | exact HR157_5.out)) hb); have n8_ := Aside0.mk (below_step (by repeat (first | (with_reducible first | exact HB.out | apply below_alloc | apply pw_below_drewN | apply below_drew1) | exact HB.out)) hb); clear HO_3; clear HO_6; clear HL156_0; clear HL157_4; clear HL157_5; clear HR156_0; clear HR157_4; clear HR157_5; clear HB; have HO_3 := n0_; have HO_6 := n1_; have HL156_0 := n2_; have HL157_4 := n3_; have HL157_5 := n4_; have HR156_0 := n5_; have HR157_4 := n6_; have HR157_5 := n7_; have HB := n8_; clear n0_ n1_ n2_ n3_ n4_ n5_ n6_ n7_ n8_; (try clear hb); (try clear hb2); (try clear hk); (try clear hi)))
        go_roundg k1
        case measure => have := HK1.out; omega
        case rel => exact ⟨(x3_1), (wrap64 (x8_1 + 1)), (by first | rfl | (simp; done) | (simp [*]; done)), H', ⟨by have := HK1.out; omega⟩, ⟨by (with_reducible repeat (first | apply Kd.N_alloc | apply Kd.N_drewN | apply Kd.N_drew)); exact HO_3.out⟩, ⟨by (with_reducible repeat (first | apply Kd.V_alloc | apply Kd.V_drewN | apply Kd.V_drew)); exact HO_6.out⟩, ⟨by repeat ((with_reducible first | exact HB.out | apply below_alloc | apply pw_below_drewN | apply below_drew1))⟩⟩
      ·
       rw [if_neg c5] at H
       exact absurd H (by simp)
     ·
      rw [if_neg c4] at H
      exact absurd H (by simp)
    ·
     rw [if_neg c3] at H
     exact absurd H (by simp)
   ·
    rw [if_neg c2] at H
    have c2b0 : decide (x8_1 < (l0.length : Int)) = false := decide_eq_false c2
    clear c2
    obtain rfl := Option.some.inj H
    go_wp2
    go_ret
    exact ⟨_, by first | rfl | (simp [errW_none, errW_some] <;> rfl) | (simp [*, errW_none, errW_some] <;> rfl), by (with_reducible repeat (first | apply Kd.N_alloc | apply Kd.N_drewN | apply Kd.N_drew)); exact HO_3.out, by repeat ((with_reducible first | exact HB.out | apply below_alloc | apply pw_below_drewN | apply below_drew1))⟩
end Go.Proofs.Ytikhkcnbabpneaa.P