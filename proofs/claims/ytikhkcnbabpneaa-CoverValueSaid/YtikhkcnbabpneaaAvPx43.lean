-- Laid by this session's program wip/printx.py over the kit's print.py; functions that it does not take are walked by hand.
import Derived.Test.YtikhkcnbabpneaaAvPx0
import Derived.Test.YtikhkcnbabpneaaAvQ0
import Derived.Test.YtikhkcnbabpneaaAvH18
namespace Go.Proofs.Ytikhkcnbabpneaa.P
open Go.RowKit Go.Proofs.YtikhkcnbabpneaaW.PrintWords Go.Proofs.YtikhkcnbabpneaaW.PrintLast Go.Proofs.YtikhkcnbabpneaaW.PrintMore
attribute [local go_sem] max2_int min2_int max_two min_two max_three min_three max_four min_four   -- for this text's walks alone
set_option linter.unusedVariables false
set_option linter.unusedSimpArgs false
def selvageref09_loose.f (a0_0 : Int) (a0_1 : ByteArray) (a0_2 : Int) (a0_3 : Int) (l0_4 : List ByteArray) (l0_5 : List (S25)) : Option (Bool) := if a0_0 = 24 then (some true) else (some (a0_0 == 4))
set_option maxHeartbeats 8000000 in
set_option maxRecDepth 100000 in
theorem selvageref09_loose.calls (a0_0 : Int) (a0_1 : ByteArray) (a0_2 : Int) (a0_3 : Int) (A0_4 : Option Addr) (c0_4 : Nat) (l0_4 : List ByteArray) (A0_5 : Option Addr) (c0_5 : Nat) (l0_5 : List (S25)) (r : Bool) (w : World) (hr0_4 : Kd.C Kd.string w A0_4 l0_4.length l0_4) (hc0_4 : l0_4.length ≤ c0_4) (hr0_5 : Kd.C k25 w A0_5 l0_5.length l0_5) (hc0_5 : l0_5.length ≤ c0_5) (h : selvageref09_loose.f a0_0 a0_1 a0_2 a0_3 l0_4 l0_5 = some r) :
 Calls Try.prog 60 #[.agg #[.int .i64 a0_0, .string a0_1, .int .i64 a0_2, .int .i64 a0_3, .slice A0_4 l0_4.length c0_4, .slice A0_5 l0_5.length c0_5]] w fun e w' => e = .returned (.bool r) ∧ Below w.heap.size w w' := by
 have hu25 := Try.underlying25
 have HR0_4 := Aside0.mk hr0_4
 have HC0_4 := Aside0.mk hc0_4
 clear hr0_4 hc0_4
 have HR0_5 := Aside0.mk hr0_5
 have HC0_5 := Aside0.mk hc0_5
 clear hr0_5 hc0_5
 have HB := Aside0.mk (Below.refl w.heap.size w)
 have H : (if a0_0 = 24 then (some true) else (some (a0_0 == 4))) = some r := h
 clear h
 by_cases c2 : a0_0 = 24
 ·
  rw [if_pos c2] at H
  have c2b0 : (a0_0 == 24) = true := beq_iff_eq.mpr c2
  have c2b1 : (a0_0 != 24) = false := bne_eq_false_iff_eq.mpr c2
  clear c2
  obtain rfl := Option.some.inj H
  go_enter Try.func60, Try.ntmps60
  go_wp2_with (first | ((with_reducible refine gate_dst (N := 1) rfl ?_); refine box_event ?hg (N := 1) ?hd (cs := #[.int .i64 a0_0, .string a0_1, .int .i64 a0_2, .int .i64 a0_3, .slice A0_4 l0_4.length c0_4, .slice A0_5 l0_5.length c0_5]) (t := 25) ?hr ?_; (case hd => rfl); (case hg => rfl); (case hr => first | (go_simp; done) | (go_simp; rfl)); intro gb274 hg w3 hbox hb; have n0_ := Aside0.mk (below_step (by repeat (first | (with_reducible first | exact HB.out | apply below_alloc | apply pw_below_drewN | apply below_drew1) | exact HB.out)) hb); have n1_ := Aside0.mk (hbox); have n2_ := Aside0.mk ((by rw [hg]; exact (below_size (by repeat (first | (with_reducible first | exact HB.out | apply below_alloc | apply pw_below_drewN | apply below_drew1) | exact HB.out))) : w.heap.size ≤ gb274)); have n3_ := Aside0.mk ((by rw [hg]; exact (below_size (by repeat (first | (with_reducible first | exact HB.out | apply below_alloc | apply pw_below_drewN | apply below_drew1) | exact HB.out))) : w.heap.size ≤ gb274)); clear HB; have HB := n0_; have BK274 := n1_; have GW274 := n2_; have GE274 := n3_; clear n0_ n1_ n2_ n3_; clear hb hbox hg; have hcz4_0 : w3.cell? ⟨gb274, 0, none⟩ = some (.int .i64 a0_0) := (blk_cell BK274.out 0).trans rfl; have hcz4_1 : w3.cell? ⟨gb274, 1, none⟩ = some (.string a0_1) := (blk_cell BK274.out 1).trans rfl; have hcz4_2 : w3.cell? ⟨gb274, 2, none⟩ = some (.int .i64 a0_2) := (blk_cell BK274.out 2).trans rfl; have hcz4_3 : w3.cell? ⟨gb274, 3, none⟩ = some (.int .i64 a0_3) := (blk_cell BK274.out 3).trans rfl; have hcz4_4 : w3.cell? ⟨gb274, 4, none⟩ = some (.slice A0_4 l0_4.length c0_4) := (blk_cell BK274.out 4).trans rfl; have hcz4_5 : w3.cell? ⟨gb274, 5, none⟩ = some (.slice A0_5 l0_5.length c0_5) := (blk_cell BK274.out 5).trans rfl; have hfz4_0 := blk_frozen BK274.out 0; have hfz4_1 := blk_frozen BK274.out 1; have hfz4_2 := blk_frozen BK274.out 2; have hfz4_3 := blk_frozen BK274.out 3; have hfz4_4 := blk_frozen BK274.out 4; have hfz4_5 := blk_frozen BK274.out 5))
  go_ret
  exact ⟨by first | rfl | (simp [errW_none, errW_some] <;> rfl) | (simp [*, errW_none, errW_some] <;> rfl), by repeat (first | (with_reducible first | exact HB.out | apply below_alloc | apply pw_below_drewN | apply below_drew1 | refine below_set ?_ GE274.out) | exact HB.out)⟩
 ·
  rw [if_neg c2] at H
  have c2b0 : (a0_0 == 24) = false := beq_eq_false_iff_ne.mpr c2
  have c2b1 : (a0_0 != 24) = true := bne_iff_ne.mpr c2
  obtain rfl := Option.some.inj H
  go_enter Try.func60, Try.ntmps60
  go_wp2_with (first | ((with_reducible refine gate_dst (N := 1) rfl ?_); refine box_event ?hg (N := 1) ?hd (cs := #[.int .i64 a0_0, .string a0_1, .int .i64 a0_2, .int .i64 a0_3, .slice A0_4 l0_4.length c0_4, .slice A0_5 l0_5.length c0_5]) (t := 25) ?hr ?_; (case hd => rfl); (case hg => rfl); (case hr => first | (go_simp; done) | (go_simp; rfl)); intro gb274 hg w5 hbox hb; have n0_ := Aside0.mk (below_step (by repeat (first | (with_reducible first | exact HB.out | apply below_alloc | apply pw_below_drewN | apply below_drew1) | exact HB.out)) hb); have n1_ := Aside0.mk (hbox); have n2_ := Aside0.mk ((by rw [hg]; exact (below_size (by repeat (first | (with_reducible first | exact HB.out | apply below_alloc | apply pw_below_drewN | apply below_drew1) | exact HB.out))) : w.heap.size ≤ gb274)); have n3_ := Aside0.mk ((by rw [hg]; exact (below_size (by repeat (first | (with_reducible first | exact HB.out | apply below_alloc | apply pw_below_drewN | apply below_drew1) | exact HB.out))) : w.heap.size ≤ gb274)); clear HB; have HB := n0_; have BK274 := n1_; have GW274 := n2_; have GE274 := n3_; clear n0_ n1_ n2_ n3_; clear hb hbox hg; have hcz6_0 : w5.cell? ⟨gb274, 0, none⟩ = some (.int .i64 a0_0) := (blk_cell BK274.out 0).trans rfl; have hcz6_1 : w5.cell? ⟨gb274, 1, none⟩ = some (.string a0_1) := (blk_cell BK274.out 1).trans rfl; have hcz6_2 : w5.cell? ⟨gb274, 2, none⟩ = some (.int .i64 a0_2) := (blk_cell BK274.out 2).trans rfl; have hcz6_3 : w5.cell? ⟨gb274, 3, none⟩ = some (.int .i64 a0_3) := (blk_cell BK274.out 3).trans rfl; have hcz6_4 : w5.cell? ⟨gb274, 4, none⟩ = some (.slice A0_4 l0_4.length c0_4) := (blk_cell BK274.out 4).trans rfl; have hcz6_5 : w5.cell? ⟨gb274, 5, none⟩ = some (.slice A0_5 l0_5.length c0_5) := (blk_cell BK274.out 5).trans rfl; have hfz6_0 := blk_frozen BK274.out 0; have hfz6_1 := blk_frozen BK274.out 1; have hfz6_2 := blk_frozen BK274.out 2; have hfz6_3 := blk_frozen BK274.out 3; have hfz6_4 := blk_frozen BK274.out 4; have hfz6_5 := blk_frozen BK274.out 5))
  go_ret
  exact ⟨by first | rfl | (simp [errW_none, errW_some] <;> rfl) | (simp [*, errW_none, errW_some] <;> rfl), by repeat (first | (with_reducible first | exact HB.out | apply below_alloc | apply pw_below_drewN | apply below_drew1 | refine below_set ?_ GE274.out) | exact HB.out)⟩
end Go.Proofs.Ytikhkcnbabpneaa.P
-- Laid by this session's program wip/printx.py over the kit's print.py; functions that it does not take are walked by hand.
namespace Go.Proofs.Ytikhkcnbabpneaa.P
open Go.RowKit Go.Proofs.YtikhkcnbabpneaaW.PrintWords Go.Proofs.YtikhkcnbabpneaaW.PrintLast Go.Proofs.YtikhkcnbabpneaaW.PrintMore
attribute [local go_sem] max2_int min2_int max_two min_two max_three min_three max_four min_four   -- for this text's walks alone
set_option linter.unusedVariables false
set_option linter.unusedSimpArgs false
def selvageref09_Find.l0 : Nat → List (S61) → ByteArray → Int → Option (Int)
 | 0, _, _, _ => none
 | k + 1, x0, x1, x5 => if x5 < (x0.length : Int) then (if 0 ≤ x5 then (if ((rd_T61 x0 x5).f0).toList = x1.toList then (some x5) else (selvageref09_Find.l0 k x0 x1 (wrap64 (x5 + 1)))) else (none)) else (some (-1))
def selvageref09_Find.f (k : Nat) (l0 : List (S61)) (a1 : ByteArray) : Option (Int) := selvageref09_Find.l0 k l0 a1 0
theorem selvageref09_Find.mono_l : ∀ k, (∀ y0 y1 y2, LeO (selvageref09_Find.l0 k y0 y1 y2) (selvageref09_Find.l0 (k + 1) y0 y1 y2))
 | 0 => fun _ _ _ r h => by simp [selvageref09_Find.l0] at h
 | k + 1 => by
  have ih0 := selvageref09_Find.mono_l k
  ·
   intro y0 y1 y2
   unfold selvageref09_Find.l0
   repeat' first
   | (with_reducible exact ih0 _ _ _)
   | (with_reducible exact LeO.refl _)
   | (with_reducible exact LeO.none _)
   | (with_reducible refine LeO.ite ?_ ?_)
   | (with_reducible refine LeO.bind ?_ (fun _ => ?_))
   | exact ih0 _ _ _
   | exact LeO.none _
   | refine LeO.ite ?_ ?_
   | refine LeO.bind ?_ (fun _ => ?_)
theorem selvageref09_Find.mono : ∀ a0 a1 k, LeO (selvageref09_Find.f k a0 a1) (selvageref09_Find.f (k + 1) a0 a1) := by
 intro a0 a1 k
 have ih0 := selvageref09_Find.mono_l k
 unfold selvageref09_Find.f
 repeat' first
  | (with_reducible exact ih0 _ _ _)
  | (with_reducible exact LeO.refl _)
  | (with_reducible exact LeO.none _)
  | (with_reducible refine LeO.ite ?_ ?_)
  | (with_reducible refine LeO.bind ?_ (fun _ => ?_))
  | exact ih0 _ _ _
  | exact LeO.none _
  | refine LeO.ite ?_ ?_
  | refine LeO.bind ?_ (fun _ => ?_)
set_option maxHeartbeats 8000000 in
set_option maxRecDepth 100000 in
theorem selvageref09_Find.calls (k : Nat) (A0 : Option Addr) (c0 : Nat) (l0 : List (S61)) (a1 : ByteArray) (r : Int) (w : World) (hr0 : Kd.C k61 w A0 l0.length l0) (hc0 : l0.length ≤ c0) (h : selvageref09_Find.f k l0 a1 = some r) :
 Calls Try.prog 32 #[.slice A0 l0.length c0, .string a1] w fun e w' => e = .returned (.int .i64 r) ∧ Drawn0 w w' := by
 have HR0 := Aside0.mk hr0
 have HC0 := Aside0.mk hc0
 clear hr0 hc0
 have H : (selvageref09_Find.l0 k l0 a1 0) = some r := h
 clear h
 have H' := Aside0.mk H
 clear H
 go_enter Try.func32, Try.ntmps32
 go_wp2
 go_loopg [5] k (fun kq v5 w' => ∃ (x5_1 : Int), v5 = .int .i64 x5_1 ∧ Aside0 (selvageref09_Find.l0 kq l0 a1 x5_1 = some r) ∧ Aside0 (kq ≤ k) ∧ Drawn0 w w')
 case atStart => exact ⟨(0), (by first | rfl | (simp; done) | (simp [*]; done)), H', ⟨Nat.le_refl _⟩, by repeat (first | exact Drawn0.refl _ | apply Drawn0.step)⟩
 case round =>
  clear H'
  try clear p2
  obtain ⟨x5_1, rfl, HA, HK1, ⟨m1, rfl⟩⟩ := hrel
  cases gk with
  | zero => exact absurd HA.out (by simp [selvageref09_Find.l0])
  | succ k1 =>
   have H := HA.out
   clear HA
   simp only [selvageref09_Find.l0] at H
   by_cases c3 : x5_1 < (l0.length : Int)
   ·
    rw [if_pos c3] at H
    have c3b0 : decide (x5_1 < (l0.length : Int)) = true := decide_eq_true c3
    clear c3
    by_cases c4 : 0 ≤ x5_1
    ·
     rw [if_pos c4] at H
     have c4b0 : decide (0 ≤ x5_1) = true := decide_eq_true c4
     clear c4
     by_cases c5 : ((rd_T61 l0 x5_1).f0).toList = a1.toList
     ·
      rw [if_pos c5] at H
      have c5b0 : (((rd_T61 l0 x5_1).f0).toList == a1.toList) = true := beq_iff_eq.mpr c5
      have c5b1 : (((rd_T61 l0 x5_1).f0).toList != a1.toList) = false := bne_eq_false_iff_eq.mpr c5
      clear c5
      obtain rfl := Option.some.inj H
      have p261 : 0 ≤ (x5_1 : Int) := of_decide_eq_true (by first | (with_reducible assumption) | assumption)
      have q261 : x5_1 < (l0.length : Int) := of_decide_eq_true (by first | (with_reducible assumption) | assumption)
      obtain ⟨ad261, e261, hx261_0, hx261_1, hx261_2, hx261_3, hx261_4⟩ := at_T61 HR0.out x5_1 p261 q261
      cases e261
      replace p261 := eq_true p261
      replace q261 := eq_true q261
      go_wp2
      go_ret
      exact ⟨by first | rfl | (simp; done) | (simp [*]; done), by repeat (first | exact Drawn0.refl _ | apply Drawn0.step)⟩
     ·
      rw [if_neg c5] at H
      have c5b0 : (((rd_T61 l0 x5_1).f0).toList == a1.toList) = false := beq_eq_false_iff_ne.mpr c5
      have c5b1 : (((rd_T61 l0 x5_1).f0).toList != a1.toList) = true := bne_iff_ne.mpr c5
      have H' := Aside0.mk H
      clear H
      have p261 : 0 ≤ (x5_1 : Int) := of_decide_eq_true (by first | (with_reducible assumption) | assumption)
      have q261 : x5_1 < (l0.length : Int) := of_decide_eq_true (by first | (with_reducible assumption) | assumption)
      obtain ⟨ad261, e261, hx261_0, hx261_1, hx261_2, hx261_3, hx261_4⟩ := at_T61 HR0.out x5_1 p261 q261
      cases e261
      replace p261 := eq_true p261
      replace q261 := eq_true q261
      go_wp2
      go_roundg k1
      case measure => have := HK1.out; omega
      case rel => exact ⟨(wrap64 (x5_1 + 1)), (by first | rfl | (simp; done) | (simp [*]; done)), H', ⟨by have := HK1.out; omega⟩, by repeat (first | exact Drawn0.refl _ | apply Drawn0.step)⟩
    ·
     rw [if_neg c4] at H
     exact absurd H (by simp)
   ·
    rw [if_neg c3] at H
    have c3b0 : decide (x5_1 < (l0.length : Int)) = false := decide_eq_false c3
    clear c3
    obtain rfl := Option.some.inj H
    go_wp2
    go_ret
    exact ⟨by first | rfl | (simp; done) | (simp [*]; done), by repeat (first | exact Drawn0.refl _ | apply Drawn0.step)⟩
end Go.Proofs.Ytikhkcnbabpneaa.P
/- the reference: Means, First -/
namespace Go.Proofs.Ytikhkcnbabpneaa.P
open Go.RowKit Go.Proofs.YtikhkcnbabpneaaW.PrintWords Go.Proofs.YtikhkcnbabpneaaW.PrintLast Go.Proofs.YtikhkcnbabpneaaW.PrintMore
set_option linter.unusedVariables false
set_option linter.unusedSimpArgs false
mutual
def meansB : S25 → S40 → Bool
 | ⟨f0, f1, f2, _, _, l⟩, v => if f0 == 24 || f0 == 4 then true else if f0 = 1 then v.f0.toList == [] && v.f1 == f2 else v.f0.toList == f1.toList && v.f2.length == l.length && meansAll l v.f2
def meansAll : List S25 → List S40 → Bool
 | [], _ => true
 | _ :: _, [] => false
 | p :: t, v :: vs => meansB p v && meansAll t vs
end
theorem meansB_eq (p : S25) (v : S40) : meansB p v = if looseB p then true else if p.f0 = 1 then v.f0.toList == [] && v.f1 == p.f2 else v.f0.toList == p.f1.toList && v.f2.length == p.f5.length && meansAll p.f5 v.f2 := by
 cases p; simp only [meansB, looseB]
theorem meansAll_cons (p : S25) (t : List S25) (v : S40) (vs : List S40) : meansAll (p :: t) (v :: vs) = (meansB p v && meansAll t vs) := by simp only [meansAll]
theorem rloose_calls (x : S25) (cs : List Value) (w : World) (hK : k25.K w x cs) : Calls Try.prog 60 #[.agg cs.toArray] w fun e w' => e = .returned (.bool (looseB x)) ∧ Below w.heap.size w w' := by
 obtain ⟨A4, c4, A5, c5, rfl, l4, g4, l5, g5⟩ := k25_open hK
 refine selvageref09_loose.calls x.f0 x.f1 x.f2 x.f3 A4 c4 x.f4 A5 c5 x.f5 _ w g4 l4 g5 l5 ?_
 unfold selvageref09_loose.f looseB
 by_cases h : x.f0 = 24 <;> simp [h]
set_option maxHeartbeats 8000000 in
set_option maxRecDepth 100000 in
theorem rmeans_calls : ∀ p : S25, nodes p ≤ 100000 → ∀ (v : S40) (pcs vcs : List Value) (W : World), k25.K W p pcs → k40.K W v vcs →
 Calls Try.prog 34 #[.agg pcs.toArray, .agg vcs.toArray] W fun e w' => e = .returned (.bool (meansB p v)) ∧ Below W.heap.size W w' := by
 refine node_ind fun p ih hnp v pcs vcs W hK hV => ?_
 have hlen : p.f5.length ≤ 100000 := by have := length_nodes p.f5; rw [nodes_eq] at hnp; omega
 have HIH := Aside0.mk ih
 have HNP := Aside0.mk hnp
 have hM := meansB_eq p v
 obtain ⟨A4, c4, A5, c5, rfl, l4, g4, l5, g5⟩ := k25_open hK
 obtain ⟨B2, d2, rfl, m2, h2⟩ := k40_open hV
 have hw2 := below_2 W (.cells #[.int .i64 p.f0, .string p.f1, .int .i64 p.f2, .int .i64 p.f3, .slice A4 p.f4.length c4, .slice A5 p.f5.length c5] 25) (.cells #[.string v.f0, .int .i64 v.f1, .slice B2 v.f2.length d2] 40)
 have hlo := rloose_calls p _ _ (k25.K_below hw2 hK)
 have hb0 := blk_below (blk_new W (.cells #[.int .i64 p.f0, .string p.f1, .int .i64 p.f2, .int .i64 p.f3, .slice A4 p.f4.length c4, .slice A5 p.f5.length c5] 25)) (below_1 _ (.cells #[.string v.f0, .int .i64 v.f1, .slice B2 v.f2.length d2] 40))
 have hb1 := blk_new (W.alloc (.cells #[.int .i64 p.f0, .string p.f1, .int .i64 p.f2, .int .i64 p.f3, .slice A4 p.f4.length c4, .slice A5 p.f5.length c5] 25)) (.cells #[.string v.f0, .int .i64 v.f1, .slice B2 v.f2.length d2] 40)
 rw [World.size_alloc] at hb1
 have HK5 := Aside0.mk (Kd.C_below g5 hw2)
 have HV2 := Aside0.mk (Kd.C_below h2 hw2)
 have HM := Aside0.mk hM
 have HW2 := Aside0.mk hw2
 clear hK hV l4 g4 g5 h2 hw2 ih hM hnp
 generalize hn4 : p.f4.length = n4 at hlo hb0 hb1 HK5 HV2 HW2 ⊢
 generalize hn5 : p.f5.length = n5 at hlo hb0 hb1 HK5 HV2 HW2 HM hlen l5 ⊢
 generalize hm2 : v.f2.length = q2 at hlo hb0 hb1 HK5 HV2 HW2 HM m2 ⊢
 have HN5 := Aside0.mk hn5
 have HM2 := Aside0.mk hm2
 clear hn4 hn5 hm2
 go_enter Try.func34, Try.ntmps34
 go_wp2_with fail
 refine hlo.mono ?_; rintro e w3 ⟨rfl, hb⟩
 clear hlo
 replace hb0 := blk_below hb0 hb
 replace hb1 := blk_below hb1 hb
 replace HK5 := Aside0.mk (Kd.C_below HK5.out hb)
 replace HV2 := Aside0.mk (Kd.C_below HV2.out hb)
 have HB3 := Aside0.mk (HW2.out.trans (hb.mono HW2.out.size))
 have k0 := blk_cell hb0 0
 have k1 := blk_cell hb0 1
 have k2 := blk_cell hb0 2
 have k5 := blk_cell hb0 5
 have u0 := blk_cell hb1 0
 have u1 := blk_cell hb1 1
 have u2 := blk_cell hb1 2
 have HB0 := Aside0.mk hb0
 have HB1 := Aside0.mk hb1
 clear hb hb0 hb1 HW2
 cases hl : looseB p with
 | true =>
  go_wp2
  go_ret
  exact ⟨by rw [HM.out, hl]; rfl, HB3.out⟩
 | false =>
  by_cases h1 : p.f0 = 1
  ·
   have h1b : (p.f0 == 1) = true := by simpa using h1
   cases e1 : (v.f0.toList == ([] : List UInt8)) with
   | false =>
    go_wp2
    go_ret
    exact ⟨by rw [HM.out, hl, if_neg (by decide), if_pos h1, e1]; rfl, HB3.out⟩
   | true =>
    go_wp2
    go_ret
    exact ⟨by rw [HM.out, hl, if_neg (by decide), if_pos h1, e1, Bool.true_and]; rfl, HB3.out⟩
  ·
   have h1b : (p.f0 == 1) = false := by simpa using h1
   cases e1 : (v.f0.toList == p.f1.toList) with
   | false =>
    go_wp2
    go_ret
    exact ⟨by rw [HM.out, hl, if_neg (by decide), if_neg h1, e1]; rfl, HB3.out⟩
   | true =>
    by_cases h2 : q2 = n5
    ·
     subst h2
     have h2b : ((q2 : Int) == (q2 : Int)) = true := by simp
     have HM2' := Aside0.mk (show meansB p v = meansAll p.f5 v.f2 by rw [HM.out, hl, if_neg (by decide), if_neg h1, e1]; simp)
     clear HM
     go_wp2_with fail
     clear u0 u1 u2 k0 k1 k2 k5
     go_loopg [5] q2 (fun gg s5 wr => ∃ i : Nat, i ≤ q2 ∧ q2 - i ≤ gg ∧ s5 = .int .i64 i ∧ Aside0 (Below w3.heap.size w3 wr) ∧ Aside0 (meansB p v = meansAll (p.f5.drop i) (v.f2.drop i)))
     case atStart => exact ⟨0, Nat.zero_le _, by omega, rfl, ⟨Below.refl _ _⟩, HM2'⟩
     case round =>
      obtain ⟨i, hi, hg, rfl, BW, AA⟩ := hrel
      have k5 := blk_cell (blk_below HB0.out BW.out) 5
      have u2 := blk_cell (blk_below HB1.out BW.out) 2
      by_cases hlt : i < q2
      ·
       have hltz : (i : Int) < (q2 : Int) := by omega
       have hiz : (0 : Int) ≤ (i : Int) := by omega
       have hi5 : i < p.f5.length := by rw [HN5.out]; exact hlt
       have hi2 : i < v.f2.length := by rw [HM2.out]; exact hlt
       obtain ⟨ad, cs, e', hcl, hKq, hcz, hcj⟩ := elem_at (Kd.C_below HK5.out BW.out) i hi5
       obtain ⟨bd, ds, e2, hdl, hKy, hdz, hdj⟩ := elem_at (Kd.C_below HV2.out BW.out) i hi2
       subst e' e2
       have hih := HIH.out p.f5[i] (List.getElem_mem _) (by have h3 := nodes_mem (List.getElem_mem hi5); have h4 := HNP.out; rw [nodes_eq] at h4; omega) v.f2[i] _ _ wr.drew (k25.K_below (below_drew (Below.refl _ _)) hKq) (k40.K_below (below_drew (Below.refl _ _)) hKy)
       have hda := AA.out
       rw [List.drop_eq_getElem_cons hi5, List.drop_eq_getElem_cons hi2, meansAll_cons] at hda
       generalize meansB p.f5[i] v.f2[i] = bb at hih hda
       have HDA := Aside0.mk hda
       obtain ⟨C4, x4, C5, x5, rfl, -, -, -, -⟩ := k25_open hKq
       obtain ⟨D2, z2, rfl, -, -⟩ := k40_open hKy
       simp only [show k25.sz = 6 from rfl, show k40.sz = 3 from rfl] at hcz hcj hdz hdj
       have y0 := hcz _ rfl
       have y1 := hcj 1 _ (by decide) rfl
       have y2 := hcj 2 _ (by decide) rfl
       have y3 := hcj 3 _ (by decide) rfl
       have y4 := hcj 4 _ (by decide) rfl
       have y5 := hcj 5 _ (by decide) rfl
       have z0 := hdz _ rfl
       have z1 := hdj 1 _ (by decide) rfl
       have z3 := hdj 2 _ (by decide) rfl
       clear hcl hKq hcz hcj hdl hKy hdz hdj AA hda
       generalize p.f5[i] = q at hih y0 y1 y2 y3 y4 y5
       generalize v.f2[i] = y at hih z0 z1 z3
       generalize q.f4.length = m4 at hih y4
       generalize q.f5.length = m5 at hih y5
       generalize y.f2.length = m6 at hih z3
       go_wp2_with fail
       go_region_held3 (fun w' => w'.cell? ⟨W.heap.size, 5, none⟩ = some (.slice (some ad) q2 c5) ∧ w'.cell? ⟨W.heap.size + 1, 2, none⟩ = some (.slice (some bd) q2 d2) ∧ w'.cell? (ad.add (i * 6)) = some (.int .i64 q.f0) ∧ w'.cell? ⟨(ad.add (i * 6)).block, (ad.add (i * 6)).off + 1, none⟩ = some (.string q.f1) ∧ w'.cell? ⟨(ad.add (i * 6)).block, (ad.add (i * 6)).off + 2, none⟩ = some (.int .i64 q.f2) ∧ w'.cell? ⟨(ad.add (i * 6)).block, (ad.add (i * 6)).off + 3, none⟩ = some (.int .i64 q.f3) ∧ w'.cell? ⟨(ad.add (i * 6)).block, (ad.add (i * 6)).off + 4, none⟩ = some (.slice C4 m4 x4) ∧ w'.cell? ⟨(ad.add (i * 6)).block, (ad.add (i * 6)).off + 5, none⟩ = some (.slice C5 m5 x5) ∧ w'.cell? (bd.add (i * 3)) = some (.string y.f0) ∧ w'.cell? ⟨(bd.add (i * 3)).block, (bd.add (i * 3)).off + 1, none⟩ = some (.int .i64 y.f1) ∧ w'.cell? ⟨(bd.add (i * 3)).block, (bd.add (i * 3)).off + 2, none⟩ = some (.slice D2 m6 z2))
        (first | exact ⟨k5, u2, y0, y1, y2, y3, y4, y5, z0, z1, z3⟩ | exact ⟨drew_cell hB4 k5, drew_cell hB4 u2, drew_cell hB4 y0, drew_cell hB4 y1, drew_cell hB4 y2, drew_cell hB4 y3, drew_cell hB4 y4, drew_cell hB4 y5, drew_cell hB4 z0, drew_cell hB4 z1, drew_cell hB4 z3⟩)
        ((refine goes_ Try.func34 (by kernel_rfl) rfl #[.agg #[.int .i64 q.f0, .string q.f1, .int .i64 q.f2, .int .i64 q.f3, .slice C4 m4 x4, .slice C5 m5 x5], .agg #[.string y.f0, .int .i64 y.f1, .slice D2 m6 z2]] (by rfl) rfl rfl (by simp [Act.eval, Act.put]) ?_; (with_reducible refine hih.mono ?_); rintro e w4 ⟨rfl, hB4⟩; refine ⟨_, rfl, ?_⟩))
       have HB4 := Aside0.mk (drew_B BW.out hB4)
       clear hB4 hih k5 u2 y0 y1 y2 y3 y4 y5 z0 z1 z3
       cases bb with
       | false =>
        go_wp2
        go_ret
        exact ⟨by rw [HDA.out]; rfl, HB3.out.trans (HB4.out.mono HB3.out.size)⟩
       | true =>
        go_wp2
        go_roundg (q2 - (i + 1))
        case measure => omega
        case rel => exact ⟨i + 1, by omega, by omega, by go_num, HB4, ⟨by rw [HDA.out, Bool.true_and]⟩⟩
      ·
       have hltz : ¬ (i : Int) < (q2 : Int) := by omega
       have HE := Aside0.mk (show meansB p v = true by
        have := AA.out
        rw [List.drop_of_length_le (by rw [HN5.out]; omega)] at this
        rw [this]; rfl)
       go_wp2
       go_ret
       exact ⟨by rw [HE.out]; rfl, HB3.out.trans (BW.out.mono HB3.out.size)⟩
    ·
     have h2b : ((q2 : Int) == (n5 : Int)) = false := by simp; omega
     have h2c : (q2 == n5) = false := by simpa using h2
     go_wp2
     go_ret
     exact ⟨by rw [HM.out, hl, if_neg (by decide), if_neg h1, e1, h2c]; rfl, HB3.out⟩
set_option maxHeartbeats 8000000 in
set_option maxRecDepth 100000 in
theorem rfirst_calls (A : Option Addr) (c : Nat) (l : List S25) (v : S40) (vcs : List Value) (W : World) (hr : Kd.C k25 W A l.length l) (hc : l.length ≤ c) (hn : ∀ p ∈ l, nodes p ≤ 100000) (hV : k40.K W v vcs) :
 Calls Try.prog 15 #[.slice A l.length c, .agg vcs.toArray] W fun e w' => ∃ n : Int, e = .returned (.int .i64 n) ∧ (n < 0 ↔ l.any (fun p => meansB p v) = false) ∧ Below W.heap.size W w' := by
 have hmax : l.length ≤ 9223372036854775807 := hr.2.1
 have HV0 := Aside0.mk hV
 obtain ⟨B2, d2, rfl, m2, h2⟩ := k40_open hV
 have HNO := Aside0.mk hn
 have HR := Aside0.mk hr
 have hw1 := below_1 W (.cells #[.string v.f0, .int .i64 v.f1, .slice B2 v.f2.length d2] 40)
 have hbk := blk_new W (.cells #[.string v.f0, .int .i64 v.f1, .slice B2 v.f2.length d2] 40)
 generalize v.f2.length = q2 at HV0 hw1 hbk ⊢
 have HW1 := Aside0.mk hw1
 have HBK := Aside0.mk hbk
 clear hV hr hn h2 hw1 hbk m2
 go_enter Try.func15, Try.ntmps15
 go_wp2_with fail
 generalize W.alloc (.cells #[.string v.f0, .int .i64 v.f1, .slice B2 q2 d2] 40) = W1 at HW1 HBK ⊢
 go_loopg [5] l.length (fun gg s5 wr => ∃ i : Nat, i ≤ l.length ∧ l.length - i ≤ gg ∧ s5 = .int .i64 i ∧ Aside0 (Below W1.heap.size W1 wr) ∧ Aside0 (l.any (fun p => meansB p v) = (l.drop i).any (fun p => meansB p v)))
 case atStart => exact ⟨0, Nat.zero_le _, by omega, rfl, ⟨Below.refl _ _⟩, ⟨rfl⟩⟩
 case round =>
  obtain ⟨i, hi, hg, rfl, BW, AA⟩ := hrel
  by_cases hlt : i < l.length
  ·
   have hltz : (i : Int) < (l.length : Int) := by omega
   have hiz : (0 : Int) ≤ (i : Int) := by omega
   have HBW := Aside0.mk (HW1.out.trans (BW.out.mono HW1.out.size))
   obtain ⟨ad, cs, e', hcl, hKq, hcz, hcj⟩ := elem_at (Kd.C_below HR.out HBW.out) i hlt
   subst e'
   have hih := rmeans_calls l[i] (HNO.out _ (List.getElem_mem _)) v _ _ wr.drew (k25.K_below (below_drew (Below.refl _ _)) hKq) (k40.K_below (below_drew (Below.refl _ _)) (k40.K_below HBW.out HV0.out))
   have hda := AA.out
   rw [List.drop_eq_getElem_cons hlt, List.any_cons] at hda
   generalize meansB l[i] v = bb at hih hda
   have HDA := Aside0.mk hda
   obtain ⟨C4, x4, C5, x5, rfl, -, -, -, -⟩ := k25_open hKq
   simp only [show k25.sz = 6 from rfl] at hcz hcj
   have y0 := hcz _ rfl
   have y1 := hcj 1 _ (by decide) rfl
   have y2 := hcj 2 _ (by decide) rfl
   have y3 := hcj 3 _ (by decide) rfl
   have y4 := hcj 4 _ (by decide) rfl
   have y5 := hcj 5 _ (by decide) rfl
   have hbr := blk_below HBK.out BW.out
   have z0 := blk_cell hbr 0
   have z1 := blk_cell hbr 1
   have z2 := blk_cell hbr 2
   clear hcl hKq hcz hcj AA hda hbr
   generalize l[i] = q at hih y0 y1 y2 y3 y4 y5
   generalize q.f4.length = m4 at hih y4
   generalize q.f5.length = m5 at hih y5
   go_wp2_with fail
   go_region_held3 (fun w' => w'.cell? ⟨W.heap.size, 0, none⟩ = some (.string v.f0) ∧ w'.cell? ⟨W.heap.size, 1, none⟩ = some (.int .i64 v.f1) ∧ w'.cell? ⟨W.heap.size, 2, none⟩ = some (.slice B2 q2 d2) ∧ w'.cell? (ad.add (i * 6)) = some (.int .i64 q.f0) ∧ w'.cell? ⟨(ad.add (i * 6)).block, (ad.add (i * 6)).off + 1, none⟩ = some (.string q.f1) ∧ w'.cell? ⟨(ad.add (i * 6)).block, (ad.add (i * 6)).off + 2, none⟩ = some (.int .i64 q.f2) ∧ w'.cell? ⟨(ad.add (i * 6)).block, (ad.add (i * 6)).off + 3, none⟩ = some (.int .i64 q.f3) ∧ w'.cell? ⟨(ad.add (i * 6)).block, (ad.add (i * 6)).off + 4, none⟩ = some (.slice C4 m4 x4) ∧ w'.cell? ⟨(ad.add (i * 6)).block, (ad.add (i * 6)).off + 5, none⟩ = some (.slice C5 m5 x5))
    (first | exact ⟨z0, z1, z2, y0, y1, y2, y3, y4, y5⟩ | exact ⟨drew_cell hB4 z0, drew_cell hB4 z1, drew_cell hB4 z2, drew_cell hB4 y0, drew_cell hB4 y1, drew_cell hB4 y2, drew_cell hB4 y3, drew_cell hB4 y4, drew_cell hB4 y5⟩)
    ((refine goes_ Try.func34 (by kernel_rfl) rfl #[.agg #[.int .i64 q.f0, .string q.f1, .int .i64 q.f2, .int .i64 q.f3, .slice C4 m4 x4, .slice C5 m5 x5], .agg #[.string v.f0, .int .i64 v.f1, .slice B2 q2 d2]] (by rfl) rfl rfl (by simp [Act.eval, Act.put]) ?_; (with_reducible refine hih.mono ?_); rintro e w4 ⟨rfl, hB4⟩; refine ⟨_, rfl, ?_⟩))
   have HB4 := Aside0.mk (drew_B BW.out hB4)
   clear hB4 hih y0 y1 y2 y3 y4 y5 z0 z1 z2
   cases bb with
   | true =>
    go_wp2
    go_ret
    exact ⟨i, rfl, by rw [HDA.out]; simp, HW1.out.trans (HB4.out.mono HW1.out.size)⟩
   | false =>
    go_wp2
    go_roundg (l.length - (i + 1))
    case measure => omega
    case rel => exact ⟨i + 1, by omega, by omega, by go_num, HB4, ⟨by rw [HDA.out, Bool.false_or]⟩⟩
  ·
   have hltz : ¬ (i : Int) < (l.length : Int) := by omega
   have HE := Aside0.mk (show l.any (fun p => meansB p v) = false by
    have := AA.out
    rw [List.drop_of_length_le (by omega)] at this
    rw [this]; rfl)
   go_wp2
   go_ret
   exact ⟨-1, rfl, by have h := HE.out; simp at h ⊢; exact h, HW1.out.trans (BW.out.mono HW1.out.size)⟩
end Go.Proofs.Ytikhkcnbabpneaa.P
/- the reference: parts -/
namespace Go.Proofs.Ytikhkcnbabpneaa.P
open Go.RowKit Go.Proofs.YtikhkcnbabpneaaW.PrintWords Go.Proofs.YtikhkcnbabpneaaW.PrintLast Go.Proofs.YtikhkcnbabpneaaW.PrintMore
set_option linter.unusedVariables false
set_option linter.unusedSimpArgs false
def rpick (name : ByteArray) (i : Nat) (x : S25) : Option S25 := if x.f0 == 5 && x.f1.toList == name.toList then x.f5[i]? else none
def rpartsL (l : List S25) (name : ByteArray) (i : Nat) : List S25 := l.filterMap (rpick name i)
def rpartsOk (l : List S25) (name : ByteArray) (i : Nat) : Bool := l.all fun x => !(x.f0 == 5 && x.f1.toList == name.toList) || decide (i < x.f5.length)
theorem kid_at {w : World} {P : Nat → Prop} {A : Option Addr} {n : Nat} {l : List S25} (hF : Kd.F k25 w P A n l) (k : Nat) (hk : k < l.length) : ∃ ad A4 c4 A5 c5, A = some ad ∧ Kd.FK k25 w P l[k] [.int .i64 l[k].f0, .string l[k].f1, .int .i64 l[k].f2, .int .i64 l[k].f3, .slice A4 l[k].f4.length c4, .slice A5 l[k].f5.length c5] ∧ Kd.F k25 w P A5 l[k].f5.length l[k].f5 ∧
 w.cell? (ad.add (k * 6)) = some (.int .i64 l[k].f0) ∧ w.cell? ⟨(ad.add (k * 6)).block, (ad.add (k * 6)).off + 1, none⟩ = some (.string l[k].f1) ∧ w.cell? ⟨(ad.add (k * 6)).block, (ad.add (k * 6)).off + 2, none⟩ = some (.int .i64 l[k].f2) ∧ w.cell? ⟨(ad.add (k * 6)).block, (ad.add (k * 6)).off + 3, none⟩ = some (.int .i64 l[k].f3) ∧ w.cell? ⟨(ad.add (k * 6)).block, (ad.add (k * 6)).off + 4, none⟩ = some (.slice A4 l[k].f4.length c4) ∧ w.cell? ⟨(ad.add (k * 6)).block, (ad.add (k * 6)).off + 5, none⟩ = some (.slice A5 l[k].f5.length c5) := by
 have hn := Kd.F_len hF
 obtain ⟨ad, cs, rfl, hcl, hFK, hcc, _⟩ := Kd.F_get hF l[k] k (by omega) (by omega)
 rw [Int.toNat_natCast, List.getD_eq_getElem?_getD, List.getElem?_eq_getElem hk, Option.getD_some] at hFK
 obtain ⟨ad2, c2, e2, _, hK2, hz, hj⟩ := elem_at (Kd.F_now hF) k hk
 injection e2 with e2
 subst e2
 obtain ⟨A4, c4, A5, c5, rfl, l4, g4, l5, g5⟩ := k25_openF hFK
 have hc0 : ∀ j u, ([.int .i64 l[k].f0, .string l[k].f1, .int .i64 l[k].f2, .int .i64 l[k].f3, .slice A4 l[k].f4.length c4, .slice A5 l[k].f5.length c5] : List Value)[j]? = some u → w.cell? (ad.add (k * 6 + j)) = some u := fun j u hu => by
  have := hcc j u hu
  rw [Int.toNat_natCast] at this
  exact this
 refine ⟨ad, A4, c4, A5, c5, rfl, hFK, g5, hc0 0 _ rfl, ?_, ?_, ?_, ?_, ?_⟩
 ·
  have := hc0 1 _ rfl; rwa [add_field ad (k * 6) 1 (by decide)] at this
 ·
  have := hc0 2 _ rfl; rwa [add_field ad (k * 6) 2 (by decide)] at this
 ·
  have := hc0 3 _ rfl; rwa [add_field ad (k * 6) 3 (by decide)] at this
 ·
  have := hc0 4 _ rfl; rwa [add_field ad (k * 6) 4 (by decide)] at this
 ·
  have := hc0 5 _ rfl; rwa [add_field ad (k * 6) 5 (by decide)] at this
set_option maxHeartbeats 8000000 in
set_option maxRecDepth 100000 in
theorem rparts_calls (A : Option Addr) (c : Nat) (l : List S25) (name : ByteArray) (i : Nat) (w : World) (hr : Kd.C k25 w A l.length l) (hn : l.length ≤ 1000000) (hi : i ≤ 1000000) (hok : rpartsOk l name i = true) :
 Calls Try.prog 33 #[.slice A l.length c, .string name, .int .i64 i] w fun e w' => ∃ v, e = .returned v ∧ Kd.N k25 25 w' w.heap.size (fun _ => True) v (rpartsL l name i) ∧ Below w.heap.size w w' := by
 have HF := Aside0.mk (Kd.C_F k25_heap hr)
 have HOK := Aside0.mk hok
 clear hr hok
 go_enter Try.func33, Try.ntmps33
 go_wp2_with fail
 go_loopg [7, 8] l.length (fun gg s7 s8 wr => ∃ (kk : Nat) (out : List S25), kk ≤ l.length ∧ l.length - kk ≤ gg ∧ s8 = .int .i64 kk ∧ Aside0 (out = rpartsL (l.take kk) name i) ∧ Aside0 (Kd.N k25 25 wr w.heap.size (fun _ => True) s7 out) ∧ Aside0 (Below w.heap.size w wr))
 case atStart => exact ⟨0, [], Nat.zero_le _, by omega, rfl, ⟨rfl⟩, ⟨Kd.N_nil _ _ _ _ _⟩, ⟨Below.refl _ _⟩⟩
 case round =>
  obtain ⟨kk, out, hkk, hg, rfl, HO, HN, HB⟩ := hrel
  by_cases hlt : kk < l.length
  ·
   have hltz : (kk : Int) < (l.length : Int) := by omega
   have hkz : (0 : Int) ≤ (kk : Int) := by omega
   obtain ⟨ad, A4, c4, A5, c5, rfl, hFK, hF5, y0, y1, y2, y3, y4, y5⟩ := kid_at (Kd.F_below HF.out HB.out) kk hlt
   have hstep : rpartsL (l.take (kk + 1)) name i = rpartsL (l.take kk) name i ++ (rpick name i l[kk]).toList := by
    unfold rpartsL
    rw [List.take_succ_eq_append_getElem hlt, List.filterMap_append]
    cases hbb : rpick name i l[kk] <;> simp [hbb]
   have hki := (List.all_eq_true.1 HOK.out) l[kk] (List.getElem_mem _)
   have hrp : rpick name i l[kk] = if l[kk].f0 == 5 && l[kk].f1.toList == name.toList then l[kk].f5[i]? else none := rfl
   generalize l[kk] = x at *
   have HST := Aside0.mk hstep
   have HRP := Aside0.mk hrp
   clear hstep hrp hFK
   cases e1 : (x.f0 == 5) with
   | false =>
    have h5 : ¬ x.f0 = 5 := by simpa using e1
    have HE := Aside0.mk (show rpartsL (l.take (kk + 1)) name i = out by rw [HST.out, HRP.out, e1, HO.out]; simp)
    clear hki
    go_wp2_with fail
    go_roundg (l.length - (kk + 1))
    case measure => omega
    case rel => exact ⟨kk + 1, out, by omega, by omega, by go_num, ⟨HE.out.symm⟩, HN, HB⟩
   | true =>
    have h5 : x.f0 = 5 := by simpa using e1
    cases e2 : (x.f1.toList == name.toList) with
    | false =>
     have HE := Aside0.mk (show rpartsL (l.take (kk + 1)) name i = out by rw [HST.out, HRP.out, e1, e2, HO.out]; simp)
     clear hki
     go_wp2_with fail
     go_roundg (l.length - (kk + 1))
     case measure => omega
     case rel => exact ⟨kk + 1, out, by omega, by omega, by go_num, ⟨HE.out.symm⟩, HN, HB⟩
    | true =>
     have hix : i < x.f5.length := by rw [e1, e2] at hki; simpa using hki
     have hixz : (i : Int) < (x.f5.length : Int) := by omega
     have hiz : (0 : Int) ≤ (i : Int) := by omega
     have HE := Aside0.mk (show rpartsL (l.take (kk + 1)) name i = out ++ [x.f5[i]] by rw [HST.out, HRP.out, e1, e2, HO.out, List.getElem?_eq_getElem hix]; rfl)
     obtain ⟨bd, D4, d4, D5, d5, rfl, hFK, -, z0, z1, z2, z3, z4, z5⟩ := kid_at hF5 i hix
     have HFK := Aside0.mk hFK
     have hol : out.length ≤ 1000000 := by rw [HO.out]; exact Nat.le_trans (List.length_filterMap_le _ _) (by rw [List.length_take]; omega)
     have hcond := Kd.N_lt HN.out
     have hbase := Kd.N_base HN.out
     have HC2 := Aside0.mk (And.intro hcond hbase)
     have hsz := HB.out.size
     generalize hy : x.f5[i] = y at HE HFK z0 z1 z2 z3 z4 z5
     clear hki hFK hF5 hy hcond hbase
     generalize hm5 : x.f5.length = m5 at hixz y5
     generalize y.f4.length = m6 at HFK z4
     generalize y.f5.length = m7 at HFK z5
     clear hix hm5
     go_wp2_with ((with_reducible refine gate_builtin (b := .append) (xs := #[.tmp 30, .tmp 39]) rfl ?_); at_builtin; refine Kd.N_append k25 (w0 := w) w.heap.size rfl (.tmp 30) (.tmp 39) 22 25 (.agg #[.int .i64 0, .string ⟨#[]⟩, .int .i64 0, .int .i64 0, .slice none 0 0, .slice none 0 0]) 88 rfl Try.underlying22 info25 rfl (by decide) (by omega) _ out y [.int .i64 y.f0, .string y.f1, .int .i64 y.f2, .int .i64 y.f3, .slice D4 m6 d4, .slice D5 m7 d5] (fun _ => True) (fun k => k < w.heap.size) rfl rfl ?aP ?aK ?aF ?aO ?aB ?aS ?aL ?_; (case aP => exact HFK.out); (case aK => exact fun k hk => ⟨trivial, fun he => by have := HC2.out.2 k he.symm; omega⟩); (case aF => exact fun _ _ => trivial); (case aO => exact HN.out); (case aB => exact HB.out); (case aS => exact hsz); (case aL => omega); intro v1 w3 hN3 hB3 _ _; have HN3 := Aside0.mk hN3; have HB3 := Aside0.mk hB3; clear hN3 hB3)
     go_roundg (l.length - (kk + 1))
     case measure => omega
     case rel => exact ⟨kk + 1, out ++ [y], by omega, by omega, by go_num, ⟨HE.out.symm⟩, HN3, HB3⟩
  ·
   have hltz : ¬ (kk : Int) < (l.length : Int) := by omega
   have HE := Aside0.mk (show rpartsL l name i = out by rw [HO.out, List.take_of_length_le (by omega)])
   go_wp2
   go_ret
   exact ⟨_, rfl, by rw [HE.out]; exact HN.out, HB.out⟩
end Go.Proofs.Ytikhkcnbabpneaa.P
/- the reference: Find -/
namespace Go.Proofs.Ytikhkcnbabpneaa.P
open Go.RowKit Go.Proofs.YtikhkcnbabpneaaW.PrintWords Go.Proofs.YtikhkcnbabpneaaW.PrintLast Go.Proofs.YtikhkcnbabpneaaW.PrintMore
set_option linter.unusedVariables false
set_option linter.unusedSimpArgs false
theorem findC_at {l : List S61} {a : ByteArray} {i : Nat} (hi : i < l.length) (h0 : ∀ j (hj : j < i), isName a (l[j]'(by omega)) = false) (h1 : isName a l[i] = true) : findC l a = l[i] := by
 unfold findC
 have : l.find? (isName a) = some l[i] := by
  rw [List.find?_eq_some_iff_getElem]
  exact ⟨h1, i, hi, rfl, fun j hj => by simpa using h0 j hj⟩
 rw [this]; rfl
set_option maxHeartbeats 8000000 in
set_option maxRecDepth 100000 in
theorem rfind_calls (A : Option Addr) (c : Nat) (l : List S61) (name : ByteArray) (w : World) (hr : Kd.C k61 w A l.length l) :
 Calls Try.prog 32 #[.slice A l.length c, .string name] w fun e w' => (∃ n : Int, e = .returned (.int .i64 n) ∧ ((l.any (isName name) = false ∧ n = -1) ∨ (l.any (isName name) = true ∧ 0 ≤ n ∧ n < l.length ∧ l[n.toNat]? = some (findC l name)))) ∧ Below w.heap.size w w' := by
 have hmax : l.length ≤ 9223372036854775807 := hr.2.1
 have HR := Aside0.mk hr
 clear hr
 go_enter Try.func32, Try.ntmps32
 go_wp2_with fail
 go_loopg [5] l.length (fun gg s5 wr => ∃ i : Nat, i ≤ l.length ∧ l.length - i ≤ gg ∧ s5 = .int .i64 i ∧ Aside0 (Below w.heap.size w wr) ∧ Aside0 (∀ j (hj : j < i) (hl : j < l.length), isName name l[j] = false))
 case atStart => exact ⟨0, Nat.zero_le _, by omega, rfl, ⟨Below.refl _ _⟩, ⟨fun j hj => absurd hj (Nat.not_lt_zero _)⟩⟩
 case round =>
  obtain ⟨i, hi, hg, rfl, BW, AA⟩ := hrel
  by_cases hlt : i < l.length
  ·
   have hltz : (i : Int) < (l.length : Int) := by omega
   have hiz : (0 : Int) ≤ (i : Int) := by omega
   obtain ⟨ad, cs, e', hcl, hKq, hcz, hcj⟩ := elem_at (Kd.C_below HR.out BW.out) i hlt
   obtain rfl := k61_open hKq
   subst e'
   simp only [show k61.sz = 5 from rfl] at hcz
   have y0 := hcz _ rfl
   clear hcl hKq hcz hcj
   have hnm : isName name l[i] = (l[i].f0.toList == name.toList) := rfl
   cases e1 : (l[i].f0.toList == name.toList) with
   | true =>
    have HE := Aside0.mk (show isName name l[i] = true by rw [hnm, e1])
    clear hnm
    go_wp2
    go_ret
    refine ⟨⟨i, rfl, .inr ⟨List.any_eq_true.2 ⟨l[i], List.getElem_mem _, HE.out⟩, hiz, hltz, ?_⟩⟩, BW.out⟩
    rw [Int.toNat_natCast, List.getElem?_eq_getElem hlt, findC_at hlt (fun j hj => AA.out j hj (by omega)) HE.out]
   | false =>
    have HE := Aside0.mk (show isName name l[i] = false by rw [hnm, e1])
    clear hnm
    go_wp2
    go_roundg (l.length - (i + 1))
    case measure => omega
    case rel =>
     refine ⟨i + 1, by omega, by omega, by go_num, BW, ⟨fun j hj hl => ?_⟩⟩
     by_cases e : j = i
     ·
      subst e; exact HE.out
     ·
      exact AA.out j (by omega) hl
  ·
   have hltz : ¬ (i : Int) < (l.length : Int) := by omega
   have HE := Aside0.mk (show l.any (isName name) = false by
    rw [List.any_eq_false]
    intro x hx
    obtain ⟨j, hj, rfl⟩ := List.mem_iff_getElem.1 hx
    rw [AA.out j (by omega) hj]; decide)
   go_wp2
   go_ret
   exact ⟨⟨-1, rfl, .inl ⟨by have h := HE.out; rw [List.any_eq_false] at h; intro x hx; simpa using h x hx, rfl⟩⟩, BW.out⟩
end Go.Proofs.Ytikhkcnbabpneaa.P
/- Plain laws: what the reference's Together tells. -/
namespace Go.Proofs.Ytikhkcnbabpneaa.P
open Go.RowKit Go.Proofs.YtikhkcnbabpneaaW.PrintWords Go.Proofs.YtikhkcnbabpneaaW.PrintLast Go.Proofs.YtikhkcnbabpneaaW.PrintMore
set_option linter.unusedVariables false
set_option linter.unusedSimpArgs false
def ownOf (cons : List S61) (x : S25) : ByteArray := if x.f0 == 5 then (findC cons x.f1).f1 else ⟨#[]⟩
def kindsF (cons : List S61) : List S25 → Int → ByteArray → Option (Int × ByteArray)
 | [], k, o => some (k, o)
 | x :: t, k, o => if looseB x then kindsF cons t k o else if k = 0 then kindsF cons t x.f0 (ownOf cons x) else if k = x.f0 then (if o.toList == (ownOf cons x).toList then kindsF cons t x.f0 (ownOf cons x) else none) else none
theorem kinds_some (cons : List S61) : ∀ (l : List S25) (k : Int) (o : ByteArray) (k' : Int) (o' : ByteArray), (∀ x ∈ l, x.f0 ≠ 0) → kindsF cons l k o = some (k', o') →
 (∀ x ∈ l, looseB x = false → x.f0 = k' ∧ (ownOf cons x).toList = o'.toList) ∧ (k ≠ 0 → k' = k ∧ o'.toList = o.toList) ∧ (k = 0 → k' = 0 → ∀ x ∈ l, looseB x = true) := by
 intro l
 induction l with
 | nil =>
  intro k o k' o' _ h
  simp only [kindsF, Option.some.injEq, Prod.mk.injEq] at h
  obtain ⟨rfl, rfl⟩ := h
  exact ⟨fun x hx => (by cases hx), fun _ => ⟨rfl, rfl⟩, fun _ _ x hx => (by cases hx)⟩
 | cons x t ih =>
  intro k o k' o' hz h
  have hzt : ∀ y ∈ t, y.f0 ≠ 0 := fun y hy => hz y (List.mem_cons_of_mem _ hy)
  have hzx := hz x (List.mem_cons_self ..)
  unfold kindsF at h
  cases hl : looseB x with
  | true =>
   rw [hl, if_pos rfl] at h
   obtain ⟨a, b, c⟩ := ih k o k' o' hzt h
   refine ⟨fun y hy ly => ?_, b, fun h1 h2 y hy => ?_⟩
   ·
    rcases List.mem_cons.1 hy with rfl | hy
    ·
     rw [hl] at ly; cases ly
    ·
     exact a y hy ly
   ·
    rcases List.mem_cons.1 hy with rfl | hy
    ·
     exact hl
    ·
     exact c h1 h2 y hy
  | false =>
   rw [hl, if_neg (by decide)] at h
   have key : kindsF cons t x.f0 (ownOf cons x) = some (k', o') → (∀ y ∈ x :: t, looseB y = false → y.f0 = k' ∧ (ownOf cons y).toList = o'.toList) ∧ k' = x.f0 ∧ o'.toList = (ownOf cons x).toList := by
    intro h
    obtain ⟨a, b, _⟩ := ih _ _ _ _ hzt h
    obtain ⟨b1, b2⟩ := b hzx
    refine ⟨fun y hy ly => ?_, b1, b2⟩
    rcases List.mem_cons.1 hy with rfl | hy
    ·
     exact ⟨b1.symm, b2.symm⟩
    ·
     exact a y hy ly
   by_cases h0 : k = 0
   ·
    rw [if_pos h0] at h
    obtain ⟨a, b1, b2⟩ := key h
    exact ⟨a, fun hn => absurd h0 hn, fun _ hk => absurd (b1.symm.trans hk) hzx⟩
   ·
    rw [if_neg h0] at h
    by_cases h1 : k = x.f0
    ·
     rw [if_pos h1] at h
     cases e : (o.toList == (ownOf cons x).toList) with
     | false => rw [e] at h; simp at h
     | true =>
      rw [e, if_pos rfl] at h
      obtain ⟨a, b1, b2⟩ := key h
      exact ⟨a, fun _ => ⟨b1.trans h1.symm, by rw [b2]; exact (by simpa using e : o.toList = (ownOf cons x).toList).symm⟩, fun hk => absurd hk h0⟩
    ·
     rw [if_neg h1] at h; cases h
theorem kinds_none (cons : List S61) : ∀ (l : List S25) (k : Int) (o : ByteArray), kindsF cons l k o = none → k ≠ 0 →
 ∃ x ∈ l, looseB x = false ∧ ¬ (x.f0 = k ∧ (ownOf cons x).toList = o.toList) := by
 intro l
 induction l with
 | nil => intro k o h _; simp [kindsF] at h
 | cons x t ih =>
  intro k o h hk
  unfold kindsF at h
  cases hl : looseB x with
  | true =>
   rw [hl, if_pos rfl] at h
   obtain ⟨y, hy, hh⟩ := ih k o h hk
   exact ⟨y, List.mem_cons_of_mem _ hy, hh⟩
  | false =>
   rw [hl, if_neg (by decide), if_neg hk] at h
   by_cases h1 : k = x.f0
   ·
    rw [if_pos h1] at h
    cases e : (o.toList == (ownOf cons x).toList) with
    | false => exact ⟨x, List.mem_cons_self .., hl, fun hh => by rw [hh.2] at e; simp at e⟩
    | true =>
     rw [e, if_pos rfl] at h
     have e' : o.toList = (ownOf cons x).toList := by simpa using e
     obtain ⟨y, hy, ly, hh⟩ := ih x.f0 (ownOf cons x) h (by rw [← h1]; exact hk)
     exact ⟨y, List.mem_cons_of_mem _ hy, ly, fun hc => hh ⟨hc.1.trans h1, hc.2.trans e'⟩⟩
   ·
    exact ⟨x, List.mem_cons_self .., hl, fun hh => h1 hh.1.symm⟩
theorem kinds_none0 (cons : List S61) : ∀ (l : List S25) (o : ByteArray), (∀ x ∈ l, x.f0 ≠ 0) → kindsF cons l 0 o = none → ∃ x ∈ l, ∃ y ∈ l, looseB x = false ∧ looseB y = false ∧ ¬ (y.f0 = x.f0 ∧ (ownOf cons y).toList = (ownOf cons x).toList) := by
 intro l
 induction l with
 | nil => intro o _ h; simp [kindsF] at h
 | cons x t ih =>
  intro o hz h
  unfold kindsF at h
  cases hl : looseB x with
  | true =>
   rw [hl, if_pos rfl] at h
   obtain ⟨a, ha, b, hb, hh⟩ := ih o (fun y hy => hz y (List.mem_cons_of_mem _ hy)) h
   exact ⟨a, List.mem_cons_of_mem _ ha, b, List.mem_cons_of_mem _ hb, hh⟩
  | false =>
   rw [hl, if_neg (by decide), if_pos rfl] at h
   obtain ⟨y, hy, ly, hh⟩ := kinds_none cons t x.f0 (ownOf cons x) h (hz x (List.mem_cons_self ..))
   exact ⟨x, List.mem_cons_self .., y, List.mem_cons_of_mem _ hy, hl, ly, hh⟩
theorem ok_kind {cons : List S61} {x : S25} (h : okB cons x = true) (hl : looseB x = false) : x.f0 = 1 ∧ x.f1.toList = [] ∧ x.f5 = [] ∨ x.f0 = 5 := by
 have h0 := h
 rw [okB_eq] at h
 rw [Bool.and_eq_true] at h
 unfold looseB at hl
 simp only [Bool.or_eq_false_iff, beq_eq_false_iff_ne] at hl
 have h2 := h.2
 rw [if_neg (by omega)] at h2
 by_cases h1 : x.f0 = 1
 ·
  left
  have hp := h.1
  unfold plainB at hp
  simp only [Bool.and_eq_true, Bool.or_eq_true, decide_eq_true_eq, beq_iff_eq, h1] at hp
  refine ⟨h1, ?_, ?_⟩
  ·
   rcases hp.1.1.1 with (e | e) | e
   ·
    exact e
   ·
    exact absurd e (by decide)
   ·
    exact absurd e (by decide)
  ·
   rcases hp.2 with e | e
   ·
    exact List.length_eq_zero_iff.1 e
   ·
    exact absurd e (by decide)
 ·
  rw [if_neg h1] at h2
  right
  by_cases h5 : x.f0 = 5
  ·
   exact h5
  ·
   rw [if_neg h5] at h2; cases h2
theorem ok_nonzero {cons : List S61} {x : S25} (h : okB cons x = true) : x.f0 ≠ 0 := by
 intro h0
 cases hl : looseB x with
 | true => unfold looseB at hl; rw [h0] at hl; simp at hl
 | false => rcases ok_kind h hl with e | e <;> omega
theorem unlike_own {cons : List S61} {x y : S25} (hx : okB cons x = true) (hy : okB cons y = true) (lx : looseB x = false) (ly : looseB y = false) :
 unlike cons x y = false ↔ y.f0 = x.f0 ∧ (ownOf cons y).toList = (ownOf cons x).toList := by
 rw [unlike_iff]
 unfold ownOf
 constructor
 ·
  rintro ⟨a, b⟩
  refine ⟨a, ?_⟩
  rw [a]
  split
  ·
   exact b
  ·
   rfl
 ·
  rintro ⟨a, b⟩
  refine ⟨a, ?_⟩
  rw [a] at b
  rcases ok_kind hx lx with e | e
  ·
   rcases ok_kind hy ly with e' | e'
   ·
    rw [findC_congr cons (e'.2.1.trans e.2.1.symm)]
   ·
    omega
  ·
   rw [e] at b; simpa using b
theorem togP_kinds {cons : List S61} {m : Nat} {l : List S25} (hP : Pats cons (m + 1) l) : kindsF cons l 0 ⟨#[]⟩ = none → ¬ TogP cons (m + 1) l := by
 intro h ht
 obtain ⟨x, hx, y, hy, lx, ly, hh⟩ := kinds_none0 cons l _ (fun z hz => ok_nonzero (hP.1 z hz).1) h
 exact hh ((unlike_own (hP.1 x hx).1 (hP.1 y hy).1 lx ly).1 (ht.1 x hx y hy lx ly))
theorem rparts_eq {cons : List S61} {l : List S25} {p : S25} (hl : ∀ x ∈ l, okB cons x = true) (hp : okB cons p = true) (h5 : p.f0 = 5) {name : ByteArray} (hn : name.toList = p.f1.toList) (q : Nat) : rpartsL l name q = partsL l p q := by
 unfold rpartsL partsL
 have hp2 := (ok_con hp h5).2.2
 induction l with
 | nil => rfl
 | cons x t ih =>
  have ih' := ih (fun y hy => hl y (List.mem_cons_of_mem _ hy))
  have hx := hl x (List.mem_cons_self ..)
  have he : rpick name q x = if sameB x p = true then x.f5[q]? else none := by
   unfold rpick
   by_cases e : x.f0 = 5
   ·
    have hx2 := (ok_con hx e).2.2
    have : (x.f0 == 5 && x.f1.toList == name.toList) = sameB x p := by
     unfold sameB
     rw [e, h5, hx2, hp2, hn]; simp
    rw [this]
   ·
    have h1 : (x.f0 == 5) = false := by simpa using e
    have h2 : sameB x p = false := by
     cases hs : sameB x p with
     | false => rfl
     | true => exact absurd ((same_iff.1 hs).1.trans h5) e
    rw [h1, h2]; simp
  rw [List.filterMap_cons, List.filterMap_cons, he, ih']
theorem rparts_ok {cons : List S61} (hG : Good cons) {l : List S25} (hl : ∀ x ∈ l, okB cons x = true) {c : S61} (hc : c ∈ cons) {i : Nat} (hi : (i : Int) < c.f3) : rpartsOk l c.f0 i = true := by
 unfold rpartsOk
 rw [List.all_eq_true]
 intro x hx
 cases h : (x.f0 == 5 && x.f1.toList == c.f0.toList) with
 | false => rfl
 | true =>
  rw [Bool.and_eq_true, beq_iff_eq, beq_iff_eq] at h
  have := (ok_con (hl x hx) h.1).1
  rw [findC_congr cons h.2, hG.fd c hc] at this
  simp only [Bool.not_true, Bool.false_or, decide_eq_true_eq]
  omega
theorem rparts_pats {cons : List S61} {m : Nat} {l : List S25} (h : Pats cons (m + 1) l) (name : ByteArray) (i : Nat) : Pats cons m (rpartsL l name i) := by
 refine ⟨fun y hy => ?_, Nat.le_trans (List.length_filterMap_le _ _) h.2⟩
 obtain ⟨x, hx, hxy⟩ := List.mem_filterMap.1 hy
 unfold rpick at hxy
 split at hxy
 ·
  have hmem : y ∈ x.f5 := List.mem_of_getElem? hxy
  obtain ⟨ho, hn⟩ := h.1 x hx
  have := nodes_mem hmem
  rw [nodes_eq] at hn
  refine ⟨?_, by omega⟩
  rcases ok_kids ho with e | e
  ·
   rw [e] at hmem; cases hmem
  ·
   exact e.2.2.2 y hmem
 ·
  cases hxy
theorem togP_cons {cons : List S61} (hG : Good cons) {m : Nat} {l : List S25} (hP : Pats cons (m + 1) l) {o : ByteArray} (hk : ∀ x ∈ l, looseB x = false → x.f0 = 5 ∧ (ownOf cons x).toList = o.toList) :
 TogP cons (m + 1) l ↔ ∀ c ∈ cons, c.f1.toList = o.toList → ∀ i : Nat, (i : Int) < c.f3 → TogP cons m (rpartsL l c.f0 i) := by
 have hok : ∀ x ∈ l, okB cons x = true := fun x hx => (hP.1 x hx).1
 constructor
 ·
  intro h c hc ho i hi
  by_cases hex : ∃ x ∈ l, x.f0 = 5 ∧ x.f1.toList = c.f0.toList
  ·
   obtain ⟨x, hx, h5, hn⟩ := hex
   have lx : looseB x = false := by unfold looseB; rw [h5]; rfl
   have ha := (ok_con (hok x hx) h5).1
   rw [findC_congr cons hn, hG.fd c hc] at ha
   rw [rparts_eq hok (hok x hx) h5 hn.symm i]
   exact h.2 x hx lx i (by omega)
  ·
   have : rpartsL l c.f0 i = [] := by
    unfold rpartsL
    rw [List.filterMap_eq_nil_iff]
    intro x hx
    unfold rpick
    rw [if_neg]
    intro hh
    rw [Bool.and_eq_true, beq_iff_eq, beq_iff_eq] at hh
    exact hex ⟨x, hx, hh⟩
   rw [this]; exact togP_nil cons m
 ·
  intro h
  refine ⟨fun x hx y hy lx ly => ?_, fun p hp lp q hq => ?_⟩
  ·
   rw [unlike_own (hok x hx) (hok y hy) lx ly]
   have a := hk x hx lx
   have b := hk y hy ly
   exact ⟨b.1.trans a.1.symm, b.2.trans a.2.symm⟩
  ·
   have a := hk p hp lp
   have hc := ok_con (hok p hp) a.1
   have hm := findC_mem hc.2.1
   have hnm : (findC cons p.f1).f0.toList = p.f1.toList := by have := hm.2; unfold isName at this; simpa using this
   have ho : (findC cons p.f1).f1.toList = o.toList := by rw [← a.2]; unfold ownOf; rw [a.1]; rfl
   rw [← rparts_eq hok (hok p hp) a.1 hnm q]
   exact h _ hm.1 ho q (by omega)
theorem togP_flat {cons : List S61} {m : Nat} {l : List S25} (hP : Pats cons (m + 1) l) {k : Int} {o : ByteArray} (hk : ∀ x ∈ l, looseB x = false → x.f0 = k ∧ (ownOf cons x).toList = o.toList) (h5 : k ≠ 5) : TogP cons (m + 1) l := by
 have hok : ∀ x ∈ l, okB cons x = true := fun x hx => (hP.1 x hx).1
 refine ⟨fun x hx y hy lx ly => ?_, fun p hp lp q hq => ?_⟩
 ·
  rw [unlike_own (hok x hx) (hok y hy) lx ly]
  have a := hk x hx lx
  have b := hk y hy ly
  exact ⟨b.1.trans a.1.symm, b.2.trans a.2.symm⟩
 ·
  rcases ok_kind (hok p hp) lp with e | e
  ·
   rw [e.2.2] at hq; simp at hq
  ·
   exact absurd ((hk p hp lp).1.symm.trans e) h5
end Go.Proofs.Ytikhkcnbabpneaa.P
/- the reference: Together -/
namespace Go.Proofs.Ytikhkcnbabpneaa.P
open Go.RowKit Go.Proofs.YtikhkcnbabpneaaW.PrintWords Go.Proofs.YtikhkcnbabpneaaW.PrintLast Go.Proofs.YtikhkcnbabpneaaW.PrintMore
set_option linter.unusedVariables false
set_option linter.unusedSimpArgs false
theorem empty_list : (⟨#[]⟩ : ByteArray).toList = [] := by decide +kernel
def RTogAt (cons : List S61) (m : Nat) : Prop :=
 ∀ (A0 : Option Addr) (c0 : Nat) (A1 : Option Addr) (c1 : Nat) (l : List S25) (w : World), Kd.C k61 w A0 cons.length cons → Kd.C k25 w A1 l.length l → Pats cons m l →
  Calls Try.prog 31 #[.slice A0 cons.length c0, .slice A1 l.length c1] w fun e w' => (∃ b : Bool, e = .returned (.bool b) ∧ (b = true ↔ TogP cons m l)) ∧ Below w.heap.size w w'
set_option maxHeartbeats 8000000 in
set_option maxRecDepth 100000 in
theorem rtog_step {cons : List S61} (hG : Good cons) (m : Nat) (IH : RTogAt cons m) (A0 : Option Addr) (c0 : Nat) (A1 : Option Addr) (c1 : Nat) (l : List S25) (w : World) (h0 : Kd.C k61 w A0 cons.length cons) (h1 : Kd.C k25 w A1 l.length l) (hP : Pats cons (m + 1) l) :
 Calls Try.prog 31 #[.slice A0 cons.length c0, .slice A1 l.length c1] w fun e w' => (∃ b : Bool, e = .returned (.bool b) ∧ (b = true ↔ TogP cons (m + 1) l)) ∧ Below w.heap.size w w' := by
 have hlen := hP.2
 have hcl := hG.len
 have H0 := Aside0.mk h0
 have H1 := Aside0.mk h1
 have HP := Aside0.mk hP
 have HG := Aside0.mk hG
 have HNO := Aside0.mk (togP_kinds hP)
 clear h0 h1 hP hG
 go_enter Try.func31, Try.ntmps31
 go_wp2_with fail
 go_loopg [5, 6, 7] l.length (fun gg s5 s6 s7 wr => ∃ (i : Nat) (k : Int) (o : ByteArray), i ≤ l.length ∧ l.length - i ≤ gg ∧ s5 = .int .i64 k ∧ s6 = .string o ∧ s7 = .int .i64 i ∧ Aside0 (Below w.heap.size w wr) ∧ Aside0 (kindsF cons l 0 ⟨#[]⟩ = kindsF cons (l.drop i) k o))
 case atStart => exact ⟨0, 0, ⟨#[]⟩, Nat.zero_le _, by omega, rfl, rfl, rfl, ⟨Below.refl _ _⟩, ⟨rfl⟩⟩
 case round =>
  obtain ⟨i, k, o, hi, hg, rfl, rfl, rfl, BW, AA⟩ := hrel
  by_cases hlt : i < l.length
  ·
   have hltz : (i : Int) < (l.length : Int) := by omega
   have hiz : (0 : Int) ≤ (i : Int) := by omega
   obtain ⟨ad, cs, e', hcl', hKq, hcz, hcj⟩ := elem_at (Kd.C_below H1.out BW.out) i hlt
   subst e'
   have hlo := rloose_calls l[i] _ wr hKq
   have hok := (HP.out.1 l[i] (List.getElem_mem _)).1
   have hda := AA.out
   rw [List.drop_eq_getElem_cons hlt, kindsF] at hda
   obtain ⟨C4, x4, C5, x5, rfl, -, -, -, -⟩ := k25_open hKq
   simp only [show k25.sz = 6 from rfl] at hcz hcj
   have y0 := hcz _ rfl
   have y1 := hcj 1 _ (by decide) rfl
   have y2 := hcj 2 _ (by decide) rfl
   have y3 := hcj 3 _ (by decide) rfl
   have y4 := hcj 4 _ (by decide) rfl
   have y5 := hcj 5 _ (by decide) rfl
   have HDA := Aside0.mk hda
   have HOK := Aside0.mk hok
   clear hcl' hKq hcz hcj AA hda hok
   generalize l[i] = x at *
   generalize x.f4.length = n4 at hlo y4
   generalize x.f5.length = n5 at hlo y5
   go_wp2_with fail
   refine hlo.mono ?_; rintro e w2 ⟨rfl, hB2⟩
   clear hlo
   replace y0 := pw_cell_below hB2 y0
   replace y1 := pw_cell_below hB2 y1
   have HB2 := Aside0.mk (BW.out.trans (hB2.mono BW.out.size))
   clear hB2 y2 y3 y4 y5
   cases hl : looseB x with
   | true =>
    go_wp2
    go_roundg (l.length - (i + 1))
    case measure => omega
    case rel => exact ⟨i + 1, k, o, by omega, by omega, rfl, rfl, by go_num, HB2, ⟨by rw [HDA.out, hl, if_pos rfl]⟩⟩
   | false =>
    have HDB := Aside0.mk (show kindsF cons l 0 ⟨#[]⟩ = if k = 0 then kindsF cons (l.drop (i + 1)) x.f0 (ownOf cons x) else if k = x.f0 then (if o.toList == (ownOf cons x).toList then kindsF cons (l.drop (i + 1)) x.f0 (ownOf cons x) else none) else none by rw [HDA.out, hl, if_neg (by decide)])
    have hown : ownOf cons x = if x.f0 == 5 then (findC cons x.f1).f1 else ⟨#[]⟩ := rfl
    clear HDA
    by_cases h5 : x.f0 = 5
    ·
     have hco := ok_con HOK.out h5
     have HOW := Aside0.mk (show ownOf cons x = (findC cons x.f1).f1 by rw [hown, h5]; rfl)
     rw [h5] at y0
     have hfd := rfind_calls A0 c0 cons x.f1 w2 (Kd.C_below H0.out HB2.out)
     clear hown
     go_wp2_with fail
     refine hfd.mono ?_; rintro e w3 ⟨⟨n, rfl, hn⟩, hB3⟩
     clear hfd
     obtain ⟨hn0, hn1, hn2⟩ : 0 ≤ n ∧ n < cons.length ∧ cons[n.toNat]? = some (findC cons x.f1) := by
      rcases hn with hn | hn
      ·
       rw [hco.2.1] at hn; cases hn.1
      ·
       exact hn.2
     obtain ⟨nn, rfl⟩ : ∃ nn : Nat, n = nn := ⟨n.toNat, by omega⟩
     rw [Int.toNat_natCast] at hn2
     replace y0 := pw_cell_below hB3 y0
     have HB3 := Aside0.mk (HB2.out.trans (hB3.mono HB2.out.size))
     have hnl : nn < cons.length := by omega
     obtain ⟨bd, cs, e2, -, hKc, hdz, hdj⟩ := elem_at (Kd.C_below H0.out HB3.out) nn hnl
     obtain rfl := k61_open hKc
     subst e2
     simp only [show k61.sz = 5 from rfl] at hdz hdj
     rw [List.getElem?_eq_getElem hnl] at hn2
     have hcf := Option.some.inj hn2
     rw [hcf] at hdz hdj
     have z1 := hdj 1 _ (by decide) rfl
     clear hdz hdj hKc hn hn2 hcf hB3 hco
     generalize hfo : (findC cons x.f1).f1 = ow at z1 HOW
     clear hfo
     by_cases hk0 : k = 0
     ·
      subst hk0
      have HKK := Aside0.mk (show kindsF cons l 0 ⟨#[]⟩ = kindsF cons (l.drop (i + 1)) 5 ow by rw [HDB.out, if_pos rfl, HOW.out, h5])
      go_wp2_with fail
      go_roundg (l.length - (i + 1))
      case measure => omega
      case rel => exact ⟨i + 1, 5, ow, by omega, by omega, rfl, rfl, by go_num, HB3, HKK⟩
     ·
      have hk0b : (k == 0) = false := by simpa using hk0
      have hk0c : (k != 0) = true := by simp [hk0]
      by_cases hk1 : k = 5
      ·
       have hk1b : (k == 5) = true := by simpa using hk1
       have hk1c : (k != 5) = false := by simp [hk1]
       have hkx : k = x.f0 := hk1.trans h5.symm
       cases e : (o.toList == ow.toList) with
       | true =>
        have HKK := Aside0.mk (show kindsF cons l 0 ⟨#[]⟩ = kindsF cons (l.drop (i + 1)) 5 ow by rw [HDB.out, if_neg hk0, if_pos hkx, HOW.out, e, if_pos rfl, h5])
        go_wp2_with fail
        go_roundg (l.length - (i + 1))
        case measure => omega
        case rel => exact ⟨i + 1, 5, ow, by omega, by omega, rfl, rfl, by go_num, HB3, HKK⟩
       | false =>
        have HKK := Aside0.mk (HNO.out (show kindsF cons l 0 ⟨#[]⟩ = none by rw [HDB.out, if_neg hk0, if_pos hkx, HOW.out, e, if_neg (by decide)]))
        go_wp2_with fail
        go_ret
        exact ⟨⟨false, rfl, fun h => (by cases h), fun h => absurd h HKK.out⟩, HB3.out⟩
      ·
       have hk1b : (k == 5) = false := by simpa using hk1
       have hk1c : (k != 5) = true := by simp [hk1]
       have hkx : ¬ k = x.f0 := by rw [h5]; exact hk1
       have HKK := Aside0.mk (HNO.out (show kindsF cons l 0 ⟨#[]⟩ = none by rw [HDB.out, if_neg hk0, if_neg hkx]))
       go_wp2_with fail
       go_ret
       exact ⟨⟨false, rfl, fun h => (by cases h), fun h => absurd h HKK.out⟩, HB3.out⟩
    ·
     have HOW := Aside0.mk (show ownOf cons x = ⟨#[]⟩ by rw [hown, if_neg (by simpa using h5)])
     have h5b : (x.f0 == 5) = false := by simpa using h5
     clear hown
     by_cases hk0 : k = 0
     ·
      subst hk0
      have HKK := Aside0.mk (show kindsF cons l 0 ⟨#[]⟩ = kindsF cons (l.drop (i + 1)) x.f0 ⟨#[]⟩ by rw [HDB.out, if_pos rfl, HOW.out])
      go_wp2_with fail
      go_roundg (l.length - (i + 1))
      case measure => omega
      case rel => exact ⟨i + 1, x.f0, ⟨#[]⟩, by omega, by omega, rfl, rfl, by go_num, HB2, HKK⟩
     ·
      have hk0b : (k == 0) = false := by simpa using hk0
      have hk0c : (k != 0) = true := by simp [hk0]
      by_cases hk1 : k = x.f0
      ·
       have hk1b : (k == x.f0) = true := by simpa using hk1
       have hk1c : (k != x.f0) = false := by simp [hk1]
       have hkx : k = x.f0 := hk1
       cases e : (o.toList == ([] : List UInt8)) with
       | true =>
        have HKK := Aside0.mk (show kindsF cons l 0 ⟨#[]⟩ = kindsF cons (l.drop (i + 1)) x.f0 ⟨#[]⟩ by rw [HDB.out, if_neg hk0, if_pos hkx, HOW.out, empty_list, e, if_pos rfl])
        go_wp2_with fail
        go_roundg (l.length - (i + 1))
        case measure => omega
        case rel => exact ⟨i + 1, x.f0, ⟨#[]⟩, by omega, by omega, rfl, rfl, by go_num, HB2, HKK⟩
       | false =>
        have HKK := Aside0.mk (HNO.out (show kindsF cons l 0 ⟨#[]⟩ = none by rw [HDB.out, if_neg hk0, if_pos hkx, HOW.out, empty_list, e, if_neg (by decide)]))
        go_wp2_with fail
        go_ret
        exact ⟨⟨false, rfl, fun h => (by cases h), fun h => absurd h HKK.out⟩, HB2.out⟩
      ·
       have hk1b : (k == x.f0) = false := by simpa using hk1
       have hk1c : (k != x.f0) = true := by simp [hk1]
       have hkx : ¬ k = x.f0 := hk1
       have HKK := Aside0.mk (HNO.out (show kindsF cons l 0 ⟨#[]⟩ = none by rw [HDB.out, if_neg hk0, if_neg hkx]))
       go_wp2_with fail
       go_ret
       exact ⟨⟨false, rfl, fun h => (by cases h), fun h => absurd h HKK.out⟩, HB2.out⟩
  ·
   have hltz : ¬ (i : Int) < (l.length : Int) := by omega
   have HKS := Aside0.mk (show kindsF cons l 0 ⟨#[]⟩ = some (k, o) by rw [AA.out, List.drop_of_length_le (by omega)]; rfl)
   clear AA
   have HKN := Aside0.mk (kinds_some cons l 0 ⟨#[]⟩ k o (fun x hx => ok_nonzero (HP.out.1 x hx).1) HKS.out).1
   by_cases h5 : k = 5
   ·
    subst h5
    have HTC := Aside0.mk (togP_cons HG.out HP.out (o := o) HKN.out)
    clear HKS
    generalize hW : wr = W1 at BW ⊢
    clear hW
    go_wp2_with fail
    go_loopg [9] cons.length (fun gg s9 wr => ∃ ci : Nat, ci ≤ cons.length ∧ cons.length - ci ≤ gg ∧ s9 = .int .i64 ci ∧ Aside0 (Below W1.heap.size W1 wr) ∧ Aside0 (∀ j (hj : j < ci) (hl : j < cons.length), cons[j].f1.toList = o.toList → ∀ i : Nat, (i : Int) < cons[j].f3 → TogP cons m (rpartsL l cons[j].f0 i)))
    case atStart => exact ⟨0, Nat.zero_le _, by omega, rfl, ⟨Below.refl _ _⟩, ⟨fun j hj => absurd hj (Nat.not_lt_zero _)⟩⟩
    case round =>
     obtain ⟨ci, hci, hg, rfl, BX, AX⟩ := hrel
     by_cases hlc : ci < cons.length
     ·
      have hlcz : (ci : Int) < (cons.length : Int) := by omega
      have hciz : (0 : Int) ≤ (ci : Int) := by omega
      have hmem : cons[ci] ∈ cons := List.getElem_mem _
      have har := HG.out.ar _ hmem
      have HMM := Aside0.mk hmem
      have HXX := Aside0.mk (show cons[ci] = cons[ci] from rfl)
      have HALL := Aside0.mk (show (∀ i : Nat, cons[ci].f1.toList = o.toList → (i : Int) < cons[ci].f3 → TogP cons m (rpartsL l cons[ci].f0 i)) → ∀ j (hj : j < ci + 1) (hl : j < cons.length), cons[j].f1.toList = o.toList → ∀ i : Nat, (i : Int) < cons[j].f3 → TogP cons m (rpartsL l cons[j].f0 i) from fun h j hj hl ho i hi => by
       by_cases e : j = ci
       ·
        subst e; exact h i ho hi
       ·
        exact AX.out j (by omega) hl ho i hi)
      have HBAD := Aside0.mk (show ∀ i : Nat, cons[ci].f1.toList = o.toList → (i : Int) < cons[ci].f3 → ¬ TogP cons m (rpartsL l cons[ci].f0 i) → ¬ TogP cons (m + 1) l from fun i ho hi hn h => hn (HTC.out.1 h _ hmem ho i hi))
      have HROK := Aside0.mk (show ∀ i : Nat, (i : Int) < cons[ci].f3 → rpartsOk l cons[ci].f0 i = true from fun i hi => rparts_ok HG.out (fun x hx => (HP.out.1 x hx).1) hmem hi)
      have hcel := fun (wz : World) (hz : Below W1.heap.size W1 wz) => elem_at (Kd.C_below H0.out (BW.out.trans (hz.mono BW.out.size))) ci hlc
      have HCEL := Aside0.mk hcel
      clear hcel hmem HXX
      obtain ⟨bd, -, e2, -⟩ := HCEL.out wr BX.out
      subst e2
      generalize cons[ci] = cc at har HALL HBAD HROK HCEL HMM
      go_wp2_with fail
      go_loopg [10] 3 (fun gg s10 wr => ∃ i : Nat, (i : Int) ≤ cc.f3 ∧ (cc.f3 - i).toNat ≤ gg ∧ s10 = .int .i64 i ∧ Aside0 (Below W1.heap.size W1 wr) ∧ Aside0 (∀ j : Nat, j < i → TogP cons m (rpartsL l cc.f0 j)))
      case atStart => exact ⟨0, by omega, by omega, rfl, BX, ⟨fun j hj => absurd hj (Nat.not_lt_zero _)⟩⟩
      case round =>
       obtain ⟨i, hia, hg2, rfl, BY, AY⟩ := hrel
       obtain ⟨bd2, cs, e2, -, hKc, hdz, hdj⟩ := HCEL.out wr BY.out
       injection e2 with e2
       subst e2
       obtain rfl := k61_open hKc
       simp only [show k61.sz = 5 from rfl] at hdz hdj
       have z0 := hdz _ rfl
       have z1 := hdj 1 _ (by decide) rfl
       have z3 := hdj 3 _ (by decide) rfl
       clear hdz hdj hKc
       by_cases hi : (i : Int) < cc.f3
       ·
        cases e : (cc.f1.toList == o.toList) with
        | true =>
         have ho : cc.f1.toList = o.toList := by simpa using e
         have hpc := rparts_calls A1 c1 l cc.f0 i wr (Kd.C_below H1.out (BW.out.trans (BY.out.mono BW.out.size))) hlen (by omega) (HROK.out i hi)
         go_wp2_with fail
         refine hpc.mono ?_; rintro e w4 ⟨v4, rfl, hN4, hB4⟩
         clear hpc z0 z1 z3
         obtain ⟨A4, c4, rfl⟩ := Kd.N_slice hN4
         have hN4' := Kd.N_reads' hN4
         have HB4 := Aside0.mk (BY.out.trans (hB4.mono BY.out.size))
         have hih := IH (some bd) c0 A4 c4 (rpartsL l cc.f0 i) w4 (Kd.C_below H0.out (BW.out.trans (HB4.out.mono BW.out.size))) hN4'.2.2 (rparts_pats HP.out cc.f0 i)
         clear hN4 hN4' hB4
         go_wp2_with fail
         refine hih.mono ?_; rintro e w5 ⟨⟨b, rfl, hb⟩, hB5⟩
         clear hih
         have HB5 := Aside0.mk (HB4.out.trans (hB5.mono HB4.out.size))
         have HBB := Aside0.mk hb
         clear hB5 hb
         cases b with
         | false =>
          have HNN := Aside0.mk (HBAD.out i ho hi (fun h => by have := HBB.out.2 h; cases this))
          go_wp2
          go_ret
          exact ⟨⟨false, rfl, fun h => (by cases h), fun h => absurd h HNN.out⟩, BW.out.trans (HB5.out.mono BW.out.size)⟩
         | true =>
          go_wp2
          go_roundg ((cc.f3 - (i + 1 : Nat)).toNat)
          case measure => omega
          case rel =>
           refine ⟨i + 1, by omega, by omega, by go_num, HB5, ⟨fun j hj => ?_⟩⟩
           by_cases e : j = i
           ·
            subst e; first | exact HBB.out.1 rfl | exact HBB.out.1 trivial
           ·
            exact AY.out j (by omega)
        | false =>
         have ho : ¬ cc.f1.toList = o.toList := by simpa using e
         go_wp2
         go_roundg (cons.length - (ci + 1))
         case measure => omega
         case rel => exact ⟨ci + 1, by omega, by omega, by go_num, BY, ⟨HALL.out fun i h _ => absurd h ho⟩⟩
       ·
        go_wp2
        go_roundg (cons.length - (ci + 1))
        case measure => omega
        case rel => exact ⟨ci + 1, by omega, by omega, by go_num, BY, ⟨HALL.out fun j _ hj => AY.out j (by omega)⟩⟩
     ·
      have hlcz : ¬ (ci : Int) < (cons.length : Int) := by omega
      have HT := Aside0.mk (HTC.out.2 fun c hc ho i hi => by
       obtain ⟨j, hj, rfl⟩ := List.mem_iff_getElem.1 hc
       exact AX.out j (by omega) hj ho i hi)
      go_wp2
      go_ret
      exact ⟨.inr ⟨rfl, HT.out⟩, BW.out.trans (BX.out.mono BW.out.size)⟩
   ·
    have h5b : (k == 5) = false := by simpa using h5
    have h5c : (k != 5) = true := by simp [h5]
    have HT := Aside0.mk (togP_flat HP.out HKN.out h5)
    go_wp2
    go_ret
    exact ⟨.inr ⟨rfl, HT.out⟩, BW.out⟩
set_option maxHeartbeats 2000000 in
set_option maxRecDepth 100000 in
theorem rtog_nil (cons : List S61) : RTogAt cons 0 := by
 intro A0 c0 A1 c1 l w h0 h1 hP
 have hl : l = [] := by
  cases l with
  | nil => rfl
  | cons p t => have := (hP.1 p (List.mem_cons_self ..)).2; have := nodes_pos p; omega
 subst hl
 clear h0 h1 hP
 simp only [List.length_nil]
 go_enter Try.func31, Try.ntmps31
 go_wp2_with fail
 go_loopg [5, 6, 7] 0 (fun gg s5 s6 s7 wr => s5 = .int .i64 0 ∧ s6 = .string ⟨#[]⟩ ∧ s7 = .int .i64 0 ∧ Aside0 (Below w.heap.size w wr))
 case atStart => exact ⟨rfl, rfl, rfl, ⟨Below.refl _ _⟩⟩
 case round =>
  obtain ⟨rfl, rfl, rfl, BW⟩ := hrel
  go_wp2
  go_ret
  exact ⟨⟨true, rfl, fun _ => trivial, fun _ => rfl⟩, BW.out⟩
theorem rtog_calls {cons : List S61} (hG : Good cons) : ∀ m, RTogAt cons m
 | 0 => rtog_nil cons
 | m + 1 => fun A0 c0 A1 c1 l w h0 h1 hP => rtog_step hG m (rtog_calls hG m) A0 c0 A1 c1 l w h0 h1 hP
end Go.Proofs.Ytikhkcnbabpneaa.P
/- the reference: Sound -/
namespace Go.Proofs.Ytikhkcnbabpneaa.P
open Go.RowKit Go.Proofs.YtikhkcnbabpneaaW.PrintWords Go.Proofs.YtikhkcnbabpneaaW.PrintLast Go.Proofs.YtikhkcnbabpneaaW.PrintMore
set_option linter.unusedVariables false
set_option linter.unusedSimpArgs false
theorem sound_at {l : List S61} (h : soundB l = true) (i : Nat) (hi : i < l.length) : badCon l i l[i] = false := by
 unfold soundB at h
 rw [List.all_eq_true] at h
 have := h (l[i], i) (by
  rw [List.mem_iff_getElem]
  exact ⟨i, by simpa using hi, by simp⟩)
 simpa using this
def manyOf (l : List S61) (a : ByteArray) : Nat := (l.filter (ofType a)).length
theorem many_step {l : List S61} (a : ByteArray) {j : Nat} (hj : j < l.length) : manyOf (l.take (j + 1)) a = manyOf (l.take j) a + (if ofType a l[j] then 1 else 0) := by
 unfold manyOf
 rw [List.take_succ_eq_append_getElem hj, List.filter_append, List.length_append]
 cases h : ofType a l[j] <;> simp [h]
set_option maxHeartbeats 8000000 in
set_option maxRecDepth 100000 in
theorem rsound_calls (A : Option Addr) (c : Nat) (l : List S61) (w : World) (hr : Kd.C k61 w A l.length l) (hn : l.length ≤ 100000) (hs : soundB l = true) :
 Calls Try.prog 29 #[.slice A l.length c] w fun e w' => e = .returned (.bool true) ∧ Below w.heap.size w w' := by
 have HR := Aside0.mk hr
 have HS := Aside0.mk (fun (i : Nat) (hi : i < l.length) => sound_at hs i hi)
 clear hr hs
 go_enter Try.func29, Try.ntmps29
 go_wp2_with fail
 go_loopg [3] l.length (fun gg s3 wr => ∃ i : Nat, i ≤ l.length ∧ l.length - i ≤ gg ∧ s3 = .int .i64 i ∧ Aside0 (Below w.heap.size w wr))
 case atStart => exact ⟨0, Nat.zero_le _, by omega, rfl, ⟨Below.refl _ _⟩⟩
 case round =>
  obtain ⟨i, hi, hg, rfl, BW⟩ := hrel
  by_cases hlt : i < l.length
  ·
   have hltz : (i : Int) < (l.length : Int) := by omega
   have hiz : (0 : Int) ≤ (i : Int) := by omega
   obtain ⟨ad, cs, e', -, hKc, hdz, hdj⟩ := elem_at (Kd.C_below HR.out BW.out) i hlt
   obtain rfl := k61_open hKc
   subst e'
   simp only [show k61.sz = 5 from rfl] at hdz hdj
   have z0 := hdz _ rfl
   have z1 := hdj 1 _ (by decide) rfl
   have z2 := hdj 2 _ (by decide) rfl
   have z3 := hdj 3 _ (by decide) rfl
   have z4 := hdj 4 _ (by decide) rfl
   have hbd := HS.out i hlt
   clear hdz hdj hKc
   generalize l[i] = x at *
   have HBD := Aside0.mk hbd
   have hw1 := below_1 wr (.cells #[.string x.f0, .string x.f1, .int .i64 x.f2, .int .i64 x.f3, .int .i64 x.f4] 61)
   have hbk := blk_new wr (.cells #[.string x.f0, .string x.f1, .int .i64 x.f2, .int .i64 x.f3, .int .i64 x.f4] 61)
   have HB1 := Aside0.mk (BW.out.trans (hw1.mono BW.out.size))
   clear hbd hw1
   go_wp2_with fail
   generalize wr.alloc (.cells #[.string x.f0, .string x.f1, .int .i64 x.f2, .int .i64 x.f3, .int .i64 x.f4] 61) = W1 at hbk HB1 ⊢
   generalize wr.heap.size = Bx at hbk ⊢
   have HBK := Aside0.mk hbk
   clear hbk z0 z1 z2 z3 z4
   go_loopg [5, 6] l.length (fun gg s5 s6 wr => ∃ j : Nat, j ≤ l.length ∧ l.length - j ≤ gg ∧ s5 = .int .i64 (manyOf (l.take j) x.f1 : Nat) ∧ s6 = .int .i64 j ∧ Aside0 (Below W1.heap.size W1 wr))
   case atStart => exact ⟨0, Nat.zero_le _, by omega, rfl, rfl, ⟨Below.refl _ _⟩⟩
   case round =>
    obtain ⟨j, hj, hg2, rfl, rfl, BX⟩ := hrel
    have hbx := blk_below HBK.out BX.out
    have k0 := blk_cell hbx 0
    have k1 := blk_cell hbx 1
    have k2 := blk_cell hbx 2
    have k3 := blk_cell hbx 3
    have k4 := blk_cell hbx 4
    clear hbx
    by_cases hltj : j < l.length
    ·
     have hjz : (j : Int) < (l.length : Int) := by omega
     have hj0 : (0 : Int) ≤ (j : Int) := by omega
     obtain ⟨bd, cs, e', -, hKc, hdz, hdj⟩ := elem_at (Kd.C_below HR.out (HB1.out.trans (BX.out.mono HB1.out.size))) j hltj
     injection e' with e'
     subst e'
     obtain rfl := k61_open hKc
     simp only [show k61.sz = 5 from rfl] at hdz hdj
     have z0 := hdz _ rfl
     have z1 := hdj 1 _ (by decide) rfl
     have z2 := hdj 2 _ (by decide) rfl
     clear hdz hdj hKc
     have HMS := Aside0.mk (many_step x.f1 hltj)
     have HML := Aside0.mk (show manyOf (l.take j) x.f1 ≤ 100000 from Nat.le_trans (List.length_filter_le _ _) (by rw [List.length_take]; omega))
     have HCL := Aside0.mk (show j < i → clash x l[j] = false from fun h => by
      have hb := HBD.out
      unfold badCon at hb
      simp only [Bool.or_eq_false_iff] at hb
      have h1 := hb.1.1.1.1.1
      rw [List.any_eq_false] at h1
      have := h1 l[j] (List.mem_iff_getElem.2 ⟨j, by rw [List.length_take]; omega, by rw [List.getElem_take]⟩)
      simpa using this)
     have hot : ofType x.f1 l[j] = (l[j].f1.toList == x.f1.toList) := rfl
     have hcl : ∀ y : S61, clash x y = (y.f0.toList == x.f0.toList || (y.f1.toList == x.f1.toList && y.f2 == x.f2)) := fun _ => rfl
     have HCY := Aside0.mk (hcl l[j])
     have HOT := Aside0.mk hot
     clear hcl hot k3 k4
     generalize l[j] = y at *
     cases e1 : (y.f1.toList == x.f1.toList) with
     | true =>
      have HMM := Aside0.mk (show manyOf (l.take (j + 1)) x.f1 = manyOf (l.take j) x.f1 + 1 by rw [HMS.out, HOT.out, e1]; rfl)
      by_cases hji : j < i
      ·
       have hjiz : (j : Int) < (i : Int) := by omega
       have hcf := HCL.out hji
       rw [HCY.out, e1, Bool.true_and] at hcf
       rw [Bool.or_eq_false_iff] at hcf
       obtain ⟨e0, e2⟩ := hcf
       go_wp2_with fail
       go_region
       go_wp2_with fail
       go_region
       go_wp2
       go_roundg (l.length - (j + 1))
       case measure => omega
       case rel => exact ⟨j + 1, by omega, by omega, by have := HML.out; first | (rw [HMM.out, wrap_succ (by omega)]; done) | (rw [HMM.out]; done), by go_num, ⟨below_drew (below_drew BX.out)⟩⟩
      ·
       have hjiz : ¬ (j : Int) < (i : Int) := by omega
       go_wp2_with fail
       go_region
       go_wp2_with fail
       go_region
       go_wp2
       go_roundg (l.length - (j + 1))
       case measure => omega
       case rel => exact ⟨j + 1, by omega, by omega, by have := HML.out; first | (rw [HMM.out, wrap_succ (by omega)]; done) | (rw [HMM.out]; done), by go_num, ⟨below_drew (below_drew BX.out)⟩⟩
     | false =>
      have HMM := Aside0.mk (show manyOf (l.take (j + 1)) x.f1 = manyOf (l.take j) x.f1 by rw [HMS.out, HOT.out, e1]; rfl)
      by_cases hji : j < i
      ·
       have hjiz : (j : Int) < (i : Int) := by omega
       have hcf := HCL.out hji
       rw [HCY.out, Bool.or_eq_false_iff] at hcf
       obtain ⟨e0, -⟩ := hcf
       go_wp2_with fail
       go_region
       go_wp2_with fail
       go_region
       go_wp2
       go_roundg (l.length - (j + 1))
       case measure => omega
       case rel => exact ⟨j + 1, by omega, by omega, by have := HML.out; first | (rw [HMM.out, wrap_succ (by omega)]; done) | (rw [HMM.out]; done), by go_num, ⟨below_drew (below_drew BX.out)⟩⟩
      ·
       have hjiz : ¬ (j : Int) < (i : Int) := by omega
       go_wp2_with fail
       go_region
       go_wp2_with fail
       go_region
       go_wp2
       go_roundg (l.length - (j + 1))
       case measure => omega
       case rel => exact ⟨j + 1, by omega, by omega, by have := HML.out; first | (rw [HMM.out, wrap_succ (by omega)]; done) | (rw [HMM.out]; done), by go_num, ⟨below_drew (below_drew BX.out)⟩⟩
    ·
     have hjz : ¬ (j : Int) < (l.length : Int) := by omega
     have hb := HBD.out
     unfold badCon at hb
     simp only [Bool.or_eq_false_iff, decide_eq_false_iff_not, bne_eq_false_iff_eq] at hb
     obtain ⟨⟨⟨⟨⟨-, b1⟩, b2⟩, b3⟩, b4⟩, b5⟩ := hb
     have hmm : manyOf (l.take j) x.f1 = (l.filter (ofType x.f1)).length := by rw [List.take_of_length_le (by omega)]; rfl
     rw [← hmm] at b1
     have b1b : (x.f4 == ((manyOf (l.take j) x.f1 : Nat) : Int)) = true := by simpa using b1
     have b1c : (x.f4 != ((manyOf (l.take j) x.f1 : Nat) : Int)) = false := by simpa using b1
     have b3' : ¬ ((manyOf (l.take j) x.f1 : Nat) : Int) ≤ x.f2 := by omega
     clear hmm
     go_wp2
     go_roundg (l.length - (i + 1))
     case measure => omega
     case rel => exact ⟨i + 1, by omega, by omega, by go_num, ⟨HB1.out.trans (BX.out.mono HB1.out.size)⟩⟩
  ·
   have hltz : ¬ (i : Int) < (l.length : Int) := by omega
   go_wp2
   go_ret
   exact ⟨rfl, BW.out⟩
end Go.Proofs.Ytikhkcnbabpneaa.P
/- the reference: Size -/
namespace Go.Proofs.Ytikhkcnbabpneaa.P
open Go.RowKit Go.Proofs.YtikhkcnbabpneaaW.PrintWords Go.Proofs.YtikhkcnbabpneaaW.PrintLast Go.Proofs.YtikhkcnbabpneaaW.PrintMore
set_option linter.unusedVariables false
set_option linter.unusedSimpArgs false
def badHead (p : S25) : Bool := decide (p.f4.length ≠ 0) || (p.f0 != 5 && decide (p.f5.length ≠ 0)) || (p.f0 != 1 && p.f2 != 0)
def badText (p : S25) : Bool := !(p.f1.toList == ([] : List UInt8)) && p.f0 != 5 && p.f0 != 4
theorem plain_bad (p : S25) : plainB p.f0 p.f1 p.f2 p.f4 p.f5 = (!badHead p && !badText p) := by
 unfold plainB badHead badText
 have hA : decide (p.f1.toList = []) = (p.f1.toList == ([] : List UInt8)) := by cases h : p.f1.toList <;> simp
 have hB : decide (p.f4.length ≠ 0) = !decide (p.f4.length = 0) := by by_cases h : p.f4.length = 0 <;> simp [h]
 have hD : decide (p.f5.length ≠ 0) = !decide (p.f5.length = 0) := by by_cases h : p.f5.length = 0 <;> simp [h]
 rw [hA, hB, hD]
 simp only [bne]
 cases (p.f1.toList == ([] : List UInt8)) <;> cases decide (p.f4.length = 0) <;> cases decide (p.f5.length = 0) <;> cases (p.f0 == 1) <;> cases (p.f0 == 4) <;> cases (p.f0 == 5) <;> cases (p.f2 == 0) <;> rfl
def oneB (p : S25) : Bool := p.f0 == 24 || p.f0 == 4 || (p.f0 == 1 && decide (0 ≤ p.f2))
theorem one_ok (p : S25) (X : Bool) : (oneB p = true → (if p.f0 = 24 ∨ p.f0 = 4 then true else if p.f0 = 1 then decide (0 ≤ p.f2) else if p.f0 = 5 then X else false) = true) ∧
 (oneB p = false → (if p.f0 = 24 ∨ p.f0 = 4 then true else if p.f0 = 1 then decide (0 ≤ p.f2) else if p.f0 = 5 then X else false) = (p.f0 == 5 && X)) := by
 unfold oneB
 by_cases a : p.f0 = 24
 ·
  simp [a]
 ·
  by_cases b : p.f0 = 4
  ·
   simp [b]
  ·
   by_cases c : p.f0 = 1
   ·
    simp [c]
   ·
    by_cases d : p.f0 = 5
    ·
     simp [d]
    ·
     simp [a, b, c, d]
def badK (cons : List S61) (p : S25) (n : Nat) : Bool := !(p.f0 == 5 && (cons.any (isName p.f1) && decide ((findC cons p.f1).f3 = n)))
def SizeIs (ok : Bool) (m : Nat) (n : Int) : Prop := (n = 0 ↔ ok = false) ∧ 0 ≤ n ∧ n ≤ m
def SizeRet (W : World) (ok : Bool) (m : Nat) (e : Ending) (w' : World) : Prop := (∃ n : Int, e = .returned (.int .i64 n) ∧ SizeIs ok m n) ∧ Below W.heap.size W w'
set_option maxHeartbeats 8000000 in
set_option maxRecDepth 100000 in
theorem rsize_calls {cons : List S61} (hG : Good cons) (A0 : Option Addr) (c0 : Nat) : ∀ p : S25, nodes p ≤ 30 → ∀ (pcs : List Value) (W : World), Kd.C k61 W A0 cons.length cons → k25.K W p pcs →
 Calls Try.prog 30 #[.slice A0 cons.length c0, .agg pcs.toArray] W (SizeRet W (okB cons p) (nodes p)) := by
 refine node_ind fun p ih hnp pcs W h0 hK => ?_
 have hpb := plain_bad p
 have hok := okB_eq cons p
 obtain ⟨A4, c4, A5, c5, rfl, l4, g4, l5, g5⟩ := k25_open hK
 have hw1 := below_1 W (.cells #[.int .i64 p.f0, .string p.f1, .int .i64 p.f2, .int .i64 p.f3, .slice A4 p.f4.length c4, .slice A5 p.f5.length c5] 25)
 have hbk := blk_new W (.cells #[.int .i64 p.f0, .string p.f1, .int .i64 p.f2, .int .i64 p.f3, .slice A4 p.f4.length c4, .slice A5 p.f5.length c5] 25)
 have HW1 := Aside0.mk hw1
 have HK5 := Aside0.mk (Kd.C_below g5 hw1)
 have HC := Aside0.mk (Kd.C_below h0 hw1)
 have HIH := Aside0.mk ih
 have HNP := Aside0.mk hnp
 have HPB := Aside0.mk hpb
 have HOK := Aside0.mk hok
 have k0 := blk_cell hbk 0
 have k1 := blk_cell hbk 1
 have k2 := blk_cell hbk 2
 have k4 := blk_cell hbk 4
 have k5 := blk_cell hbk 5
 have hnp1 := nodes_pos p
 have hbh : badHead p = (decide (p.f4.length ≠ 0) || (p.f0 != 5 && decide (p.f5.length ≠ 0)) || (p.f0 != 1 && p.f2 != 0)) := rfl
 have HBH := Aside0.mk hbh
 have hbt : badText p = (!(p.f1.toList == ([] : List UInt8)) && p.f0 != 5 && p.f0 != 4) := rfl
 have HBT := Aside0.mk hbt
 clear hK g4 g5 h0 ih hw1 hpb hok hbh hbt l4
 generalize hn4 : p.f4.length = n4 at *
 generalize hn5 : p.f5.length = n5 at *
 go_enter Try.func30, Try.ntmps30
 go_upto_region 1 with (fail)
 generalize hW1 : W.alloc (.cells #[.int .i64 p.f0, .string p.f1, .int .i64 p.f2, .int .i64 p.f3, .slice A4 n4 c4, .slice A5 n5 c5] 25) = W1 at *
 go_cut [1, 33] (fun v1 v33 wc => v33 = .bool (badHead p) ∧ W1 = wc)
 case first =>
  clear HW1 HK5 HC HIH HNP HPB HOK HBT
  by_cases h4 : n4 = 0
  ·
   have h4z : ¬ (0 : Int) < (n4 : Int) := by omega
   cases e5 : (p.f0 == 5) with
   | true =>
    have e5c : (p.f0 != 5) = false := by simp [bne, e5]
    cases e1 : (p.f0 == 1) with
    | true =>
     have e1c : (p.f0 != 1) = false := by simp [bne, e1]
     have HB := Aside0.mk (show badHead p = false by rw [HBH.out, e5c, e1c]; simp [h4])
     clear h4
     go_wp2
     go_meet
     exact ⟨by rw [HB.out], rfl⟩
    | false =>
     have e1c : (p.f0 != 1) = true := by simp [bne, e1]
     have HB := Aside0.mk (show badHead p = (p.f2 != 0) by rw [HBH.out, e5c, e1c]; simp [h4])
     clear h4
     go_wp2
     go_meet
     exact ⟨by rw [HB.out], rfl⟩
   | false =>
    have e5c : (p.f0 != 5) = true := by simp [bne, e5]
    by_cases h5 : n5 = 0
    ·
     have h5z : ¬ (0 : Int) < (n5 : Int) := by omega
     cases e1 : (p.f0 == 1) with
     | true =>
      have e1c : (p.f0 != 1) = false := by simp [bne, e1]
      have HB := Aside0.mk (show badHead p = false by rw [HBH.out, e5c, e1c]; simp [h4, h5])
      clear h4 h5
      go_wp2
      go_meet
      exact ⟨by rw [HB.out], rfl⟩
     | false =>
      have e1c : (p.f0 != 1) = true := by simp [bne, e1]
      have HB := Aside0.mk (show badHead p = (p.f2 != 0) by rw [HBH.out, e5c, e1c]; simp [h4, h5])
      clear h4 h5
      go_wp2
      go_meet
      exact ⟨by rw [HB.out], rfl⟩
    ·
     have h5z : (0 : Int) < (n5 : Int) := by omega
     have HB := Aside0.mk (show badHead p = true by rw [HBH.out, e5c]; simp [h5])
     clear h4 h5
     go_wp2
     go_meet
     exact ⟨by rw [HB.out], rfl⟩
  ·
   have h4z : (0 : Int) < (n4 : Int) := by omega
   have HB := Aside0.mk (show badHead p = true by rw [HBH.out]; simp [h4])
   clear h4
   go_wp2
   go_meet
   exact ⟨by rw [HB.out], rfl⟩
 case rest =>
  obtain ⟨rfl, rfl⟩ := hcut
  have HK0 := Aside0.mk (And.intro k4 k5)
  clear k4 k5
  cases hb : badHead p with
  | true =>
   have HB := Aside0.mk (show okB cons p = false by rw [HOK.out, HPB.out, hb]; rfl)
   clear hb
   go_wp2
   go_ret
   exact ⟨⟨0, rfl, by rw [HB.out]; exact ⟨by simp, by omega, by omega⟩⟩, HW1.out⟩
  | false =>
   have HBF := Aside0.mk hb
   clear hb
   go_upto_region 3 with (fail)
   go_cut [46] (fun v46 wc => v46 = .bool (badText p) ∧ W1 = wc)
   case first =>
    clear HW1 HK5 HC HIH HNP HPB HOK HBH
    cases et : (p.f1.toList == ([] : List UInt8)) with
    | true =>
     have HB := Aside0.mk (show badText p = false by rw [HBT.out, et]; rfl)
     go_wp2
     go_meet
     exact ⟨by rw [HB.out], rfl⟩
    | false =>
     cases e5 : (p.f0 == 5) with
     | true =>
      have e5c : (p.f0 != 5) = false := by simp [bne, e5]
      have HB := Aside0.mk (show badText p = false by rw [HBT.out, et, e5c]; rfl)
      go_wp2
      go_meet
      exact ⟨by rw [HB.out], rfl⟩
     | false =>
      have e5c : (p.f0 != 5) = true := by simp [bne, e5]
      have HB := Aside0.mk (show badText p = (p.f0 != 4) by rw [HBT.out, et, e5c]; rfl)
      go_wp2
      go_meet
      exact ⟨by rw [HB.out], rfl⟩
   case rest =>
    obtain ⟨rfl, rfl⟩ := hcut
    cases hb : badText p with
    | true =>
     have HB := Aside0.mk (show okB cons p = false by rw [HOK.out, HPB.out, HBF.out, hb]; rfl)
     clear hb
     go_wp2
     go_ret
     exact ⟨⟨0, rfl, by rw [HB.out]; exact ⟨by simp, by omega, by omega⟩⟩, HW1.out⟩
    | false =>
     have HBT2 := Aside0.mk hb
     clear hb
     go_upto_region 5 with (fail)
     go_cut [64] (fun v64 wc => v64 = .bool (oneB p) ∧ W1 = wc)
     case first =>
      clear HW1 HK5 HC HIH HNP HPB HOK HBH HBT
      have hob : oneB p = (p.f0 == 24 || p.f0 == 4 || (p.f0 == 1 && decide (0 ≤ p.f2))) := rfl
      have HOB := Aside0.mk hob
      clear hob
      cases e24 : (p.f0 == 24) with
      | true =>
       have HB := Aside0.mk (show oneB p = true by rw [HOB.out, e24]; rfl)
       go_wp2
       go_meet
       exact ⟨by rw [HB.out], rfl⟩
      | false =>
       cases e4 : (p.f0 == 4) with
       | true =>
        have HB := Aside0.mk (show oneB p = true by rw [HOB.out, e24, e4]; rfl)
        go_wp2
        go_meet
        exact ⟨by rw [HB.out], rfl⟩
       | false =>
        cases e1 : (p.f0 == 1) with
        | false =>
         have HB := Aside0.mk (show oneB p = false by rw [HOB.out, e24, e4, e1]; rfl)
         go_wp2
         go_meet
         exact ⟨by rw [HB.out], rfl⟩
        | true =>
         have HB := Aside0.mk (show oneB p = decide (0 ≤ p.f2) by rw [HOB.out, e24, e4, e1]; rfl)
         go_wp2
         go_meet
         exact ⟨by rw [HB.out], rfl⟩
     case rest =>
      obtain ⟨rfl, rfl⟩ := hcut
      have hone := one_ok p (cons.any (isName p.f1) && decide ((findC cons p.f1).f3 = n5) && okL cons p.f5)
      have HONE := Aside0.mk hone
      clear hone
      cases hb : oneB p with
      | true =>
       have HB := Aside0.mk (show okB cons p = true by rw [HOK.out, HPB.out, HBF.out, HBT2.out, HONE.out.1 hb]; rfl)
       clear hb
       go_wp2
       go_ret
       exact ⟨⟨1, rfl, by rw [HB.out]; exact ⟨by simp, by omega, by omega⟩⟩, HW1.out⟩
      | false =>
       have HO := Aside0.mk (show okB cons p = (p.f0 == 5 && (cons.any (isName p.f1) && decide ((findC cons p.f1).f3 = n5) && okL cons p.f5)) by rw [HOK.out, HPB.out, HBF.out, HBT2.out, HONE.out.2 hb]; rfl)
       clear hb HOK HPB HBF HBT2 HONE HBH HBT
       have hfc := rfind_calls A0 c0 cons p.f1 W1 HC.out
       go_wp2_with fail
       refine hfc.mono ?_; rintro e w2 ⟨⟨f, rfl, hf⟩, hB2⟩
       clear hfc
       replace k0 := pw_cell_below hB2 k0
       have k5 := pw_cell_below hB2 HK0.out.2
       replace hbk := blk_below hbk hB2
       replace HC := Aside0.mk (Kd.C_below HC.out hB2)
       replace HK5 := Aside0.mk (Kd.C_below HK5.out hB2)
       have HW2 := Aside0.mk (HW1.out.trans (hB2.mono HW1.out.size))
       have HBK := Aside0.mk hbk
       have HF := Aside0.mk hf
       clear hB2 hf hbk k1 k2 HW1 hW1 HK0
       go_upto_region 8 with (fail)
       go_cut [86] (fun v86 wc => v86 = .bool (badK cons p n5) ∧ Aside0 (Below w2.heap.size w2 wc))
       case first =>
        clear HIH HNP HO HK5 HW2
        have hbk : badK cons p n5 = !(p.f0 == 5 && (cons.any (isName p.f1) && decide ((findC cons p.f1).f3 = n5))) := rfl
        have HB0 := Aside0.mk hbk
        clear hbk
        cases e5 : (p.f0 == 5) with
        | false =>
         have e5c : (p.f0 != 5) = true := by simp [bne, e5]
         have HB := Aside0.mk (show badK cons p n5 = true by rw [HB0.out, e5]; rfl)
         go_quiet (fail)
         go_wp2
         go_meet
         exact ⟨by rw [HB.out], ⟨pw_below_drewN (Below.refl _ _) _⟩⟩
        | true =>
         have e5c : (p.f0 != 5) = false := by simp [bne, e5]
         rcases HF.out with ⟨ha, rfl⟩ | ⟨ha, f0, f1, fg⟩
         ·
          have HB := Aside0.mk (show badK cons p n5 = true by rw [HB0.out, e5, ha]; rfl)
          clear ha HF
          go_quiet (fail)
          go_wp2
          go_meet
          exact ⟨by rw [HB.out], ⟨pw_below_drewN (Below.refl _ _) _⟩⟩
         ·
          obtain ⟨fi, rfl⟩ : ∃ fi : Nat, f = fi := ⟨f.toNat, by omega⟩
          have hfl : fi < cons.length := by omega
          obtain ⟨ad, cs, e', hcl', hKq, hcz, hcj⟩ := elem_at HC.out fi hfl
          obtain rfl := k61_open hKq
          subst e'
          rw [Int.toNat_natCast, List.getElem?_eq_getElem hfl] at fg
          have fg' := Option.some.inj fg
          rw [fg'] at hcz hcj
          simp only [show k61.sz = 5 from rfl] at hcz hcj
          have y3 := hcj 3 _ (by decide) rfl
          have hnz : ¬ (fi : Int) < 0 := by omega
          have HB := Aside0.mk (show badK cons p n5 = ((findC cons p.f1).f3 != (n5 : Int)) by
           rw [HB0.out, e5, ha]
           by_cases e : (findC cons p.f1).f3 = (n5 : Int) <;> simp [e])
          clear hcl' hKq hcz hcj fg fg' ha HF HB0
          generalize (findC cons p.f1).f3 = ar at *
          go_quiet (fail)
          go_wp2
          go_meet
          exact ⟨by rw [HB.out], ⟨pw_below_drewN (Below.refl _ _) _⟩⟩
       case rest =>
        obtain ⟨rfl, HB3⟩ := hcut
        have hbk : badK cons p n5 = !(p.f0 == 5 && (cons.any (isName p.f1) && decide ((findC cons p.f1).f3 = n5))) := rfl
        have HB0 := Aside0.mk hbk
        clear hbk
        cases hb : badK cons p n5 with
        | true =>
         have HB := Aside0.mk (show okB cons p = false by
          have h := HB0.out
          rw [hb] at h
          rw [HO.out, ← Bool.and_assoc, ← Bool.and_assoc]
          have h2 : (p.f0 == 5 && (cons.any (isName p.f1) && decide ((findC cons p.f1).f3 = n5))) = false := by
           cases hX : (p.f0 == 5 && (cons.any (isName p.f1) && decide ((findC cons p.f1).f3 = n5))) with
           | false => rfl
           | true => rw [hX] at h; cases h
          rw [Bool.and_assoc (p.f0 == 5), h2]; rfl)
         clear hb
         go_wp2
         go_ret
         exact ⟨⟨0, rfl, by rw [HB.out]; exact ⟨by simp, by omega, by omega⟩⟩, HW2.out.trans (HB3.out.mono HW2.out.size)⟩
        | false =>
         have HB := Aside0.mk (show okB cons p = okL cons p.f5 by
          have h := HB0.out
          rw [hb] at h
          have h2 : (p.f0 == 5 && (cons.any (isName p.f1) && decide ((findC cons p.f1).f3 = n5))) = true := by
           cases hX : (p.f0 == 5 && (cons.any (isName p.f1) && decide ((findC cons p.f1).f3 = n5))) with
           | true => rfl
           | false => rw [hX] at h; cases h
          rw [HO.out, ← Bool.and_assoc, h2]; rfl)
         clear hb HO HB0 HF k0 k5
         have HN5 := Aside0.mk hn5
         have HND := Aside0.mk (nodes_eq p)
         have h530 : n5 ≤ 30 := by have := length_nodes p.f5; have := HND.out; omega
         clear hn5 hn4
         go_wp2_with fail
         go_loopg [6, 7, 8] n5 (fun gg s6 s7 s8 wr => ∃ (i acc : Nat), i ≤ n5 ∧ n5 - i ≤ gg ∧ s6 = .int .i64 acc ∧ s7 = .int .i64 i ∧ 1 ≤ acc ∧ acc ≤ 30 ∧ Aside0 (Below w2.heap.size w2 wr) ∧ Aside0 (okB cons p = okL cons (p.f5.drop i) ∧ acc + nodesL (p.f5.drop i) ≤ nodes p))
         case atStart => exact ⟨0, 1, Nat.zero_le _, by omega, rfl, rfl, by omega, by omega, HB3, ⟨HB.out, by rw [List.drop_zero]; exact Nat.le_of_eq HND.out.symm⟩⟩
         case round =>
          obtain ⟨i, acc, hi, hg, rfl, rfl, hac, hac2, BW, AA⟩ := hrel
          have k5 := blk_cell (blk_below HBK.out BW.out) 5
          by_cases hlt : i < n5
          ·
           have hltz : (i : Int) < (n5 : Int) := by omega
           have hiz : (0 : Int) ≤ (i : Int) := by omega
           have hi5 : i < p.f5.length := by rw [HN5.out]; exact hlt
           have HK := Aside0.mk (Kd.C_below HK5.out BW.out)
           obtain ⟨ad, cs, e', hcl, hKq, hcz, hcj⟩ := elem_at HK.out i hi5
           subst e'
           have hd := AA.out
           rw [List.drop_eq_getElem_cons hi5, okL_cons, nodesL_cons] at hd
           have hih := HIH.out p.f5[i] (List.getElem_mem _) (by have := HNP.out; omega) _ wr (Kd.C_below HC.out BW.out) hKq
           have HNQ := Aside0.mk (show nodes p.f5[i] ≤ 30 by have := HNP.out; omega)
           generalize p.f5[i] = q at hih hd hKq hcz hcj HNQ
           have HD := Aside0.mk hd
           obtain ⟨C4, x4, C5, x5, rfl, -, -, -, -⟩ := k25_open hKq
           simp only [show k25.sz = 6 from rfl] at hcz hcj
           have y0 := hcz _ rfl
           have y1 := hcj 1 _ (by decide) rfl
           have y2 := hcj 2 _ (by decide) rfl
           have y3 := hcj 3 _ (by decide) rfl
           have y4 := hcj 4 _ (by decide) rfl
           have y5 := hcj 5 _ (by decide) rfl
           generalize q.f4.length = m4 at hih y4
           generalize q.f5.length = m5 at hih y5
           clear hcl hKq hcz hcj AA hd HK
           go_wp2_with fail
           refine hih.mono ?_; rintro e w4 ⟨⟨m, rfl, hm⟩, hB4⟩
           have HB4 := Aside0.mk (BW.out.trans (hB4.mono BW.out.size))
           have hm2 := hm.2
           have hmn := HNP.out
           have hdn := HD.out.2
           have HM := Aside0.mk hm.1
           have hmq := HNQ.out
           clear hB4 hih hm k5 y0 y1 y2 y3 y4 y5
           obtain ⟨mn, rfl⟩ : ∃ mn : Nat, m = mn := ⟨m.toNat, by omega⟩
           by_cases hz : mn = 0
           ·
            have HZ := Aside0.mk (show okB cons p = false by rw [HD.out.1, HM.out.1 (by omega)]; rfl)
            subst hz
            go_wp2
            go_ret
            exact ⟨⟨0, rfl, by rw [HZ.out]; exact ⟨by simp, by omega, by omega⟩⟩, HW2.out.trans (HB4.out.mono HW2.out.size)⟩
           ·
            have hzb : ((mn : Int) == 0) = false := by simp; omega
            have hgt : ¬ (30 : Int) < (acc : Int) + (mn : Int) := by omega
            have HQ := Aside0.mk (show okB cons q = true by
             cases h : okB cons q with
             | true => rfl
             | false => exact absurd (HM.out.2 h) (by omega))
            have HN := Aside0.mk (And.intro HD.out.1 HD.out.2)
            clear hz HM hmn
            go_wp2
            go_roundg (n5 - (i + 1))
            case measure => omega
            case rel => exact ⟨i + 1, acc + mn, by omega, by omega, by go_num, by go_num, by omega, by omega, HB4, ⟨by rw [HN.out.1, HQ.out, Bool.true_and], by have := HN.out.2; omega⟩⟩
          ·
           have hltz : ¬ (i : Int) < (n5 : Int) := by omega
           have HZ := Aside0.mk (show okB cons p = true by
            rw [AA.out.1, List.drop_of_length_le (by rw [HN5.out]; omega)]; simp [okL])
           have HA := Aside0.mk (show acc ≤ nodes p by have := AA.out.2; omega)
           go_wp2
           go_ret
           exact ⟨⟨acc, rfl, by rw [HZ.out]; exact ⟨⟨fun h => by omega, fun h => by cases h⟩, by omega, by have := HA.out; omega⟩⟩, HW2.out.trans (BW.out.mono HW2.out.size)⟩
end Go.Proofs.Ytikhkcnbabpneaa.P
-- Laid by this session's program wip/printx.py over the kit's print.py; functions that it does not take are walked by hand.
namespace Go.Proofs.Ytikhkcnbabpneaa.P
open Go.RowKit Go.Proofs.YtikhkcnbabpneaaW.PrintWords Go.Proofs.YtikhkcnbabpneaaW.PrintLast Go.Proofs.YtikhkcnbabpneaaW.PrintMore
attribute [local go_sem] max2_int min2_int max_two min_two max_three min_three max_four min_four   -- for this text's walks alone
set_option linter.unusedVariables false
set_option linter.unusedSimpArgs false
def selvageref09_parts.l0 : Nat → List (S25) → ByteArray → Int → List (S25) → Int → Option ((List (S25)))
 | 0, _, _, _, _, _ => none
 | k + 1, x0, x1, x2, x7, x8 => if x8 < (x0.length : Int) then (if 0 ≤ x8 then (if ((rd_T25 x0 x8).f0) = 5 then (if ((rd_T25 x0 x8).f1).toList = x1.toList then (if 0 ≤ x2 then (if x2 < (((rd_T25 x0 x8).f5).length : Int) then (if x7.length < 1599289640401 then (selvageref09_parts.l0 k x0 x1 x2 (x7 ++ [(⟨(rd_T25 ((rd_T25 x0 x8).f5) x2).f0, (rd_T25 ((rd_T25 x0 x8).f5) x2).f1, (rd_T25 ((rd_T25 x0 x8).f5) x2).f2, (rd_T25 ((rd_T25 x0 x8).f5) x2).f3, (rd_T25 ((rd_T25 x0 x8).f5) x2).f4, (rd_T25 ((rd_T25 x0 x8).f5) x2).f5⟩ : S25)]) (wrap64 (x8 + 1))) else (none)) else (none)) else (none)) else (selvageref09_parts.l0 k x0 x1 x2 x7 (wrap64 (x8 + 1)))) else (selvageref09_parts.l0 k x0 x1 x2 x7 (wrap64 (x8 + 1)))) else (none)) else (some x7)
def selvageref09_parts.f (k : Nat) (l0 : List (S25)) (a1 : ByteArray) (a2 : Int) : Option ((List (S25))) := selvageref09_parts.l0 k l0 a1 a2 ([] : List (S25)) 0
theorem selvageref09_parts.mono_l : ∀ k, (∀ y0 y1 y2 y3 y4, LeO (selvageref09_parts.l0 k y0 y1 y2 y3 y4) (selvageref09_parts.l0 (k + 1) y0 y1 y2 y3 y4))
 | 0 => fun _ _ _ _ _ r h => by simp [selvageref09_parts.l0] at h
 | k + 1 => by
  have ih0 := selvageref09_parts.mono_l k
  ·
   intro y0 y1 y2 y3 y4
   unfold selvageref09_parts.l0
   repeat' first
   | (with_reducible exact ih0 _ _ _ _ _)
   | (with_reducible exact LeO.refl _)
   | (with_reducible exact LeO.none _)
   | (with_reducible refine LeO.ite ?_ ?_)
   | (with_reducible refine LeO.bind ?_ (fun _ => ?_))
   | exact ih0 _ _ _ _ _
   | exact LeO.none _
   | refine LeO.ite ?_ ?_
   | refine LeO.bind ?_ (fun _ => ?_)
theorem selvageref09_parts.mono : ∀ a0 a1 a2 k, LeO (selvageref09_parts.f k a0 a1 a2) (selvageref09_parts.f (k + 1) a0 a1 a2) := by
 intro a0 a1 a2 k
 have ih0 := selvageref09_parts.mono_l k
 unfold selvageref09_parts.f
 repeat' first
  | (with_reducible exact ih0 _ _ _ _ _)
  | (with_reducible exact LeO.refl _)
  | (with_reducible exact LeO.none _)
  | (with_reducible refine LeO.ite ?_ ?_)
  | (with_reducible refine LeO.bind ?_ (fun _ => ?_))
  | exact ih0 _ _ _ _ _
  | exact LeO.none _
  | refine LeO.ite ?_ ?_
  | refine LeO.bind ?_ (fun _ => ?_)
set_option maxHeartbeats 8000000 in
set_option maxRecDepth 100000 in
theorem selvageref09_parts.calls (k : Nat) (P0_ : Nat → Prop) (A0 : Option Addr) (c0 : Nat) (l0 : List (S25)) (a1 : ByteArray) (a2 : Int) (r : List (S25)) (w : World) (hs0 : Kd.V k25 25 w w.heap.size (fun k_ => P0_ k_) (.slice A0 l0.length c0) l0) (h : selvageref09_parts.f k l0 a1 a2 = some r) :
 Calls Try.prog 33 #[.slice A0 l0.length c0, .string a1, .int .i64 a2] w fun e w' => ∃ v0_ : Value, e = .returned (v0_) ∧ Kd.N k25 25 w' w.heap.size (fun k_ => (P0_ k_ ∨ w.heap.size ≤ k_)) v0_ r ∧ Below w.heap.size w w' := by
 have hu25 := Try.underlying25
 have HO0 := Aside0.mk (show Kd.V k25 25 w w.heap.size (fun k_ => (P0_ k_ ∨ w.heap.size ≤ k_)) (.slice A0 l0.length c0) l0 from Kd.V_mono hs0 (fun k_ hk => .inl hk))
 have HB := Aside0.mk (Below.refl w.heap.size w)
 have H : (selvageref09_parts.l0 k l0 a1 a2 ([] : List (S25)) 0) = some r := h
 clear h
 have H' := Aside0.mk H
 clear H
 go_enter Try.func33, Try.ntmps33
 go_wp2
 go_loopg [7, 8] k (fun kq v7 v8 w' => ∃ (x7_1 : List (S25)) (x8_1 : Int), v8 = .int .i64 x8_1 ∧ Aside0 (selvageref09_parts.l0 kq l0 a1 a2 x7_1 x8_1 = some r) ∧ Aside0 (kq ≤ k) ∧ Aside0 (Kd.V k25 25 w' w.heap.size (fun k_ => (P0_ k_ ∨ w.heap.size ≤ k_) ∧ some k_ ≠ (v7 : Value).ownBlock) (.slice A0 l0.length c0) l0) ∧ Aside0 (Kd.N k25 25 w' w.heap.size (fun k_ => (P0_ k_ ∨ w.heap.size ≤ k_)) v7 x7_1) ∧ Aside0 (Below w.heap.size w w'))
 case atStart => exact ⟨(([] : List (S25))), (0), (by first | rfl | (simp; done) | (simp [*]; done)), H', ⟨Nat.le_refl _⟩, ⟨by (with_reducible repeat (first | apply Kd.V_alloc | apply Kd.V_drewN | apply Kd.V_drew)); exact Kd.V_mono HO0.out (fun _ hk => ⟨hk, (by simp [Value.ownBlock])⟩)⟩, ⟨by first | exact Kd.R_nil _ _ _ _ _ | exact Kd.N_nil _ _ _ _ _ | exact Kd.V_nil _ _ _ _ _ | exact Kd.Q_nil _ _ _ _ _ | exact Kd.S_nil _ _ _ _ _⟩, ⟨by repeat ((with_reducible first | exact HB.out | apply below_alloc | apply pw_below_drewN | apply below_drew1))⟩⟩
 case round =>
  clear H'
  try clear p2
  try clear c3
  obtain ⟨x7_1, x8_1, rfl, HA, HK1, HO_0, HO_7, HB⟩ := hrel
  cases gk with
  | zero => exact absurd HA.out (by simp [selvageref09_parts.l0])
  | succ k1 =>
   have H := HA.out
   clear HA
   simp only [selvageref09_parts.l0] at H
   by_cases c4 : x8_1 < (l0.length : Int)
   ·
    rw [if_pos c4] at H
    have c4b0 : decide (x8_1 < (l0.length : Int)) = true := decide_eq_true c4
    clear c4
    by_cases c5 : 0 ≤ x8_1
    ·
     rw [if_pos c5] at H
     have c5b0 : decide (0 ≤ x8_1) = true := decide_eq_true c5
     clear c5
     by_cases c6 : ((rd_T25 l0 x8_1).f0) = 5
     ·
      rw [if_pos c6] at H
      have c6b0 : (((rd_T25 l0 x8_1).f0) == 5) = true := beq_iff_eq.mpr c6
      have c6b1 : (((rd_T25 l0 x8_1).f0) != 5) = false := bne_eq_false_iff_eq.mpr c6
      clear c6
      by_cases c7 : ((rd_T25 l0 x8_1).f1).toList = a1.toList
      ·
       rw [if_pos c7] at H
       have c7b0 : (((rd_T25 l0 x8_1).f1).toList == a1.toList) = true := beq_iff_eq.mpr c7
       have c7b1 : (((rd_T25 l0 x8_1).f1).toList != a1.toList) = false := bne_eq_false_iff_eq.mpr c7
       clear c7
       by_cases c8 : 0 ≤ a2
       ·
        rw [if_pos c8] at H
        have c8b0 : decide (0 ≤ a2) = true := decide_eq_true c8
        clear c8
        by_cases c9 : a2 < (((rd_T25 l0 x8_1).f5).length : Int)
        ·
         rw [if_pos c9] at H
         have c9b0 : decide (a2 < (((rd_T25 l0 x8_1).f5).length : Int)) = true := decide_eq_true c9
         clear c9
         by_cases c10 : x7_1.length < 1599289640401
         ·
          rw [if_pos c10] at H
          have LMc10 := Aside0.mk c10
          clear c10
          obtain ⟨y271, hy271⟩ : ∃ y_ : List (S25), y_ = (x7_1 ++ [(⟨(rd_T25 ((rd_T25 l0 x8_1).f5) a2).f0, (rd_T25 ((rd_T25 l0 x8_1).f5) a2).f1, (rd_T25 ((rd_T25 l0 x8_1).f5) a2).f2, (rd_T25 ((rd_T25 l0 x8_1).f5) a2).f3, (rd_T25 ((rd_T25 l0 x8_1).f5) a2).f4, (rd_T25 ((rd_T25 l0 x8_1).f5) a2).f5⟩ : S25)]) := ⟨_, rfl⟩
          replace H : (selvageref09_parts.l0 k1 l0 a1 a2 y271 (wrap64 (x8_1 + 1))) = some r := by first | (rw [hy271]; with_reducible exact H) | (have H2_ := (Option.bind_some _ _).symm.trans H; rw [hy271]; with_reducible exact H2_) | (have H2_ := (Option.bind_some _ _).symm.trans H; with_reducible exact H2_) | with_reducible exact H | (rw [hy271]; exact H) | exact H
          have Ny271 := Aside0.mk hy271
          clear hy271
          have H' := Aside0.mk H
          clear H
          have p267 : 0 ≤ (x8_1 : Int) := of_decide_eq_true (by first | (with_reducible assumption) | assumption)
          have q267 : x8_1 < (l0.length : Int) := of_decide_eq_true (by first | (with_reducible assumption) | assumption)
          obtain ⟨ad267, A267_4, c267_4, A267_5, c267_5, e267, hx267_0, hx267_1, hx267_2, hx267_3, hx267_4, hx267_5, hl267_4, hi267_4, hl267_5, hi267_5⟩ := at_T25 (Kd.V_reads' HO_0.out).2.2 x8_1 p267 q267
          cases e267
          obtain ⟨ce267, hce267, hMe267, hcc267⟩ := Kd.V_get HO_0.out z25 x8_1 p267 (by first | exact q267 | exact of_decide_eq_true (by first | (with_reducible assumption) | assumption) | (have e_ := (Kd.V_reads' HO_0.out).1; omega))
          obtain ⟨ua267_4, uc267_4, ua267_5, uc267_5, rfl, ul267_4, ge267_4, ul267_5, ge267_5⟩ := k25_openF hMe267
          have hv267_4 := hcc267 4 _ rfl
          rw [add_field _ _ 4 (by omega)] at hv267_4
          replace hv267_4 := Option.some.inj (hv267_4.symm.trans hx267_4)
          injection hv267_4 with hva_ hvn_ hvc_
          rw [hva_] at ge267_4
          rw [hvc_] at ul267_4
          have HL267_4 := Aside0.mk (show Kd.V Kd.string 9 _ w.heap.size _ _ ((rd_T25 l0 x8_1).f4) from Kd.V_mk ul267_4 ge267_4)
          clear hva_ hvn_ hvc_ ge267_4 ul267_4
          have hv267_5 := hcc267 5 _ rfl
          rw [add_field _ _ 5 (by omega)] at hv267_5
          replace hv267_5 := Option.some.inj (hv267_5.symm.trans hx267_5)
          injection hv267_5 with hva_ hvn_ hvc_
          rw [hva_] at ge267_5
          rw [hvc_] at ul267_5
          have HL267_5 := Aside0.mk (show Kd.V k25 25 _ w.heap.size _ _ ((rd_T25 l0 x8_1).f5) from Kd.V_mk ul267_5 ge267_5)
          clear hva_ hvn_ hvc_ ge267_5 ul267_5
          clear hcc267 hce267
          have HR267_4 := Aside0.mk hi267_4
          have HC267_4 := Aside0.mk hl267_4
          clear hi267_4 hl267_4
          have HR267_5 := Aside0.mk hi267_5
          have HC267_5 := Aside0.mk hl267_5
          clear hi267_5 hl267_5
          replace p267 := eq_true p267
          replace q267 := eq_true q267
          have p268 : 0 ≤ (x8_1 : Int) := of_decide_eq_true (by first | (with_reducible assumption) | assumption)
          have q268 : x8_1 < (l0.length : Int) := of_decide_eq_true (by first | (with_reducible assumption) | assumption)
          obtain ⟨ad268, A268_4, c268_4, A268_5, c268_5, e268, hx268_0, hx268_1, hx268_2, hx268_3, hx268_4, hx268_5, hl268_4, hi268_4, hl268_5, hi268_5⟩ := at_T25 (Kd.V_reads' HO_0.out).2.2 x8_1 p268 q268
          obtain rfl : ad267 = ad268 := (by injection e268)
          obtain ⟨ce268, hce268, hMe268, hcc268⟩ := Kd.V_get HO_0.out z25 x8_1 p268 (by first | exact q268 | exact of_decide_eq_true (by first | (with_reducible assumption) | assumption) | (have e_ := (Kd.V_reads' HO_0.out).1; omega))
          obtain ⟨ua268_4, uc268_4, ua268_5, uc268_5, rfl, ul268_4, ge268_4, ul268_5, ge268_5⟩ := k25_openF hMe268
          have hv268_4 := hcc268 4 _ rfl
          rw [add_field _ _ 4 (by omega)] at hv268_4
          replace hv268_4 := Option.some.inj (hv268_4.symm.trans hx268_4)
          injection hv268_4 with hva_ hvn_ hvc_
          rw [hva_] at ge268_4
          rw [hvc_] at ul268_4
          have HL268_4 := Aside0.mk (show Kd.V Kd.string 9 _ w.heap.size _ _ ((rd_T25 l0 x8_1).f4) from Kd.V_mk ul268_4 ge268_4)
          clear hva_ hvn_ hvc_ ge268_4 ul268_4
          have hv268_5 := hcc268 5 _ rfl
          rw [add_field _ _ 5 (by omega)] at hv268_5
          replace hv268_5 := Option.some.inj (hv268_5.symm.trans hx268_5)
          injection hv268_5 with hva_ hvn_ hvc_
          rw [hva_] at ge268_5
          rw [hvc_] at ul268_5
          have HL268_5 := Aside0.mk (show Kd.V k25 25 _ w.heap.size _ _ ((rd_T25 l0 x8_1).f5) from Kd.V_mk ul268_5 ge268_5)
          clear hva_ hvn_ hvc_ ge268_5 ul268_5
          clear hcc268 hce268
          have HR268_4 := Aside0.mk hi268_4
          have HC268_4 := Aside0.mk hl268_4
          clear hi268_4 hl268_4
          have HR268_5 := Aside0.mk hi268_5
          have HC268_5 := Aside0.mk hl268_5
          clear hi268_5 hl268_5
          replace p268 := eq_true p268
          replace q268 := eq_true q268
          have ea_ := Option.some.inj (hx267_4.symm.trans hx268_4)
          injection ea_ with ea_ en_ ec_
          subst ea_
          subst ec_
          clear en_
          have ea_ := Option.some.inj (hx267_5.symm.trans hx268_5)
          injection ea_ with ea_ en_ ec_
          subst ea_
          subst ec_
          clear en_
          have p269 : 0 ≤ (x8_1 : Int) := of_decide_eq_true (by first | (with_reducible assumption) | assumption)
          have q269 : x8_1 < (l0.length : Int) := of_decide_eq_true (by first | (with_reducible assumption) | assumption)
          obtain ⟨ad269, A269_4, c269_4, A269_5, c269_5, e269, hx269_0, hx269_1, hx269_2, hx269_3, hx269_4, hx269_5, hl269_4, hi269_4, hl269_5, hi269_5⟩ := at_T25 (Kd.V_reads' HO_0.out).2.2 x8_1 p269 q269
          obtain rfl : ad267 = ad269 := (by injection e269)
          obtain ⟨ce269, hce269, hMe269, hcc269⟩ := Kd.V_get HO_0.out z25 x8_1 p269 (by first | exact q269 | exact of_decide_eq_true (by first | (with_reducible assumption) | assumption) | (have e_ := (Kd.V_reads' HO_0.out).1; omega))
          obtain ⟨ua269_4, uc269_4, ua269_5, uc269_5, rfl, ul269_4, ge269_4, ul269_5, ge269_5⟩ := k25_openF hMe269
          have hv269_4 := hcc269 4 _ rfl
          rw [add_field _ _ 4 (by omega)] at hv269_4
          replace hv269_4 := Option.some.inj (hv269_4.symm.trans hx269_4)
          injection hv269_4 with hva_ hvn_ hvc_
          rw [hva_] at ge269_4
          rw [hvc_] at ul269_4
          have HL269_4 := Aside0.mk (show Kd.V Kd.string 9 _ w.heap.size _ _ ((rd_T25 l0 x8_1).f4) from Kd.V_mk ul269_4 ge269_4)
          clear hva_ hvn_ hvc_ ge269_4 ul269_4
          have hv269_5 := hcc269 5 _ rfl
          rw [add_field _ _ 5 (by omega)] at hv269_5
          replace hv269_5 := Option.some.inj (hv269_5.symm.trans hx269_5)
          injection hv269_5 with hva_ hvn_ hvc_
          rw [hva_] at ge269_5
          rw [hvc_] at ul269_5
          have HL269_5 := Aside0.mk (show Kd.V k25 25 _ w.heap.size _ _ ((rd_T25 l0 x8_1).f5) from Kd.V_mk ul269_5 ge269_5)
          clear hva_ hvn_ hvc_ ge269_5 ul269_5
          clear hcc269 hce269
          have HR269_4 := Aside0.mk hi269_4
          have HC269_4 := Aside0.mk hl269_4
          clear hi269_4 hl269_4
          have HR269_5 := Aside0.mk hi269_5
          have HC269_5 := Aside0.mk hl269_5
          clear hi269_5 hl269_5
          replace p269 := eq_true p269
          replace q269 := eq_true q269
          have ea_ := Option.some.inj (hx267_4.symm.trans hx269_4)
          injection ea_ with ea_ en_ ec_
          subst ea_
          subst ec_
          clear en_
          have ea_ := Option.some.inj (hx267_5.symm.trans hx269_5)
          injection ea_ with ea_ en_ ec_
          subst ea_
          subst ec_
          clear en_
          have p270 : 0 ≤ (a2 : Int) := of_decide_eq_true (by first | (with_reducible assumption) | assumption)
          have q270 : a2 < (((rd_T25 l0 x8_1).f5).length : Int) := of_decide_eq_true (by first | (with_reducible assumption) | assumption)
          obtain ⟨ad270, A270_4, c270_4, A270_5, c270_5, e270, hx270_0, hx270_1, hx270_2, hx270_3, hx270_4, hx270_5, hl270_4, hi270_4, hl270_5, hi270_5⟩ := at_T25 (by repeat ((with_reducible exact HR269_5.out))) a2 p270 q270
          cases e270
          obtain ⟨ce270, hce270, hMe270, hcc270⟩ := Kd.V_get HL269_5.out z25 a2 p270 (by first | exact q270 | exact of_decide_eq_true (by first | (with_reducible assumption) | assumption) | (have e_ := (Kd.V_reads' HL269_5.out).1; omega))
          obtain ⟨ua270_4, uc270_4, ua270_5, uc270_5, rfl, ul270_4, ge270_4, ul270_5, ge270_5⟩ := k25_openF hMe270
          have hv270_4 := hcc270 4 _ rfl
          rw [add_field _ _ 4 (by omega)] at hv270_4
          replace hv270_4 := Option.some.inj (hv270_4.symm.trans hx270_4)
          injection hv270_4 with hva_ hvn_ hvc_
          rw [hva_] at ge270_4
          rw [hvc_] at ul270_4
          have HL270_4 := Aside0.mk (show Kd.V Kd.string 9 _ w.heap.size _ _ ((rd_T25 ((rd_T25 l0 x8_1).f5) a2).f4) from Kd.V_mk ul270_4 ge270_4)
          clear hva_ hvn_ hvc_ ge270_4 ul270_4
          have hv270_5 := hcc270 5 _ rfl
          rw [add_field _ _ 5 (by omega)] at hv270_5
          replace hv270_5 := Option.some.inj (hv270_5.symm.trans hx270_5)
          injection hv270_5 with hva_ hvn_ hvc_
          rw [hva_] at ge270_5
          rw [hvc_] at ul270_5
          have HL270_5 := Aside0.mk (show Kd.V k25 25 _ w.heap.size _ _ ((rd_T25 ((rd_T25 l0 x8_1).f5) a2).f5) from Kd.V_mk ul270_5 ge270_5)
          clear hva_ hvn_ hvc_ ge270_5 ul270_5
          clear hcc270 hce270
          have HR270_4 := Aside0.mk hi270_4
          have HC270_4 := Aside0.mk hl270_4
          clear hi270_4 hl270_4
          have HR270_5 := Aside0.mk hi270_5
          have HC270_5 := Aside0.mk hl270_5
          clear hi270_5 hl270_5
          replace p270 := eq_true p270
          replace q270 := eq_true q270
          go_wp2_with (first | ((with_reducible refine gate_builtin (b := .append) (xs := #[.tmp 30, .tmp 39]) rfl ?_); at_builtin; refine Kd.N_append k25 (w0 := w) w.heap.size rfl (.tmp 30) (.tmp 39) 22 25 (.agg #[(.int .i64 0), (.string ⟨#[]⟩), (.int .i64 0), (.int .i64 0), (.slice none 0 0), (.slice none 0 0)]) 88 rfl Try.underlying22 info25 rfl (by decide) (by omega) u7 x7_1 (⟨(rd_T25 ((rd_T25 l0 x8_1).f5) a2).f0, (rd_T25 ((rd_T25 l0 x8_1).f5) a2).f1, (rd_T25 ((rd_T25 l0 x8_1).f5) a2).f2, (rd_T25 ((rd_T25 l0 x8_1).f5) a2).f3, (rd_T25 ((rd_T25 l0 x8_1).f5) a2).f4, (rd_T25 ((rd_T25 l0 x8_1).f5) a2).f5⟩ : S25) [.int .i64 ((rd_T25 ((rd_T25 l0 x8_1).f5) a2).f0), .string ((rd_T25 ((rd_T25 l0 x8_1).f5) a2).f1), .int .i64 ((rd_T25 ((rd_T25 l0 x8_1).f5) a2).f2), .int .i64 ((rd_T25 ((rd_T25 l0 x8_1).f5) a2).f3), .slice A270_4 ((rd_T25 ((rd_T25 l0 x8_1).f5) a2).f4).length c270_4, .slice A270_5 ((rd_T25 ((rd_T25 l0 x8_1).f5) a2).f5).length c270_5] (fun k_ => (P0_ k_ ∨ w.heap.size ≤ k_)) (fun k_ => ((fun k_ => (P0_ k_ ∨ w.heap.size ≤ k_))) k_ ∧ some k_ ≠ (u7 : Value).ownBlock) rfl rfl ?aP (fun _ hk => hk) ?aF ?aO ?aB ?aS ?aL ?_; (case aP => exact (k25_mkF _ _ (⟨(rd_T25 ((rd_T25 l0 x8_1).f5) a2).f0, (rd_T25 ((rd_T25 l0 x8_1).f5) a2).f1, (rd_T25 ((rd_T25 l0 x8_1).f5) a2).f2, (rd_T25 ((rd_T25 l0 x8_1).f5) a2).f3, (rd_T25 ((rd_T25 l0 x8_1).f5) a2).f4, (rd_T25 ((rd_T25 l0 x8_1).f5) a2).f5⟩ : S25) (Kd.V_reads' (Kd.V_mono (ok' := (fun k_ => ((fun k_ => (P0_ k_ ∨ w.heap.size ≤ k_))) k_ ∧ some k_ ≠ (u7 : Value).ownBlock)) (HL270_4.out) (fun k_ hk => ⟨hk.1, hk.2⟩))).2.1 (Kd.V_F (Kd.V_mono (ok' := (fun k_ => ((fun k_ => (P0_ k_ ∨ w.heap.size ≤ k_))) k_ ∧ some k_ ≠ (u7 : Value).ownBlock)) (HL270_4.out) (fun k_ hk => ⟨hk.1, hk.2⟩))) (Kd.V_reads' (Kd.V_mono (ok' := (fun k_ => ((fun k_ => (P0_ k_ ∨ w.heap.size ≤ k_))) k_ ∧ some k_ ≠ (u7 : Value).ownBlock)) (HL270_5.out) (fun k_ hk => ⟨hk.1, hk.2⟩))).2.1 (Kd.V_F (Kd.V_mono (ok' := (fun k_ => ((fun k_ => (P0_ k_ ∨ w.heap.size ≤ k_))) k_ ∧ some k_ ≠ (u7 : Value).ownBlock)) (HL270_5.out) (fun k_ hk => ⟨hk.1, hk.2⟩))))); (case aB => exact (by repeat (first | (with_reducible first | exact HB.out | apply below_alloc | apply pw_below_drewN | apply below_drew1) | exact HB.out))); (case aF => exact (fun k_ hk => (.inr (Nat.le_trans (below_size (by repeat (first | (with_reducible first | exact HB.out | apply below_alloc | apply pw_below_drewN | apply below_drew1) | exact HB.out))) hk)))); (case aO => exact (by (with_reducible repeat (first | apply Kd.N_alloc | apply Kd.N_drewN | apply Kd.N_drew)); exact HO_7.out)); (case aS => exact (below_size (by repeat (first | (with_reducible first | exact HB.out | apply below_alloc | apply pw_below_drewN | apply below_drew1) | exact HB.out)))); (case aL => have := LMc10.out; omega); intro v272 w11 ho hb hg hat; rw [← Ny271.out] at ho; have n0_ := Aside0.mk (Kd.V_afterv (ok := (fun k_ => (P0_ k_ ∨ w.heap.size ≤ k_))) (by (with_reducible repeat (first | apply Kd.V_alloc | apply Kd.V_drewN | apply Kd.V_drew)); exact HO_0.out) hg hat); have n1_ := Aside0.mk (Kd.V_afterv (ok := (fun k_ => (P0_ k_ ∨ w.heap.size ≤ k_))) (by (with_reducible repeat (first | apply Kd.V_alloc | apply Kd.V_drewN | apply Kd.V_drew)); exact HL267_4.out) hg hat); have n2_ := Aside0.mk (Kd.V_afterv (ok := (fun k_ => (P0_ k_ ∨ w.heap.size ≤ k_))) (by (with_reducible repeat (first | apply Kd.V_alloc | apply Kd.V_drewN | apply Kd.V_drew)); exact HL267_5.out) hg hat); have n3_ := Aside0.mk (Kd.V_afterv (ok := (fun k_ => (P0_ k_ ∨ w.heap.size ≤ k_))) (by (with_reducible repeat (first | apply Kd.V_alloc | apply Kd.V_drewN | apply Kd.V_drew)); exact HL268_4.out) hg hat); have n4_ := Aside0.mk (Kd.V_afterv (ok := (fun k_ => (P0_ k_ ∨ w.heap.size ≤ k_))) (by (with_reducible repeat (first | apply Kd.V_alloc | apply Kd.V_drewN | apply Kd.V_drew)); exact HL268_5.out) hg hat); have n5_ := Aside0.mk (Kd.V_afterv (ok := (fun k_ => (P0_ k_ ∨ w.heap.size ≤ k_))) (by (with_reducible repeat (first | apply Kd.V_alloc | apply Kd.V_drewN | apply Kd.V_drew)); exact HL269_4.out) hg hat); have n6_ := Aside0.mk (Kd.V_afterv (ok := (fun k_ => (P0_ k_ ∨ w.heap.size ≤ k_))) (by (with_reducible repeat (first | apply Kd.V_alloc | apply Kd.V_drewN | apply Kd.V_drew)); exact HL269_5.out) hg hat); have n7_ := Aside0.mk (Kd.V_afterv (ok := (fun k_ => (P0_ k_ ∨ w.heap.size ≤ k_))) (by (with_reducible repeat (first | apply Kd.V_alloc | apply Kd.V_drewN | apply Kd.V_drew)); exact HL270_4.out) hg hat); have n8_ := Aside0.mk (Kd.V_afterv (ok := (fun k_ => (P0_ k_ ∨ w.heap.size ≤ k_))) (by (with_reducible repeat (first | apply Kd.V_alloc | apply Kd.V_drewN | apply Kd.V_drew)); exact HL270_5.out) hg hat); have n9_ := Aside0.mk (hb); have n10_ := Aside0.mk (ho); clear HO_0; clear HL267_4; clear HL267_5; clear HL268_4; clear HL268_5; clear HL269_4; clear HL269_5; clear HL270_4; clear HL270_5; clear HB; clear HO_7; have HO_0 := n0_; have HL267_4 := n1_; have HL267_5 := n2_; have HL268_4 := n3_; have HL268_5 := n4_; have HL269_4 := n5_; have HL269_5 := n6_; have HL270_4 := n7_; have HL270_5 := n8_; have HB := n9_; have HO273 := n10_; clear n0_ n1_ n2_ n3_ n4_ n5_ n6_ n7_ n8_ n9_ n10_; clear ho hb hg hat))
          go_roundg k1
          case measure => have := HK1.out; omega
          case rel => exact ⟨(y271), (wrap64 (x8_1 + 1)), (by first | rfl | (simp; done) | (simp [*]; done)), H', ⟨by have := HK1.out; omega⟩, ⟨by (with_reducible repeat (first | apply Kd.V_alloc | apply Kd.V_drewN | apply Kd.V_drew)); exact HO_0.out⟩, ⟨by (with_reducible repeat (first | apply Kd.N_alloc | apply Kd.N_drewN | apply Kd.N_drew)); exact HO273.out⟩, ⟨by repeat ((with_reducible first | exact HB.out | apply below_alloc | apply pw_below_drewN | apply below_drew1))⟩⟩
         ·
          rw [if_neg c10] at H
          exact absurd H (by simp)
        ·
         rw [if_neg c9] at H
         exact absurd H (by simp)
       ·
        rw [if_neg c8] at H
        exact absurd H (by simp)
      ·
       rw [if_neg c7] at H
       have c7b0 : (((rd_T25 l0 x8_1).f1).toList == a1.toList) = false := beq_eq_false_iff_ne.mpr c7
       have c7b1 : (((rd_T25 l0 x8_1).f1).toList != a1.toList) = true := bne_iff_ne.mpr c7
       have H' := Aside0.mk H
       clear H
       have p267 : 0 ≤ (x8_1 : Int) := of_decide_eq_true (by first | (with_reducible assumption) | assumption)
       have q267 : x8_1 < (l0.length : Int) := of_decide_eq_true (by first | (with_reducible assumption) | assumption)
       obtain ⟨ad267, A267_4, c267_4, A267_5, c267_5, e267, hx267_0, hx267_1, hx267_2, hx267_3, hx267_4, hx267_5, hl267_4, hi267_4, hl267_5, hi267_5⟩ := at_T25 (Kd.V_reads' HO_0.out).2.2 x8_1 p267 q267
       cases e267
       obtain ⟨ce267, hce267, hMe267, hcc267⟩ := Kd.V_get HO_0.out z25 x8_1 p267 (by first | exact q267 | exact of_decide_eq_true (by first | (with_reducible assumption) | assumption) | (have e_ := (Kd.V_reads' HO_0.out).1; omega))
       obtain ⟨ua267_4, uc267_4, ua267_5, uc267_5, rfl, ul267_4, ge267_4, ul267_5, ge267_5⟩ := k25_openF hMe267
       have hv267_4 := hcc267 4 _ rfl
       rw [add_field _ _ 4 (by omega)] at hv267_4
       replace hv267_4 := Option.some.inj (hv267_4.symm.trans hx267_4)
       injection hv267_4 with hva_ hvn_ hvc_
       rw [hva_] at ge267_4
       rw [hvc_] at ul267_4
       have HL267_4 := Aside0.mk (show Kd.V Kd.string 9 _ w.heap.size _ _ ((rd_T25 l0 x8_1).f4) from Kd.V_mk ul267_4 ge267_4)
       clear hva_ hvn_ hvc_ ge267_4 ul267_4
       have hv267_5 := hcc267 5 _ rfl
       rw [add_field _ _ 5 (by omega)] at hv267_5
       replace hv267_5 := Option.some.inj (hv267_5.symm.trans hx267_5)
       injection hv267_5 with hva_ hvn_ hvc_
       rw [hva_] at ge267_5
       rw [hvc_] at ul267_5
       have HL267_5 := Aside0.mk (show Kd.V k25 25 _ w.heap.size _ _ ((rd_T25 l0 x8_1).f5) from Kd.V_mk ul267_5 ge267_5)
       clear hva_ hvn_ hvc_ ge267_5 ul267_5
       clear hcc267 hce267
       have HR267_4 := Aside0.mk hi267_4
       have HC267_4 := Aside0.mk hl267_4
       clear hi267_4 hl267_4
       have HR267_5 := Aside0.mk hi267_5
       have HC267_5 := Aside0.mk hl267_5
       clear hi267_5 hl267_5
       replace p267 := eq_true p267
       replace q267 := eq_true q267
       have p268 : 0 ≤ (x8_1 : Int) := of_decide_eq_true (by first | (with_reducible assumption) | assumption)
       have q268 : x8_1 < (l0.length : Int) := of_decide_eq_true (by first | (with_reducible assumption) | assumption)
       obtain ⟨ad268, A268_4, c268_4, A268_5, c268_5, e268, hx268_0, hx268_1, hx268_2, hx268_3, hx268_4, hx268_5, hl268_4, hi268_4, hl268_5, hi268_5⟩ := at_T25 (Kd.V_reads' HO_0.out).2.2 x8_1 p268 q268
       obtain rfl : ad267 = ad268 := (by injection e268)
       obtain ⟨ce268, hce268, hMe268, hcc268⟩ := Kd.V_get HO_0.out z25 x8_1 p268 (by first | exact q268 | exact of_decide_eq_true (by first | (with_reducible assumption) | assumption) | (have e_ := (Kd.V_reads' HO_0.out).1; omega))
       obtain ⟨ua268_4, uc268_4, ua268_5, uc268_5, rfl, ul268_4, ge268_4, ul268_5, ge268_5⟩ := k25_openF hMe268
       have hv268_4 := hcc268 4 _ rfl
       rw [add_field _ _ 4 (by omega)] at hv268_4
       replace hv268_4 := Option.some.inj (hv268_4.symm.trans hx268_4)
       injection hv268_4 with hva_ hvn_ hvc_
       rw [hva_] at ge268_4
       rw [hvc_] at ul268_4
       have HL268_4 := Aside0.mk (show Kd.V Kd.string 9 _ w.heap.size _ _ ((rd_T25 l0 x8_1).f4) from Kd.V_mk ul268_4 ge268_4)
       clear hva_ hvn_ hvc_ ge268_4 ul268_4
       have hv268_5 := hcc268 5 _ rfl
       rw [add_field _ _ 5 (by omega)] at hv268_5
       replace hv268_5 := Option.some.inj (hv268_5.symm.trans hx268_5)
       injection hv268_5 with hva_ hvn_ hvc_
       rw [hva_] at ge268_5
       rw [hvc_] at ul268_5
       have HL268_5 := Aside0.mk (show Kd.V k25 25 _ w.heap.size _ _ ((rd_T25 l0 x8_1).f5) from Kd.V_mk ul268_5 ge268_5)
       clear hva_ hvn_ hvc_ ge268_5 ul268_5
       clear hcc268 hce268
       have HR268_4 := Aside0.mk hi268_4
       have HC268_4 := Aside0.mk hl268_4
       clear hi268_4 hl268_4
       have HR268_5 := Aside0.mk hi268_5
       have HC268_5 := Aside0.mk hl268_5
       clear hi268_5 hl268_5
       replace p268 := eq_true p268
       replace q268 := eq_true q268
       have ea_ := Option.some.inj (hx267_4.symm.trans hx268_4)
       injection ea_ with ea_ en_ ec_
       subst ea_
       subst ec_
       clear en_
       have ea_ := Option.some.inj (hx267_5.symm.trans hx268_5)
       injection ea_ with ea_ en_ ec_
       subst ea_
       subst ec_
       clear en_
       go_wp2
       go_roundg k1
       case measure => have := HK1.out; omega
       case rel => exact ⟨(x7_1), (wrap64 (x8_1 + 1)), (by first | rfl | (simp; done) | (simp [*]; done)), H', ⟨by have := HK1.out; omega⟩, ⟨by (with_reducible repeat (first | apply Kd.V_alloc | apply Kd.V_drewN | apply Kd.V_drew)); exact HO_0.out⟩, ⟨by (with_reducible repeat (first | apply Kd.N_alloc | apply Kd.N_drewN | apply Kd.N_drew)); exact HO_7.out⟩, ⟨by repeat ((with_reducible first | exact HB.out | apply below_alloc | apply pw_below_drewN | apply below_drew1))⟩⟩
     ·
      rw [if_neg c6] at H
      have c6b0 : (((rd_T25 l0 x8_1).f0) == 5) = false := beq_eq_false_iff_ne.mpr c6
      have c6b1 : (((rd_T25 l0 x8_1).f0) != 5) = true := bne_iff_ne.mpr c6
      have H' := Aside0.mk H
      clear H
      have p267 : 0 ≤ (x8_1 : Int) := of_decide_eq_true (by first | (with_reducible assumption) | assumption)
      have q267 : x8_1 < (l0.length : Int) := of_decide_eq_true (by first | (with_reducible assumption) | assumption)
      obtain ⟨ad267, A267_4, c267_4, A267_5, c267_5, e267, hx267_0, hx267_1, hx267_2, hx267_3, hx267_4, hx267_5, hl267_4, hi267_4, hl267_5, hi267_5⟩ := at_T25 (Kd.V_reads' HO_0.out).2.2 x8_1 p267 q267
      cases e267
      obtain ⟨ce267, hce267, hMe267, hcc267⟩ := Kd.V_get HO_0.out z25 x8_1 p267 (by first | exact q267 | exact of_decide_eq_true (by first | (with_reducible assumption) | assumption) | (have e_ := (Kd.V_reads' HO_0.out).1; omega))
      obtain ⟨ua267_4, uc267_4, ua267_5, uc267_5, rfl, ul267_4, ge267_4, ul267_5, ge267_5⟩ := k25_openF hMe267
      have hv267_4 := hcc267 4 _ rfl
      rw [add_field _ _ 4 (by omega)] at hv267_4
      replace hv267_4 := Option.some.inj (hv267_4.symm.trans hx267_4)
      injection hv267_4 with hva_ hvn_ hvc_
      rw [hva_] at ge267_4
      rw [hvc_] at ul267_4
      have HL267_4 := Aside0.mk (show Kd.V Kd.string 9 _ w.heap.size _ _ ((rd_T25 l0 x8_1).f4) from Kd.V_mk ul267_4 ge267_4)
      clear hva_ hvn_ hvc_ ge267_4 ul267_4
      have hv267_5 := hcc267 5 _ rfl
      rw [add_field _ _ 5 (by omega)] at hv267_5
      replace hv267_5 := Option.some.inj (hv267_5.symm.trans hx267_5)
      injection hv267_5 with hva_ hvn_ hvc_
      rw [hva_] at ge267_5
      rw [hvc_] at ul267_5
      have HL267_5 := Aside0.mk (show Kd.V k25 25 _ w.heap.size _ _ ((rd_T25 l0 x8_1).f5) from Kd.V_mk ul267_5 ge267_5)
      clear hva_ hvn_ hvc_ ge267_5 ul267_5
      clear hcc267 hce267
      have HR267_4 := Aside0.mk hi267_4
      have HC267_4 := Aside0.mk hl267_4
      clear hi267_4 hl267_4
      have HR267_5 := Aside0.mk hi267_5
      have HC267_5 := Aside0.mk hl267_5
      clear hi267_5 hl267_5
      replace p267 := eq_true p267
      replace q267 := eq_true q267
      go_wp2
      go_roundg k1
      case measure => have := HK1.out; omega
      case rel => exact ⟨(x7_1), (wrap64 (x8_1 + 1)), (by first | rfl | (simp; done) | (simp [*]; done)), H', ⟨by have := HK1.out; omega⟩, ⟨by (with_reducible repeat (first | apply Kd.V_alloc | apply Kd.V_drewN | apply Kd.V_drew)); exact HO_0.out⟩, ⟨by (with_reducible repeat (first | apply Kd.N_alloc | apply Kd.N_drewN | apply Kd.N_drew)); exact HO_7.out⟩, ⟨by repeat ((with_reducible first | exact HB.out | apply below_alloc | apply pw_below_drewN | apply below_drew1))⟩⟩
    ·
     rw [if_neg c5] at H
     exact absurd H (by simp)
   ·
    rw [if_neg c4] at H
    have c4b0 : decide (x8_1 < (l0.length : Int)) = false := decide_eq_false c4
    clear c4
    obtain rfl := Option.some.inj H
    go_wp2
    go_ret
    exact ⟨_, by first | rfl | (simp [errW_none, errW_some] <;> rfl) | (simp [*, errW_none, errW_some] <;> rfl), by (with_reducible repeat (first | apply Kd.N_alloc | apply Kd.N_drewN | apply Kd.N_drew)); exact HO_7.out, by repeat ((with_reducible first | exact HB.out | apply below_alloc | apply pw_below_drewN | apply below_drew1))⟩
end Go.Proofs.Ytikhkcnbabpneaa.P
/- Plain laws: what the reference's Find and parts tell. -/
namespace Go.Proofs.Ytikhkcnbabpneaa.P
open Go.RowKit Go.Proofs.YtikhkcnbabpneaaW.PrintWords Go.Proofs.YtikhkcnbabpneaaW.PrintLast Go.Proofs.YtikhkcnbabpneaaW.PrintMore
set_option linter.unusedVariables false
set_option linter.unusedSimpArgs false
theorem rdC_at (l : List S61) (i : Nat) (h : i < l.length) : rd_T61 l (i : Int) = l[i] := by
 unfold rd_T61
 simp [List.getD_eq_getElem?_getD, List.getElem?_eq_getElem h]
def FindIs (l : List S61) (a : ByteArray) (n : Int) : Prop := (l.any (isName a) = false ∧ n = -1) ∨ (l.any (isName a) = true ∧ 0 ≤ n ∧ n < l.length ∧ rd_T61 l n = findC l a)
theorem find_loop (l : List S61) (a : ByteArray) (hl : l.length ≤ 1000000) : ∀ d i, i + d = l.length → (∀ j (hj : j < i) (hk : j < l.length), isName a l[j] = false) → ∃ n : Int, Ends (fun k => selvageref09_Find.l0 k l a (i : Int)) n ∧ FindIs l a n := by
 intro d
 induction d with
 | zero =>
  intro i hi hb
  refine ⟨-1, Ends.step (g := fun _ => some (-1)) (Ends.const fun _ => rfl) fun k => ?_, .inl ⟨?_, rfl⟩⟩
  ·
   rw [selvageref09_Find.l0, if_neg (by omega)]
  ·
   rw [List.any_eq_false]
   intro x hx
   obtain ⟨j, hj, rfl⟩ := List.mem_iff_getElem.1 hx
   rw [hb j (by omega) hj]; decide
 | succ d ih =>
  intro i hi hb
  have hlt : i < l.length := by omega
  have hstep : ∀ {v}, Ends (fun k => if l[i].f0.toList = a.toList then some (i : Int) else selvageref09_Find.l0 k l a ((i + 1 : Nat) : Int)) v → Ends (fun k => selvageref09_Find.l0 k l a (i : Int)) v := by
   intro v h
   refine Ends.step h fun k => ?_
   rw [selvageref09_Find.l0, if_pos (by omega), if_pos (by omega), rdC_at l i hlt, wrap_succ (by omega)]
  by_cases e : l[i].f0.toList = a.toList
  ·
   have hn : isName a l[i] = true := by unfold isName; simpa using e
   refine ⟨i, hstep (Ends.const fun _ => by rw [if_pos e]), .inr ⟨List.any_eq_true.2 ⟨l[i], List.getElem_mem _, hn⟩, by omega, by omega, ?_⟩⟩
   rw [rdC_at l i hlt, findC_at hlt (fun j hj => hb j hj (by omega)) hn]
  ·
   have hn : isName a l[i] = false := by unfold isName; simpa using e
   obtain ⟨n, h1, h2⟩ := ih (i + 1) (by omega) (fun j hj hk => by
    by_cases ej : j = i
    ·
     subst ej; exact hn
    ·
     exact hb j (by omega) hk)
   exact ⟨n, hstep (h1.congr fun k => by rw [if_neg e]), h2⟩
theorem find_ends (l : List S61) (a : ByteArray) (hl : l.length ≤ 1000000) : ∃ n : Int, Ends (fun k => selvageref09_Find.f k l a) n ∧ FindIs l a n := by
 obtain ⟨n, h, h2⟩ := find_loop l a hl l.length 0 (by omega) (fun j hj => absurd hj (Nat.not_lt_zero _))
 exact ⟨n, h, h2⟩
theorem rparts_loop (l : List S25) (a : ByteArray) (q : Nat) (hl : l.length ≤ 1000000) (hq : q ≤ 1000000) (hok : rpartsOk l a q = true) : ∀ d i, i + d = l.length → Ends (fun k => selvageref09_parts.l0 k l a (q : Int) (rpartsL (l.take i) a q) (i : Int)) (rpartsL l a q) := by
 intro d
 induction d with
 | zero =>
  intro i hi
  rw [List.take_of_length_le (by omega)]
  refine Ends.step (g := fun _ => some (rpartsL l a q)) (Ends.const fun _ => rfl) fun k => ?_
  rw [selvageref09_parts.l0, if_neg (by omega)]
 | succ d ih =>
  intro i hi
  have hlt : i < l.length := by omega
  have hstep : rpartsL (l.take (i + 1)) a q = rpartsL (l.take i) a q ++ (rpick a q l[i]).toList := by
   unfold rpartsL
   rw [List.take_succ_eq_append_getElem hlt, List.filterMap_append]
   cases hbb : rpick a q l[i] <;> simp [hbb]
  have hki := (List.all_eq_true.1 hok) l[i] (List.getElem_mem _)
  have hlen : (rpartsL (l.take i) a q).length ≤ 1000000 := Nat.le_trans (List.length_filterMap_le _ _) (by rw [List.length_take]; omega)
  have h := ih (i + 1) (by omega)
  rw [hstep] at h
  unfold rpick at h
  refine Ends.step (g := fun k => selvageref09_parts.l0 k l a (q : Int) (rpartsL (l.take i) a q ++ (if l[i].f0 == 5 && l[i].f1.toList == a.toList then l[i].f5[q]? else none).toList) ((i + 1 : Nat) : Int)) h fun k => ?_
  rw [selvageref09_parts.l0, if_pos (by omega), if_pos (by omega), rdT_at l i hlt, wrap_succ (by omega)]
  by_cases h5 : l[i].f0 = 5
  ·
   rw [if_pos h5]
   by_cases hn : l[i].f1.toList = a.toList
   ·
    have hb : (l[i].f0 == 5 && l[i].f1.toList == a.toList) = true := by rw [h5, hn]; simp
    rw [hb] at hki
    have hqi : q < l[i].f5.length := by simpa using hki
    rw [if_pos hn, if_pos (by omega), if_pos (by omega), if_pos (by omega), hb, if_pos rfl, List.getElem?_eq_getElem hqi, rdT_at _ q hqi, eta25]
    rfl
   ·
    rw [if_neg hn, if_neg (by simp [hn])]
    simp
  ·
   rw [if_neg h5, if_neg (by simp [h5])]
   simp
theorem rparts_ends (l : List S25) (a : ByteArray) (q : Nat) (hl : l.length ≤ 1000000) (hq : q ≤ 1000000) (hok : rpartsOk l a q = true) : Ends (fun k => selvageref09_parts.f k l a (q : Int)) (rpartsL l a q) := by
 have h := rparts_loop l a q hl hq hok l.length 0 (by omega)
 exact h
end Go.Proofs.Ytikhkcnbabpneaa.P