-- Laid by this session's program wip/printx.py over the kit's print.py; functions that it does not take are walked by hand.
import Derived.Test.YtikhkcnbabpneaaAvPx0
import Derived.Test.YtikhkcnbabpneaaAvPx9
import Derived.Test.YtikhkcnbabpneaaAvHA
import Derived.Test.YtikhkcnbabpneaaAvHB
namespace Go.Proofs.Ytikhkcnbabpneaa.P
open Go.RowKit Go.Proofs.YtikhkcnbabpneaaW.PrintWords Go.Proofs.YtikhkcnbabpneaaW.PrintLast Go.Proofs.YtikhkcnbabpneaaW.PrintMore
attribute [local go_sem] max2_int min2_int max_two min_two max_three min_three max_four min_four   -- for this text's walks alone
set_option linter.unusedVariables false
set_option linter.unusedSimpArgs false
mutual
def cover_Check.j0 : Nat → List (S25) → List (S61) → Bool → Option (Int × Int)
 | 0, _, _, _ => none
 | k + 1, x0, x6, x22 => if x22 = true then (some (0, 1)) else (cover_Check.l0 k x0 x6 ([] : List (List (S25))) x0 (x0.length : Int) 0)
def cover_Check.l0 : Nat → List (S25) → List (S61) → List (List (S25)) → List (S25) → Int → Int → Option (Int × Int)
 | 0, _, _, _, _, _, _ => none
 | k + 1, x0, x6, x7, x23, x24, x25 => if x25 < x24 then (if 0 ≤ x25 then (if x25 < (x23.length : Int) then ((cover_book_size.f k x6 ((rd_T25 x23 x25).f0) ((rd_T25 x23 x25).f1) ((rd_T25 x23 x25).f2) ((rd_T25 x23 x25).f3) ((rd_T25 x23 x25).f4) ((rd_T25 x23 x25).f5)).bind fun bt170 => (if bt170.2 = true then (if x7.length < 5864062014805 then (cover_Check.l0 k x0 x6 (x7 ++ [(([(⟨(rd_T25 x23 x25).f0, (rd_T25 x23 x25).f1, (rd_T25 x23 x25).f2, (rd_T25 x23 x25).f3, (rd_T25 x23 x25).f4, (rd_T25 x23 x25).f5⟩ : S25)] : List (S25)))]) x23 x24 (wrap64 (x25 + 1))) else (none)) else (some (0, 1)))) else (none)) else (none)) else ((cover_book_together.f x6 x0).bind fun t178 => (if t178 = true then (cover_Check.l1 k x6 x7 x7 (x7.length : Int) 0) else (some (0, 1))))
def cover_Check.l1 : Nat → List (S61) → List (List (S25)) → List (List (S25)) → Int → Int → Option (Int × Int)
 | 0, _, _, _, _, _ => none
 | k + 1, x6, x7, x47, x48, x49 => if x49 < x48 then (if 0 ≤ x49 then (if x49 < (x47.length : Int) then (if x49 ≤ (x7.length : Int) then ((cover_book_means.f x6 (x7.take (x49 : Int).toNat) (rd_L6 x47 x49)).bind fun t185 => (if t185 = true then (cover_Check.l1 k x6 x7 x47 x48 (wrap64 (x49 + 1))) else (some (x49, 27)))) else (none)) else (none)) else (none)) else ((cover_wild.f 1).bind fun t186 => ((cover_book_means.f x6 x7 t186).bind fun t189 => (if t189 = true then (some (0, 26)) else (some (0, 0)))))
end
def cover_Check.f (k : Nat) (l0 : List (S25)) (l1 : List (S61)) : Option (Int × Int) := if (l0.length : Int) > 20 then (cover_Check.j0 k l0 l1 true) else ((cover_book_sound.f l1).bind fun t167 => (cover_Check.j0 k l0 l1 (!t167)))
theorem cover_Check.mono_l : ∀ k, (∀ y0 y1 y2, LeO (cover_Check.j0 k y0 y1 y2) (cover_Check.j0 (k + 1) y0 y1 y2)) ∧ (∀ y0 y1 y2 y3 y4 y5, LeO (cover_Check.l0 k y0 y1 y2 y3 y4 y5) (cover_Check.l0 (k + 1) y0 y1 y2 y3 y4 y5)) ∧ (∀ y0 y1 y2 y3 y4, LeO (cover_Check.l1 k y0 y1 y2 y3 y4) (cover_Check.l1 (k + 1) y0 y1 y2 y3 y4))
 | 0 => ⟨fun _ _ _ r h => by simp [cover_Check.j0] at h, fun _ _ _ _ _ _ r h => by simp [cover_Check.l0] at h, fun _ _ _ _ _ r h => by simp [cover_Check.l1] at h⟩
 | k + 1 => by
  obtain ⟨ih0, ih1, ih2⟩ := cover_Check.mono_l k
  refine ⟨?_, ?_, ?_⟩
  ·
   intro y0 y1 y2
   unfold cover_Check.j0
   repeat' first
   | (with_reducible exact ih0 _ _ _)
   | (with_reducible exact ih1 _ _ _ _ _ _)
   | (with_reducible exact ih2 _ _ _ _ _)
   | (with_reducible exact cover_book_size.mono _ _ _ _ _ _ _ _)
   | (with_reducible exact LeO.refl _)
   | (with_reducible exact LeO.none _)
   | (with_reducible refine LeO.ite ?_ ?_)
   | (with_reducible refine LeO.bind ?_ (fun _ => ?_))
   | exact ih0 _ _ _
   | exact ih1 _ _ _ _ _ _
   | exact ih2 _ _ _ _ _
   | exact cover_book_size.mono _ _ _ _ _ _ _ _
   | exact LeO.none _
   | refine LeO.ite ?_ ?_
   | refine LeO.bind ?_ (fun _ => ?_)
  ·
   intro y0 y1 y2 y3 y4 y5
   unfold cover_Check.l0
   repeat' first
   | (with_reducible exact ih0 _ _ _)
   | (with_reducible exact ih1 _ _ _ _ _ _)
   | (with_reducible exact ih2 _ _ _ _ _)
   | (with_reducible exact cover_book_size.mono _ _ _ _ _ _ _ _)
   | (with_reducible exact LeO.refl _)
   | (with_reducible exact LeO.none _)
   | (with_reducible refine LeO.ite ?_ ?_)
   | (with_reducible refine LeO.bind ?_ (fun _ => ?_))
   | exact ih0 _ _ _
   | exact ih1 _ _ _ _ _ _
   | exact ih2 _ _ _ _ _
   | exact cover_book_size.mono _ _ _ _ _ _ _ _
   | exact LeO.none _
   | refine LeO.ite ?_ ?_
   | refine LeO.bind ?_ (fun _ => ?_)
  ·
   intro y0 y1 y2 y3 y4
   unfold cover_Check.l1
   repeat' first
   | (with_reducible exact ih0 _ _ _)
   | (with_reducible exact ih1 _ _ _ _ _ _)
   | (with_reducible exact ih2 _ _ _ _ _)
   | (with_reducible exact cover_book_size.mono _ _ _ _ _ _ _ _)
   | (with_reducible exact LeO.refl _)
   | (with_reducible exact LeO.none _)
   | (with_reducible refine LeO.ite ?_ ?_)
   | (with_reducible refine LeO.bind ?_ (fun _ => ?_))
   | exact ih0 _ _ _
   | exact ih1 _ _ _ _ _ _
   | exact ih2 _ _ _ _ _
   | exact cover_book_size.mono _ _ _ _ _ _ _ _
   | exact LeO.none _
   | refine LeO.ite ?_ ?_
   | refine LeO.bind ?_ (fun _ => ?_)
theorem cover_Check.mono : ∀ a0 a1 k, LeO (cover_Check.f k a0 a1) (cover_Check.f (k + 1) a0 a1) := by
 intro a0 a1 k
 obtain ⟨ih0, ih1, ih2⟩ := cover_Check.mono_l k
 unfold cover_Check.f
 repeat' first
  | (with_reducible exact ih0 _ _ _)
  | (with_reducible exact ih1 _ _ _ _ _ _)
  | (with_reducible exact ih2 _ _ _ _ _)
  | (with_reducible exact cover_book_size.mono _ _ _ _ _ _ _ _)
  | (with_reducible exact LeO.refl _)
  | (with_reducible exact LeO.none _)
  | (with_reducible refine LeO.ite ?_ ?_)
  | (with_reducible refine LeO.bind ?_ (fun _ => ?_))
  | exact ih0 _ _ _
  | exact ih1 _ _ _ _ _ _
  | exact ih2 _ _ _ _ _
  | exact cover_book_size.mono _ _ _ _ _ _ _ _
  | exact LeO.none _
  | refine LeO.ite ?_ ?_
  | refine LeO.bind ?_ (fun _ => ?_)
set_option maxHeartbeats 8000000 in
set_option maxRecDepth 100000 in
theorem cover_Check.calls (k : Nat) (P0_ : Nat → Prop) (A0 : Option Addr) (c0 : Nat) (l0 : List (S25)) (A1 : Option Addr) (c1 : Nat) (l1 : List (S61)) (r1 : Int) (r2 : Int) (w : World) (hs0 : Kd.V k25 25 w w.heap.size (fun k_ => P0_ k_) (.slice A0 l0.length c0) l0) (hr1 : Kd.C k61 w A1 l1.length l1) (hc1 : l1.length ≤ c1) (h : cover_Check.f k l0 l1 = some (r1, r2)) :
 Calls Try.prog 8 #[.slice A0 l0.length c0, .slice A1 l1.length c1] w fun e w' => e = .returned (.tuple #[.int .i64 r1, .int .i64 r2]) ∧ Below w.heap.size w w' := by
 have hu25 := Try.underlying25
 have HO0 := Aside0.mk (show Kd.V k25 25 w w.heap.size (fun k_ => (P0_ k_ ∨ w.heap.size ≤ k_)) (.slice A0 l0.length c0) l0 from Kd.V_mono hs0 (fun k_ hk => .inl hk))
 have HR1 := Aside0.mk hr1
 have HC1 := Aside0.mk hc1
 clear hr1 hc1
 have HB := Aside0.mk (Below.refl w.heap.size w)
 have H : (if (l0.length : Int) > 20 then (cover_Check.j0 k l0 l1 true) else ((cover_book_sound.f l1).bind fun t167 => (cover_Check.j0 k l0 l1 (!t167)))) = some (r1, r2) := h
 clear h
 have HC3 := Aside0.mk H
 clear H
 go_enter Try.func8, Try.ntmps8
 go_upto_region 2 with (fail)
 go_cut [22] (fun v22 wc => ∃ (kq : Nat) (x22_2 : Bool), v22 = .bool x22_2 ∧ Aside0 (cover_Check.j0 kq l0 l1 x22_2 = some (r1, r2)) ∧ Aside0 (kq ≤ k) ∧ Aside0 (Kd.V k25 25 wc w.heap.size (fun k_ => (P0_ k_ ∨ w.heap.size ≤ k_)) (.slice A0 l0.length c0) l0) ∧ Aside0 (Below w.heap.size w wc))
 case first =>
  have H := HC3.out
  clear HC3
  by_cases c4 : (l0.length : Int) > 20
  ·
   rw [if_pos c4] at H
   have c4b0 : decide (20 < (l0.length : Int)) = true := decide_eq_true c4
   have c4b1 : decide (20 < l0.length) = true := decide_eq_true (by omega)
   clear c4
   (first | rw [c4b0] | (simp only [i64_w, i32_w]; rw [c4b0]) | skip)
   have H' := Aside0.mk H
   clear H
   go_wp2
   go_meet
   case rel => exact ⟨_, (true), (by first | rfl | (simp; done) | (simp [*]; done)), H', ⟨by first | omega | exact Nat.le_refl _⟩, ⟨by (with_reducible repeat (first | apply Kd.V_alloc | apply Kd.V_drewN | apply Kd.V_drew)); exact HO0.out⟩, ⟨by repeat ((with_reducible first | exact HB.out | apply below_alloc | apply pw_below_drewN | apply below_drew1))⟩⟩
  ·
   rw [if_neg c4] at H
   have c4b0 : decide (20 < (l0.length : Int)) = false := decide_eq_false c4
   have c4b1 : decide (20 < l0.length) = false := decide_eq_false (by omega)
   clear c4
   (first | rw [c4b0] | (simp only [i64_w, i32_w]; rw [c4b0]) | skip)
   replace H := Option.bind_eq_some_iff.mp H
   obtain ⟨t167, A50, H⟩ := H
   replace H : (cover_Check.j0 k l0 l1 (!t167)) = some (r1, r2) := H
   have A5 := Aside0.mk A50
   clear A50
   have H' := Aside0.mk H
   clear H
   go_wp2_with (first | (go_at_call 21; (with_reducible refine (cover_book_sound.calls _ _ l1 t167 _ ?side1 ?side2 A5.out).mono ?_); (case side1 => repeat (first | exact (Kd.C_below HR1.out HB.out) | (with_reducible refine Kd.C_alloc ?_ _) | (with_reducible refine Kd.C_drewN ?_ _) | (with_reducible refine Kd.C_drew ?_))); (case side2 => exact HC1.out); rintro e w6 ⟨rfl, hb⟩; have n0_ := Aside0.mk (Kd.V_below (by (with_reducible repeat (first | apply Kd.V_alloc | apply Kd.V_drewN | apply Kd.V_drew)); exact HO0.out) hb); have n1_ := Aside0.mk (below_step (by repeat (first | (with_reducible first | exact HB.out | apply below_alloc | apply pw_below_drewN | apply below_drew1) | exact HB.out)) hb); clear HO0; clear HB; have HO0 := n0_; have HB := n1_; clear n0_ n1_; (try clear hb); (try clear hb2); (try clear hk); (try clear hi)))
   go_meet
   case rel => exact ⟨_, (!t167), (by first | rfl | (simp; done) | (simp [*]; done)), H', ⟨by first | omega | exact Nat.le_refl _⟩, ⟨by (with_reducible repeat (first | apply Kd.V_alloc | apply Kd.V_drewN | apply Kd.V_drew)); exact HO0.out⟩, ⟨by repeat ((with_reducible first | exact HB.out | apply below_alloc | apply pw_below_drewN | apply below_drew1))⟩⟩
 case rest =>
  clear HC3
  try clear c1
  try clear p2
  try clear c4
  try clear c4b0
  try clear c4b1
  obtain ⟨kq, x22_2, rfl, HA, HJ2, HO_0, HB⟩ := hcut
  cases kq with
  | zero => exact absurd HA.out (by simp [cover_Check.j0])
  | succ kj2 =>
   have H := HA.out
   clear HA
   simp only [cover_Check.j0] at H
   by_cases c7 : x22_2 = true
   ·
    subst c7
    have H1 : (some (0, 1)) = some (r1, r2) := by rw [if_pos rfl] at H; exact H
    clear H
    have H := H1
    clear H1
    simp only [Option.some.injEq, Prod.mk.injEq] at H
    obtain ⟨rfl, rfl⟩ := H
    go_wp2
    go_ret2
    exact ⟨by first | rfl | (simp [errW_none, errW_some] <;> rfl) | (simp [*, errW_none, errW_some] <;> rfl), by repeat ((with_reducible first | exact HB.out | apply below_alloc | apply pw_below_drewN | apply below_drew1))⟩
   ·
    replace c7 := Bool.eq_false_iff.mpr c7
    subst c7
    have H1 : (cover_Check.l0 kj2 l0 l1 ([] : List (List (S25))) l0 (l0.length : Int) 0) = some (r1, r2) := by rw [if_neg (show ¬ (false = true) by decide)] at H; exact H
    clear H
    have H := H1
    clear H1
    have H' := Aside0.mk H
    clear H
    go_wp2
    go_loopg [7, 25] kj2 (fun kq v7 v25 w' => ∃ (x7_2 : List (List (S25))) (x25_2 : Int), v25 = .int .i64 x25_2 ∧ Aside0 (cover_Check.l0 kq l0 l1 x7_2 l0 (l0.length : Int) x25_2 = some (r1, r2)) ∧ Aside0 (kq ≤ kj2) ∧ Aside0 (Kd.V k25 25 w' w.heap.size (fun k_ => (P0_ k_ ∨ w.heap.size ≤ k_) ∧ some k_ ≠ (v7 : Value).ownBlock) (.slice A0 l0.length c0) l0) ∧ Aside0 (Kd.N (Kd.slice 25 k25) 22 w' w.heap.size (fun k_ => (P0_ k_ ∨ w.heap.size ≤ k_)) v7 x7_2) ∧ Aside0 (Kd.V k25 25 w' w.heap.size (fun k_ => (P0_ k_ ∨ w.heap.size ≤ k_) ∧ some k_ ≠ (v7 : Value).ownBlock) (.slice A0 l0.length c0) l0) ∧ Aside0 (Below w.heap.size w w'))
    case atStart => exact ⟨(([] : List (List (S25)))), (0), (by first | rfl | (simp; done) | (simp [*]; done)), H', ⟨Nat.le_refl _⟩, ⟨by (with_reducible repeat (first | apply Kd.V_alloc | apply Kd.V_drewN | apply Kd.V_drew)); exact Kd.V_mono HO_0.out (fun _ hk => ⟨hk, (by simp [Value.ownBlock])⟩)⟩, ⟨by first | exact Kd.R_nil _ _ _ _ _ | exact Kd.N_nil _ _ _ _ _ | exact Kd.V_nil _ _ _ _ _ | exact Kd.Q_nil _ _ _ _ _ | exact Kd.S_nil _ _ _ _ _⟩, ⟨by (with_reducible repeat (first | apply Kd.V_alloc | apply Kd.V_drewN | apply Kd.V_drew)); exact Kd.V_mono HO_0.out (fun _ hk => ⟨hk, (by simp [Value.ownBlock])⟩)⟩, ⟨by repeat ((with_reducible first | exact HB.out | apply below_alloc | apply pw_below_drewN | apply below_drew1))⟩⟩
    case round =>
     clear H'
     try clear c1
     try clear p2
     try clear c4
     try clear c4b0
     try clear c4b1
     try clear c7
     try clear p2
     obtain ⟨x7_2, x25_2, rfl, HA, HK2, HO_0, HO_7, HO_23, HB⟩ := hrel
     cases gk with
     | zero => exact absurd HA.out (by simp [cover_Check.l0])
     | succ k2 =>
      have H := HA.out
      clear HA
      simp only [cover_Check.l0] at H
      by_cases c8 : x25_2 < (l0.length : Int)
      ·
       rw [if_pos c8] at H
       have c8b0 : decide (x25_2 < (l0.length : Int)) = true := decide_eq_true c8
       clear c8
       by_cases c9 : 0 ≤ x25_2
       ·
        rw [if_pos c9] at H
        have c9b0 : decide (0 ≤ x25_2) = true := decide_eq_true c9
        clear c9
        by_cases c10 : x25_2 < (l0.length : Int)
        ·
         rw [if_pos c10] at H
         have c10b0 : decide (x25_2 < (l0.length : Int)) = true := decide_eq_true c10
         clear c10
         replace H := Option.bind_eq_some_iff.mp H
         obtain ⟨⟨t170, t171⟩, A110, H⟩ := H
         replace H : (if t171 = true then (if x7_2.length < 5864062014805 then (cover_Check.l0 k2 l0 l1 (x7_2 ++ [(([(⟨(rd_T25 l0 x25_2).f0, (rd_T25 l0 x25_2).f1, (rd_T25 l0 x25_2).f2, (rd_T25 l0 x25_2).f3, (rd_T25 l0 x25_2).f4, (rd_T25 l0 x25_2).f5⟩ : S25)] : List (S25)))]) l0 (l0.length : Int) (wrap64 (x25_2 + 1))) else (none)) else (some (0, 1))) = some (r1, r2) := H
         have A11 := Aside0.mk A110
         clear A110
         by_cases c12 : t171 = true
         ·
          subst c12
          have H1 : (if x7_2.length < 5864062014805 then (cover_Check.l0 k2 l0 l1 (x7_2 ++ [(([(⟨(rd_T25 l0 x25_2).f0, (rd_T25 l0 x25_2).f1, (rd_T25 l0 x25_2).f2, (rd_T25 l0 x25_2).f3, (rd_T25 l0 x25_2).f4, (rd_T25 l0 x25_2).f5⟩ : S25)] : List (S25)))]) l0 (l0.length : Int) (wrap64 (x25_2 + 1))) else (none)) = some (r1, r2) := by rw [if_pos rfl] at H; exact H
          clear H
          have H := H1
          clear H1
          obtain ⟨y172, hy172⟩ : ∃ y_ : List (S25), y_ = (([(⟨(rd_T25 l0 x25_2).f0, (rd_T25 l0 x25_2).f1, (rd_T25 l0 x25_2).f2, (rd_T25 l0 x25_2).f3, (rd_T25 l0 x25_2).f4, (rd_T25 l0 x25_2).f5⟩ : S25)] : List (S25))) := ⟨_, rfl⟩
          replace H : (if x7_2.length < 5864062014805 then (cover_Check.l0 k2 l0 l1 (x7_2 ++ [y172]) l0 (l0.length : Int) (wrap64 (x25_2 + 1))) else (none)) = some (r1, r2) := by first | (rw [hy172]; with_reducible exact H) | (have H2_ := (Option.bind_some _ _).symm.trans H; rw [hy172]; with_reducible exact H2_) | (have H2_ := (Option.bind_some _ _).symm.trans H; with_reducible exact H2_) | with_reducible exact H | (rw [hy172]; exact H) | exact H
          have Ny172 := Aside0.mk hy172
          clear hy172
          by_cases c13 : x7_2.length < 5864062014805
          ·
           rw [if_pos c13] at H
           have LMc13 := Aside0.mk c13
           clear c13
           obtain ⟨y175, hy175⟩ : ∃ y_ : List (List (S25)), y_ = (x7_2 ++ [y172]) := ⟨_, rfl⟩
           replace H : (cover_Check.l0 k2 l0 l1 y175 l0 (l0.length : Int) (wrap64 (x25_2 + 1))) = some (r1, r2) := by first | (rw [hy175]; with_reducible exact H) | (have H2_ := (Option.bind_some _ _).symm.trans H; rw [hy175]; with_reducible exact H2_) | (have H2_ := (Option.bind_some _ _).symm.trans H; with_reducible exact H2_) | with_reducible exact H | (rw [hy175]; exact H) | exact H
           have Ny175 := Aside0.mk hy175
           clear hy175
           have H' := Aside0.mk H
           clear H
           have p168 : 0 ≤ (x25_2 : Int) := of_decide_eq_true (by first | (with_reducible assumption) | assumption)
           have q168 : x25_2 < (l0.length : Int) := of_decide_eq_true (by first | (with_reducible assumption) | assumption)
           obtain ⟨ad168, A168_4, c168_4, A168_5, c168_5, e168, hx168_0, hx168_1, hx168_2, hx168_3, hx168_4, hx168_5, hl168_4, hi168_4, hl168_5, hi168_5⟩ := at_T25 (Kd.V_reads' HO_23.out).2.2 x25_2 p168 q168
           cases e168
           obtain ⟨ce168, hce168, hMe168, hcc168⟩ := Kd.V_get HO_23.out z25 x25_2 p168 (by first | exact q168 | exact of_decide_eq_true (by first | (with_reducible assumption) | assumption) | (have e_ := (Kd.V_reads' HO_23.out).1; omega))
           obtain ⟨ua168_4, uc168_4, ua168_5, uc168_5, rfl, ul168_4, ge168_4, ul168_5, ge168_5⟩ := k25_openF hMe168
           have hv168_4 := hcc168 4 _ rfl
           rw [add_field _ _ 4 (by omega)] at hv168_4
           replace hv168_4 := Option.some.inj (hv168_4.symm.trans hx168_4)
           injection hv168_4 with hva_ hvn_ hvc_
           rw [hva_] at ge168_4
           rw [hvc_] at ul168_4
           have HL168_4 := Aside0.mk (show Kd.V Kd.string 9 _ w.heap.size _ _ ((rd_T25 l0 x25_2).f4) from Kd.V_mk ul168_4 ge168_4)
           clear hva_ hvn_ hvc_ ge168_4 ul168_4
           have hv168_5 := hcc168 5 _ rfl
           rw [add_field _ _ 5 (by omega)] at hv168_5
           replace hv168_5 := Option.some.inj (hv168_5.symm.trans hx168_5)
           injection hv168_5 with hva_ hvn_ hvc_
           rw [hva_] at ge168_5
           rw [hvc_] at ul168_5
           have HL168_5 := Aside0.mk (show Kd.V k25 25 _ w.heap.size _ _ ((rd_T25 l0 x25_2).f5) from Kd.V_mk ul168_5 ge168_5)
           clear hva_ hvn_ hvc_ ge168_5 ul168_5
           clear hcc168 hce168
           have HR168_4 := Aside0.mk hi168_4
           have HC168_4 := Aside0.mk hl168_4
           clear hi168_4 hl168_4
           have HR168_5 := Aside0.mk hi168_5
           have HC168_5 := Aside0.mk hl168_5
           clear hi168_5 hl168_5
           replace p168 := eq_true p168
           replace q168 := eq_true q168
           go_wp2_with (first | ((with_reducible refine gate_dst (N := 9) rfl ?_); refine box_event ?hg (N := 9) ?hd (cs := #[.int .i64 0, .string (⟨#[]⟩ : ByteArray), .int .i64 0, .int .i64 0, .slice none 0 0, .slice none 0 0]) (t := 25) ?hr ?_; (case hd => rfl); (case hg => rfl); (case hr => first | (go_simp; done) | (go_simp; rfl)); intro gb169 hg w14 hbox hb; have n0_ := Aside0.mk (Kd.V_below (Kd.V_elderB (by (with_reducible repeat (first | apply Kd.V_alloc | apply Kd.V_drewN | apply Kd.V_drew)); exact HO_0.out) gb169 (Nat.le_of_eq hg.symm)) hb); have n1_ := Aside0.mk (Kd.N_below (Kd.N_elderB (by (with_reducible repeat (first | apply Kd.N_alloc | apply Kd.N_drewN | apply Kd.N_drew)); exact HO_7.out) gb169 (Nat.le_of_eq hg.symm)) hb); have n2_ := Aside0.mk (Kd.V_below (Kd.V_elderB (by (with_reducible repeat (first | apply Kd.V_alloc | apply Kd.V_drewN | apply Kd.V_drew)); exact HO_23.out) gb169 (Nat.le_of_eq hg.symm)) hb); have n3_ := Aside0.mk (Kd.V_below (Kd.V_elderB (by (with_reducible repeat (first | apply Kd.V_alloc | apply Kd.V_drewN | apply Kd.V_drew)); exact HL168_4.out) gb169 (Nat.le_of_eq hg.symm)) hb); have n4_ := Aside0.mk (Kd.V_below (Kd.V_elderB (by (with_reducible repeat (first | apply Kd.V_alloc | apply Kd.V_drewN | apply Kd.V_drew)); exact HL168_5.out) gb169 (Nat.le_of_eq hg.symm)) hb); have n5_ := Aside0.mk (Kd.C_below (by repeat ((with_reducible exact HR168_4.out))) hb); have n6_ := Aside0.mk (Kd.C_below (by repeat ((with_reducible exact HR168_5.out))) hb); have n7_ := Aside0.mk (below_step (by repeat ((with_reducible first | exact HB.out | apply below_alloc | apply pw_below_drewN | apply below_drew1))) hb); have n8_ := Aside0.mk (hbox); have n9_ := Aside0.mk ((by rw [hg]; exact (below_size (by repeat ((with_reducible first | exact HB.out | apply below_alloc | apply pw_below_drewN | apply below_drew1)))) : w.heap.size ≤ gb169)); have n10_ := Aside0.mk ((by rw [hg]; exact (below_size (by repeat ((with_reducible first | exact HB.out | apply below_alloc | apply pw_below_drewN | apply below_drew1)))) : w.heap.size ≤ gb169)); clear HO_0; clear HO_7; clear HO_23; clear HL168_4; clear HL168_5; clear HR168_4; clear HR168_5; clear HB; have HO_0 := n0_; have HO_7 := n1_; have HO_23 := n2_; have HL168_4 := n3_; have HL168_5 := n4_; have HR168_4 := n5_; have HR168_5 := n6_; have HB := n7_; have BK169 := n8_; have GW169 := n9_; have GE169 := n10_; clear n0_ n1_ n2_ n3_ n4_ n5_ n6_ n7_ n8_ n9_ n10_; clear hb hbox hg; have hcz15_0 : w14.cell? ⟨gb169, 0, none⟩ = some (.int .i64 0) := (blk_cell BK169.out 0).trans rfl; have hcz15_1 : w14.cell? ⟨gb169, 1, none⟩ = some (.string (⟨#[]⟩ : ByteArray)) := (blk_cell BK169.out 1).trans rfl; have hcz15_2 : w14.cell? ⟨gb169, 2, none⟩ = some (.int .i64 0) := (blk_cell BK169.out 2).trans rfl; have hcz15_3 : w14.cell? ⟨gb169, 3, none⟩ = some (.int .i64 0) := (blk_cell BK169.out 3).trans rfl; have hcz15_4 : w14.cell? ⟨gb169, 4, none⟩ = some (.slice none 0 0) := (blk_cell BK169.out 4).trans rfl; have hcz15_5 : w14.cell? ⟨gb169, 5, none⟩ = some (.slice none 0 0) := (blk_cell BK169.out 5).trans rfl; have hfz15_0 := blk_frozen BK169.out 0; have hfz15_1 := blk_frozen BK169.out 1; have hfz15_2 := blk_frozen BK169.out 2; have hfz15_3 := blk_frozen BK169.out 3; have hfz15_4 := blk_frozen BK169.out 4; have hfz15_5 := blk_frozen BK169.out 5) | ((with_reducible refine gate_callee (f := 22) rfl ?_); refine goesL_ (some 32) rfl rfl Try.func22 (by kernel_rfl) rfl #[.slice A1 l1.length c1, .agg #[.int .i64 ((rd_T25 l0 x25_2).f0), .string ((rd_T25 l0 x25_2).f1), .int .i64 ((rd_T25 l0 x25_2).f2), .int .i64 ((rd_T25 l0 x25_2).f3), .slice A168_4 ((rd_T25 l0 x25_2).f4).length c168_4, .slice A168_5 ((rd_T25 l0 x25_2).f5).length c168_5]] rfl (by (try simp only [List.map_toArray, List.map_cons, List.map_nil]); first | done | rfl | (simp only [List.length_drop, List.length_take]; rfl)) ?_; (with_reducible refine (cover_book_size.calls k2 _ _ l1 ((rd_T25 l0 x25_2).f0) ((rd_T25 l0 x25_2).f1) ((rd_T25 l0 x25_2).f2) ((rd_T25 l0 x25_2).f3) _ _ ((rd_T25 l0 x25_2).f4) _ _ ((rd_T25 l0 x25_2).f5) t170 true _ ?side1 ?side2 ?side3 ?side4 ?side5 ?side6 A11.out).mono ?_); (case side1 => exact Kd.C_below HR1.out (by repeat ((with_reducible first | exact HB.out | apply below_alloc | apply pw_below_drewN | apply below_drew1 | refine below_set ?_ GE169.out)))); (case side2 => exact HC1.out); (case side3 => repeat (exact ((Kd.V_reads' (by (with_reducible repeat (first | apply Kd.V_alloc | apply Kd.V_drewN | apply Kd.V_drew)); exact (Kd.V_mono (Kd.V_far (p := ⟨gb169, 5, none⟩) (Kd.V_far (p := ⟨gb169, 4, none⟩) (Kd.V_far (p := ⟨gb169, 3, none⟩) (Kd.V_far (p := ⟨gb169, 2, none⟩) (Kd.V_far (p := ⟨gb169, 1, none⟩) (Kd.V_far (p := ⟨gb169, 0, none⟩) (Kd.V_mono HL168_4.out (fun k_ hk => (⟨hk, hk.2⟩ : _ ∧ k_ ≠ gb169))) (fun _ hk => hk.2) (.int .i64 ((rd_T25 l0 x25_2).f0))) (fun _ hk => hk.2) (.string ((rd_T25 l0 x25_2).f1))) (fun _ hk => hk.2) (.int .i64 ((rd_T25 l0 x25_2).f2))) (fun _ hk => hk.2) (.int .i64 ((rd_T25 l0 x25_2).f3))) (fun _ hk => hk.2) (.slice A168_4 ((rd_T25 l0 x25_2).f4).length c168_4)) (fun _ hk => hk.2) (.slice A168_5 ((rd_T25 l0 x25_2).f5).length c168_5)) (fun _ h_ => h_.1)))).2.2))); (case side4 => exact HC168_4.out); (case side5 => repeat (exact ((Kd.V_reads' (by (with_reducible repeat (first | apply Kd.V_alloc | apply Kd.V_drewN | apply Kd.V_drew)); exact (Kd.V_mono (Kd.V_far (p := ⟨gb169, 5, none⟩) (Kd.V_far (p := ⟨gb169, 4, none⟩) (Kd.V_far (p := ⟨gb169, 3, none⟩) (Kd.V_far (p := ⟨gb169, 2, none⟩) (Kd.V_far (p := ⟨gb169, 1, none⟩) (Kd.V_far (p := ⟨gb169, 0, none⟩) (Kd.V_mono HL168_5.out (fun k_ hk => (⟨hk, hk.2⟩ : _ ∧ k_ ≠ gb169))) (fun _ hk => hk.2) (.int .i64 ((rd_T25 l0 x25_2).f0))) (fun _ hk => hk.2) (.string ((rd_T25 l0 x25_2).f1))) (fun _ hk => hk.2) (.int .i64 ((rd_T25 l0 x25_2).f2))) (fun _ hk => hk.2) (.int .i64 ((rd_T25 l0 x25_2).f3))) (fun _ hk => hk.2) (.slice A168_4 ((rd_T25 l0 x25_2).f4).length c168_4)) (fun _ hk => hk.2) (.slice A168_5 ((rd_T25 l0 x25_2).f5).length c168_5)) (fun _ h_ => h_.1)))).2.2))); (case side6 => exact HC168_5.out); rintro e w16 ⟨rfl, hb⟩; refine ⟨_, rfl, ?_⟩; have n0_ := Aside0.mk (Kd.V_below (by (with_reducible repeat (first | apply Kd.V_alloc | apply Kd.V_drewN | apply Kd.V_drew)); exact (Kd.V_mono (Kd.V_far (p := ⟨gb169, 5, none⟩) (Kd.V_far (p := ⟨gb169, 4, none⟩) (Kd.V_far (p := ⟨gb169, 3, none⟩) (Kd.V_far (p := ⟨gb169, 2, none⟩) (Kd.V_far (p := ⟨gb169, 1, none⟩) (Kd.V_far (p := ⟨gb169, 0, none⟩) (Kd.V_mono HO_0.out (fun k_ hk => (⟨hk, hk.2⟩ : _ ∧ k_ ≠ gb169))) (fun _ hk => hk.2) (.int .i64 ((rd_T25 l0 x25_2).f0))) (fun _ hk => hk.2) (.string ((rd_T25 l0 x25_2).f1))) (fun _ hk => hk.2) (.int .i64 ((rd_T25 l0 x25_2).f2))) (fun _ hk => hk.2) (.int .i64 ((rd_T25 l0 x25_2).f3))) (fun _ hk => hk.2) (.slice A168_4 ((rd_T25 l0 x25_2).f4).length c168_4)) (fun _ hk => hk.2) (.slice A168_5 ((rd_T25 l0 x25_2).f5).length c168_5)) (fun _ h_ => h_.1))) hb); have n1_ := Aside0.mk (Kd.N_below (by (with_reducible repeat (first | apply Kd.N_alloc | apply Kd.N_drewN | apply Kd.N_drew)); exact (Kd.N_mono (Kd.N_far (p := ⟨gb169, 5, none⟩) (Kd.N_far (p := ⟨gb169, 4, none⟩) (Kd.N_far (p := ⟨gb169, 3, none⟩) (Kd.N_far (p := ⟨gb169, 2, none⟩) (Kd.N_far (p := ⟨gb169, 1, none⟩) (Kd.N_far (p := ⟨gb169, 0, none⟩) (Kd.N_mono HO_7.out (fun k_ hk => (⟨hk, hk.2⟩ : _ ∧ k_ ≠ gb169))) (fun _ hk => hk.2) (.int .i64 ((rd_T25 l0 x25_2).f0))) (fun _ hk => hk.2) (.string ((rd_T25 l0 x25_2).f1))) (fun _ hk => hk.2) (.int .i64 ((rd_T25 l0 x25_2).f2))) (fun _ hk => hk.2) (.int .i64 ((rd_T25 l0 x25_2).f3))) (fun _ hk => hk.2) (.slice A168_4 ((rd_T25 l0 x25_2).f4).length c168_4)) (fun _ hk => hk.2) (.slice A168_5 ((rd_T25 l0 x25_2).f5).length c168_5)) (fun _ h_ => h_.1))) hb); have n2_ := Aside0.mk (Kd.V_below (by (with_reducible repeat (first | apply Kd.V_alloc | apply Kd.V_drewN | apply Kd.V_drew)); exact (Kd.V_mono (Kd.V_far (p := ⟨gb169, 5, none⟩) (Kd.V_far (p := ⟨gb169, 4, none⟩) (Kd.V_far (p := ⟨gb169, 3, none⟩) (Kd.V_far (p := ⟨gb169, 2, none⟩) (Kd.V_far (p := ⟨gb169, 1, none⟩) (Kd.V_far (p := ⟨gb169, 0, none⟩) (Kd.V_mono HO_23.out (fun k_ hk => (⟨hk, hk.2⟩ : _ ∧ k_ ≠ gb169))) (fun _ hk => hk.2) (.int .i64 ((rd_T25 l0 x25_2).f0))) (fun _ hk => hk.2) (.string ((rd_T25 l0 x25_2).f1))) (fun _ hk => hk.2) (.int .i64 ((rd_T25 l0 x25_2).f2))) (fun _ hk => hk.2) (.int .i64 ((rd_T25 l0 x25_2).f3))) (fun _ hk => hk.2) (.slice A168_4 ((rd_T25 l0 x25_2).f4).length c168_4)) (fun _ hk => hk.2) (.slice A168_5 ((rd_T25 l0 x25_2).f5).length c168_5)) (fun _ h_ => h_.1))) hb); have n3_ := Aside0.mk (Kd.V_below (by (with_reducible repeat (first | apply Kd.V_alloc | apply Kd.V_drewN | apply Kd.V_drew)); exact (Kd.V_mono (Kd.V_far (p := ⟨gb169, 5, none⟩) (Kd.V_far (p := ⟨gb169, 4, none⟩) (Kd.V_far (p := ⟨gb169, 3, none⟩) (Kd.V_far (p := ⟨gb169, 2, none⟩) (Kd.V_far (p := ⟨gb169, 1, none⟩) (Kd.V_far (p := ⟨gb169, 0, none⟩) (Kd.V_mono HL168_4.out (fun k_ hk => (⟨hk, hk.2⟩ : _ ∧ k_ ≠ gb169))) (fun _ hk => hk.2) (.int .i64 ((rd_T25 l0 x25_2).f0))) (fun _ hk => hk.2) (.string ((rd_T25 l0 x25_2).f1))) (fun _ hk => hk.2) (.int .i64 ((rd_T25 l0 x25_2).f2))) (fun _ hk => hk.2) (.int .i64 ((rd_T25 l0 x25_2).f3))) (fun _ hk => hk.2) (.slice A168_4 ((rd_T25 l0 x25_2).f4).length c168_4)) (fun _ hk => hk.2) (.slice A168_5 ((rd_T25 l0 x25_2).f5).length c168_5)) (fun _ h_ => h_.1))) hb); have n4_ := Aside0.mk (Kd.V_below (by (with_reducible repeat (first | apply Kd.V_alloc | apply Kd.V_drewN | apply Kd.V_drew)); exact (Kd.V_mono (Kd.V_far (p := ⟨gb169, 5, none⟩) (Kd.V_far (p := ⟨gb169, 4, none⟩) (Kd.V_far (p := ⟨gb169, 3, none⟩) (Kd.V_far (p := ⟨gb169, 2, none⟩) (Kd.V_far (p := ⟨gb169, 1, none⟩) (Kd.V_far (p := ⟨gb169, 0, none⟩) (Kd.V_mono HL168_5.out (fun k_ hk => (⟨hk, hk.2⟩ : _ ∧ k_ ≠ gb169))) (fun _ hk => hk.2) (.int .i64 ((rd_T25 l0 x25_2).f0))) (fun _ hk => hk.2) (.string ((rd_T25 l0 x25_2).f1))) (fun _ hk => hk.2) (.int .i64 ((rd_T25 l0 x25_2).f2))) (fun _ hk => hk.2) (.int .i64 ((rd_T25 l0 x25_2).f3))) (fun _ hk => hk.2) (.slice A168_4 ((rd_T25 l0 x25_2).f4).length c168_4)) (fun _ hk => hk.2) (.slice A168_5 ((rd_T25 l0 x25_2).f5).length c168_5)) (fun _ h_ => h_.1))) hb); have n5_ := Aside0.mk (Kd.C_below ((Kd.V_reads' (by (with_reducible repeat (first | apply Kd.V_alloc | apply Kd.V_drewN | apply Kd.V_drew)); exact (Kd.V_mono (Kd.V_far (p := ⟨gb169, 5, none⟩) (Kd.V_far (p := ⟨gb169, 4, none⟩) (Kd.V_far (p := ⟨gb169, 3, none⟩) (Kd.V_far (p := ⟨gb169, 2, none⟩) (Kd.V_far (p := ⟨gb169, 1, none⟩) (Kd.V_far (p := ⟨gb169, 0, none⟩) (Kd.V_mono HL168_4.out (fun k_ hk => (⟨hk, hk.2⟩ : _ ∧ k_ ≠ gb169))) (fun _ hk => hk.2) (.int .i64 ((rd_T25 l0 x25_2).f0))) (fun _ hk => hk.2) (.string ((rd_T25 l0 x25_2).f1))) (fun _ hk => hk.2) (.int .i64 ((rd_T25 l0 x25_2).f2))) (fun _ hk => hk.2) (.int .i64 ((rd_T25 l0 x25_2).f3))) (fun _ hk => hk.2) (.slice A168_4 ((rd_T25 l0 x25_2).f4).length c168_4)) (fun _ hk => hk.2) (.slice A168_5 ((rd_T25 l0 x25_2).f5).length c168_5)) (fun _ h_ => h_.1)))).2.2) hb); have n6_ := Aside0.mk (Kd.C_below ((Kd.V_reads' (by (with_reducible repeat (first | apply Kd.V_alloc | apply Kd.V_drewN | apply Kd.V_drew)); exact (Kd.V_mono (Kd.V_far (p := ⟨gb169, 5, none⟩) (Kd.V_far (p := ⟨gb169, 4, none⟩) (Kd.V_far (p := ⟨gb169, 3, none⟩) (Kd.V_far (p := ⟨gb169, 2, none⟩) (Kd.V_far (p := ⟨gb169, 1, none⟩) (Kd.V_far (p := ⟨gb169, 0, none⟩) (Kd.V_mono HL168_5.out (fun k_ hk => (⟨hk, hk.2⟩ : _ ∧ k_ ≠ gb169))) (fun _ hk => hk.2) (.int .i64 ((rd_T25 l0 x25_2).f0))) (fun _ hk => hk.2) (.string ((rd_T25 l0 x25_2).f1))) (fun _ hk => hk.2) (.int .i64 ((rd_T25 l0 x25_2).f2))) (fun _ hk => hk.2) (.int .i64 ((rd_T25 l0 x25_2).f3))) (fun _ hk => hk.2) (.slice A168_4 ((rd_T25 l0 x25_2).f4).length c168_4)) (fun _ hk => hk.2) (.slice A168_5 ((rd_T25 l0 x25_2).f5).length c168_5)) (fun _ h_ => h_.1)))).2.2) hb); have n7_ := Aside0.mk (blk_below (g := gb169) (o := .cells #[.int .i64 ((rd_T25 l0 x25_2).f0), .string ((rd_T25 l0 x25_2).f1), .int .i64 ((rd_T25 l0 x25_2).f2), .int .i64 ((rd_T25 l0 x25_2).f3), .slice A168_4 ((rd_T25 l0 x25_2).f4).length c168_4, .slice A168_5 ((rd_T25 l0 x25_2).f5).length c168_5] 25 (0, 0)) (by (with_reducible repeat (first | refine blk_drewN ?_ _ | refine blk_drew ?_ | refine blk_alloc ?_ _)); refine blk_put (cs := #[.int .i64 ((rd_T25 l0 x25_2).f0), .string ((rd_T25 l0 x25_2).f1), .int .i64 ((rd_T25 l0 x25_2).f2), .int .i64 ((rd_T25 l0 x25_2).f3), .slice A168_4 ((rd_T25 l0 x25_2).f4).length c168_4, .slice none 0 0]) ?_ 5 _ rfl; (with_reducible repeat (first | refine blk_drewN ?_ _ | refine blk_drew ?_ | refine blk_alloc ?_ _)); refine blk_put (cs := #[.int .i64 ((rd_T25 l0 x25_2).f0), .string ((rd_T25 l0 x25_2).f1), .int .i64 ((rd_T25 l0 x25_2).f2), .int .i64 ((rd_T25 l0 x25_2).f3), .slice none 0 0, .slice none 0 0]) ?_ 4 _ rfl; (with_reducible repeat (first | refine blk_drewN ?_ _ | refine blk_drew ?_ | refine blk_alloc ?_ _)); refine blk_put (cs := #[.int .i64 ((rd_T25 l0 x25_2).f0), .string ((rd_T25 l0 x25_2).f1), .int .i64 ((rd_T25 l0 x25_2).f2), .int .i64 0, .slice none 0 0, .slice none 0 0]) ?_ 3 _ rfl; (with_reducible repeat (first | refine blk_drewN ?_ _ | refine blk_drew ?_ | refine blk_alloc ?_ _)); refine blk_put (cs := #[.int .i64 ((rd_T25 l0 x25_2).f0), .string ((rd_T25 l0 x25_2).f1), .int .i64 0, .int .i64 0, .slice none 0 0, .slice none 0 0]) ?_ 2 _ rfl; (with_reducible repeat (first | refine blk_drewN ?_ _ | refine blk_drew ?_ | refine blk_alloc ?_ _)); refine blk_put (cs := #[.int .i64 ((rd_T25 l0 x25_2).f0), .string (⟨#[]⟩ : ByteArray), .int .i64 0, .int .i64 0, .slice none 0 0, .slice none 0 0]) ?_ 1 _ rfl; (with_reducible repeat (first | refine blk_drewN ?_ _ | refine blk_drew ?_ | refine blk_alloc ?_ _)); refine blk_put (cs := #[.int .i64 0, .string (⟨#[]⟩ : ByteArray), .int .i64 0, .int .i64 0, .slice none 0 0, .slice none 0 0]) ?_ 0 _ rfl; (with_reducible repeat (first | refine blk_drewN ?_ _ | refine blk_drew ?_ | refine blk_alloc ?_ _)); exact BK169.out) hb); have n8_ := Aside0.mk (below_step (by repeat ((with_reducible first | exact HB.out | apply below_alloc | apply pw_below_drewN | apply below_drew1 | refine below_set ?_ GE169.out))) hb); clear HO_0; clear HO_7; clear HO_23; clear HL168_4; clear HL168_5; clear HR168_4; clear HR168_5; clear BK169; clear HB; have HO_0 := n0_; have HO_7 := n1_; have HO_23 := n2_; have HL168_4 := n3_; have HL168_5 := n4_; have HR168_4 := n5_; have HR168_5 := n6_; have BK169 := n7_; have HB := n8_; clear n0_ n1_ n2_ n3_ n4_ n5_ n6_ n7_ n8_; (try clear hb); (try clear hb2); (try clear hk); (try clear hi); have hcz17_0 : w16.cell? ⟨gb169, 0, none⟩ = some (.int .i64 ((rd_T25 l0 x25_2).f0)) := (blk_cell BK169.out 0).trans rfl; have hcz17_1 : w16.cell? ⟨gb169, 1, none⟩ = some (.string ((rd_T25 l0 x25_2).f1)) := (blk_cell BK169.out 1).trans rfl; have hcz17_2 : w16.cell? ⟨gb169, 2, none⟩ = some (.int .i64 ((rd_T25 l0 x25_2).f2)) := (blk_cell BK169.out 2).trans rfl; have hcz17_3 : w16.cell? ⟨gb169, 3, none⟩ = some (.int .i64 ((rd_T25 l0 x25_2).f3)) := (blk_cell BK169.out 3).trans rfl; have hcz17_4 : w16.cell? ⟨gb169, 4, none⟩ = some (.slice A168_4 ((rd_T25 l0 x25_2).f4).length c168_4) := (blk_cell BK169.out 4).trans rfl; have hcz17_5 : w16.cell? ⟨gb169, 5, none⟩ = some (.slice A168_5 ((rd_T25 l0 x25_2).f5).length c168_5) := (blk_cell BK169.out 5).trans rfl; have hfz17_0 := blk_frozen BK169.out 0; have hfz17_1 := blk_frozen BK169.out 1; have hfz17_2 := blk_frozen BK169.out 2; have hfz17_3 := blk_frozen BK169.out 3; have hfz17_4 := blk_frozen BK169.out 4; have hfz17_5 := blk_frozen BK169.out 5) | ((with_reducible refine gate_dst (N := 39) rfl ?_); refine Kd.N_lit k25 _ 25 ?hg (N' := 39) ?hd (xs := ([(⟨(rd_T25 l0 x25_2).f0, (rd_T25 l0 x25_2).f1, (rd_T25 l0 x25_2).f2, (rd_T25 l0 x25_2).f3, (rd_T25 l0 x25_2).f4, (rd_T25 l0 x25_2).f5⟩ : S25)] : List (S25))) (inner := [.int .i64 ((rd_T25 l0 x25_2).f0), .string ((rd_T25 l0 x25_2).f1), .int .i64 ((rd_T25 l0 x25_2).f2), .int .i64 ((rd_T25 l0 x25_2).f3), .slice A168_4 ((rd_T25 l0 x25_2).f4).length c168_4, .slice A168_5 ((rd_T25 l0 x25_2).f5).length c168_5]) (ok := (fun k_ => (P0_ k_ ∨ w.heap.size ≤ k_) ∧ some k_ ≠ (u7 : Value).ownBlock ∧ k_ ≠ gb169)) (okp := (fun k_ => (P0_ k_ ∨ w.heap.size ≤ k_) ∧ some k_ ≠ (u7 : Value).ownBlock ∧ k_ ≠ gb169)) ?hr ?hp (fun _ hk => hk) ((show ∀ k_, w16.heap.size ≤ k_ → (fun k_ => (P0_ k_ ∨ w.heap.size ≤ k_) ∧ some k_ ≠ (u7 : Value).ownBlock ∧ k_ ≠ gb169) k_ from fun k_ hk => ⟨(.inr (Nat.le_trans (below_size (by repeat ((with_reducible first | exact HB.out | apply below_alloc | apply pw_below_drewN | apply below_drew1 | refine below_set ?_ GE169.out)))) hk)), Kd.fresh' (Kd.N_lt (by (with_reducible repeat (first | apply Kd.N_alloc | apply Kd.N_drewN | apply Kd.N_drew)); exact HO_7.out)) k_ hk, Kd.freshB (g := gb169) (o := .cells #[.int .i64 ((rd_T25 l0 x25_2).f0), .string ((rd_T25 l0 x25_2).f1), .int .i64 ((rd_T25 l0 x25_2).f2), .int .i64 ((rd_T25 l0 x25_2).f3), .slice A168_4 ((rd_T25 l0 x25_2).f4).length c168_4, .slice A168_5 ((rd_T25 l0 x25_2).f5).length c168_5] 25 (0, 0)) (by (with_reducible repeat (first | refine blk_drewN ?_ _ | refine blk_drew ?_ | refine blk_alloc ?_ _)); exact BK169.out) k_ hk⟩) _ (Nat.le_refl _)) (Below.refl _ _) (Nat.le_refl _) (by simp) ?_; (case hd => rfl); (case hg => rfl); (case hr => first | (go_simp; done) | (go_simp; rfl)); (case hp => exact (Reps.c6 (show Kd.FK k25 _ _ (⟨(rd_T25 l0 x25_2).f0, (rd_T25 l0 x25_2).f1, (rd_T25 l0 x25_2).f2, (rd_T25 l0 x25_2).f3, (rd_T25 l0 x25_2).f4, (rd_T25 l0 x25_2).f5⟩ : S25) [.int .i64 ((rd_T25 l0 x25_2).f0), .string ((rd_T25 l0 x25_2).f1), .int .i64 ((rd_T25 l0 x25_2).f2), .int .i64 ((rd_T25 l0 x25_2).f3), .slice A168_4 ((rd_T25 l0 x25_2).f4).length c168_4, .slice A168_5 ((rd_T25 l0 x25_2).f5).length c168_5] from (k25_mkF _ _ (⟨(rd_T25 l0 x25_2).f0, (rd_T25 l0 x25_2).f1, (rd_T25 l0 x25_2).f2, (rd_T25 l0 x25_2).f3, (rd_T25 l0 x25_2).f4, (rd_T25 l0 x25_2).f5⟩ : S25) (Kd.V_reads' (Kd.V_mono (ok' := (fun k_ => (P0_ k_ ∨ w.heap.size ≤ k_) ∧ some k_ ≠ (u7 : Value).ownBlock ∧ k_ ≠ gb169)) (HL168_4.out) (fun k_ hk => ⟨hk.1.1, ⟨hk.1.2, hk.2⟩⟩))).2.1 (Kd.V_F (Kd.V_mono (ok' := (fun k_ => (P0_ k_ ∨ w.heap.size ≤ k_) ∧ some k_ ≠ (u7 : Value).ownBlock ∧ k_ ≠ gb169)) (HL168_4.out) (fun k_ hk => ⟨hk.1.1, ⟨hk.1.2, hk.2⟩⟩))) (Kd.V_reads' (Kd.V_mono (ok' := (fun k_ => (P0_ k_ ∨ w.heap.size ≤ k_) ∧ some k_ ≠ (u7 : Value).ownBlock ∧ k_ ≠ gb169)) (HL168_5.out) (fun k_ hk => ⟨hk.1.1, ⟨hk.1.2, hk.2⟩⟩))).2.1 (Kd.V_F (Kd.V_mono (ok' := (fun k_ => (P0_ k_ ∨ w.heap.size ≤ k_) ∧ some k_ ≠ (u7 : Value).ownBlock ∧ k_ ≠ gb169)) (HL168_5.out) (fun k_ hk => ⟨hk.1.1, ⟨hk.1.2, hk.2⟩⟩))))) (Reps.none _ _))); intro v173 w18 ho19 hb hg_ hnew_; clear hg_ hnew_; (first | rw [← Ny172.out] at ho19 | (simp only [Int.reduceToNat] at ho19; rw [← Ny172.out] at ho19)); have n0_ := Aside0.mk (Kd.V_elder' (by (with_reducible repeat (first | apply Kd.V_alloc | apply Kd.V_drewN | apply Kd.V_drew)); exact HO_0.out) (Kd.N_base ho19) hb); have n1_ := Aside0.mk (Kd.N_elder' (by (with_reducible repeat (first | apply Kd.N_alloc | apply Kd.N_drewN | apply Kd.N_drew)); exact HO_7.out) (Kd.N_base ho19) hb); have n2_ := Aside0.mk (Kd.V_elder' (by (with_reducible repeat (first | apply Kd.V_alloc | apply Kd.V_drewN | apply Kd.V_drew)); exact HO_23.out) (Kd.N_base ho19) hb); have n3_ := Aside0.mk (Kd.V_elder' (by (with_reducible repeat (first | apply Kd.V_alloc | apply Kd.V_drewN | apply Kd.V_drew)); exact HL168_4.out) (Kd.N_base ho19) hb); have n4_ := Aside0.mk (Kd.V_elder' (by (with_reducible repeat (first | apply Kd.V_alloc | apply Kd.V_drewN | apply Kd.V_drew)); exact HL168_5.out) (Kd.N_base ho19) hb); have n5_ := Aside0.mk (Kd.N_lower ho19 (below_size (by repeat ((with_reducible first | exact HB.out | apply below_alloc | apply pw_below_drewN | apply below_drew1 | refine below_set ?_ GE169.out))))); have n6_ := Aside0.mk (Kd.C_below (by repeat ((with_reducible exact HR168_4.out))) hb); have n7_ := Aside0.mk (Kd.C_below (by repeat ((with_reducible exact HR168_5.out))) hb); have n8_ := Aside0.mk (blk_below (g := gb169) (o := .cells #[.int .i64 ((rd_T25 l0 x25_2).f0), .string ((rd_T25 l0 x25_2).f1), .int .i64 ((rd_T25 l0 x25_2).f2), .int .i64 ((rd_T25 l0 x25_2).f3), .slice A168_4 ((rd_T25 l0 x25_2).f4).length c168_4, .slice A168_5 ((rd_T25 l0 x25_2).f5).length c168_5] 25 (0, 0)) (by (with_reducible repeat (first | refine blk_drewN ?_ _ | refine blk_drew ?_ | refine blk_alloc ?_ _)); exact BK169.out) hb); have n9_ := Aside0.mk (below_step (by repeat ((with_reducible first | exact HB.out | apply below_alloc | apply pw_below_drewN | apply below_drew1 | refine below_set ?_ GE169.out))) hb); clear HO_0; clear HO_7; clear HO_23; clear HL168_4; clear HL168_5; clear HR168_4; clear HR168_5; clear BK169; clear HB; have HO_0 := n0_; have HO_7 := n1_; have HO_23 := n2_; have HL168_4 := n3_; have HL168_5 := n4_; have HO174 := n5_; have HR168_4 := n6_; have HR168_5 := n7_; have BK169 := n8_; have HB := n9_; clear n0_ n1_ n2_ n3_ n4_ n5_ n6_ n7_ n8_ n9_; clear hb ho19; obtain ⟨Ao21, co21, eo21⟩ := Kd.N_slice HO174.out; subst eo21) | ((with_reducible refine gate_builtin (b := .append) (xs := #[.tmp 37, .tmp 40]) rfl ?_); at_builtin; refine Kd.N_append (Kd.slice 25 k25) (w0 := w) w.heap.size rfl (.tmp 37) (.tmp 40) 53 22 (.slice none 0 0) 24 rfl Try.underlying53 info22 rfl (by decide) (by omega) u7 x7_2 y172 [.slice Ao21 y172.length co21] (fun k_ => (P0_ k_ ∨ w.heap.size ≤ k_) ∧ k_ ≠ gb169) (fun k_ => ((fun k_ => (P0_ k_ ∨ w.heap.size ≤ k_) ∧ k_ ≠ gb169)) k_ ∧ some k_ ≠ (u7 : Value).ownBlock) rfl rfl ?aP (fun _ hk => hk) ?aF ?aO ?aB ?aS ?aL ?_; (case aP => exact (Kd.FK_slice_mk (Kd.N_reads' (Kd.N_mono (ok' := (fun k_ => ((fun k_ => (P0_ k_ ∨ w.heap.size ≤ k_) ∧ k_ ≠ gb169)) k_ ∧ some k_ ≠ (u7 : Value).ownBlock)) (HO174.out) (fun k_ hk => ⟨⟨hk.1, hk.2.2⟩, hk.2.1⟩))).2.1 (Kd.N_F (Kd.N_mono (ok' := (fun k_ => ((fun k_ => (P0_ k_ ∨ w.heap.size ≤ k_) ∧ k_ ≠ gb169)) k_ ∧ some k_ ≠ (u7 : Value).ownBlock)) (HO174.out) (fun k_ hk => ⟨⟨hk.1, hk.2.2⟩, hk.2.1⟩))))); (case aB => exact (by repeat ((with_reducible first | exact HB.out | apply below_alloc | apply pw_below_drewN | apply below_drew1 | refine below_set ?_ GE169.out)))); (case aF => exact (fun k_ hk => ⟨(.inr (Nat.le_trans (below_size (by repeat ((with_reducible first | exact HB.out | apply below_alloc | apply pw_below_drewN | apply below_drew1 | refine below_set ?_ GE169.out)))) hk)), Kd.freshB (g := gb169) (o := .cells #[.int .i64 ((rd_T25 l0 x25_2).f0), .string ((rd_T25 l0 x25_2).f1), .int .i64 ((rd_T25 l0 x25_2).f2), .int .i64 ((rd_T25 l0 x25_2).f3), .slice A168_4 ((rd_T25 l0 x25_2).f4).length c168_4, .slice A168_5 ((rd_T25 l0 x25_2).f5).length c168_5] 25 (0, 0)) (by (with_reducible repeat (first | refine blk_drewN ?_ _ | refine blk_drew ?_ | refine blk_alloc ?_ _)); exact BK169.out) k_ hk⟩)); (case aO => exact (by (with_reducible repeat (first | apply Kd.N_alloc | apply Kd.N_drewN | apply Kd.N_drew)); exact Kd.N_mono HO_7.out (fun _ hk => ⟨hk.1.1, hk.1.2⟩))); (case aS => exact (below_size (by repeat ((with_reducible first | exact HB.out | apply below_alloc | apply pw_below_drewN | apply below_drew1 | refine below_set ?_ GE169.out))))); (case aL => have := LMc13.out; omega); intro v176 w20 ho hb hg hat; rw [← Ny175.out] at ho; have n0_ := Aside0.mk (Kd.V_afterv (ok := (fun k_ => (P0_ k_ ∨ w.heap.size ≤ k_) ∧ some k_ ≠ (.slice Ao21 y172.length co21 : Value).ownBlock ∧ k_ ≠ gb169)) (by (with_reducible repeat (first | apply Kd.V_alloc | apply Kd.V_drewN | apply Kd.V_drew)); exact Kd.V_mono HO_0.out (fun _ hk => ⟨⟨hk.1.1.1, ⟨hk.2, hk.1.2⟩⟩, hk.1.1.2⟩)) hg hat); have n1_ := Aside0.mk (Kd.V_afterv (ok := (fun k_ => (P0_ k_ ∨ w.heap.size ≤ k_) ∧ some k_ ≠ (.slice Ao21 y172.length co21 : Value).ownBlock ∧ k_ ≠ gb169)) (by (with_reducible repeat (first | apply Kd.V_alloc | apply Kd.V_drewN | apply Kd.V_drew)); exact Kd.V_mono HO_23.out (fun _ hk => ⟨⟨hk.1.1.1, ⟨hk.2, hk.1.2⟩⟩, hk.1.1.2⟩)) hg hat); have n2_ := Aside0.mk (Kd.V_afterv (ok := (fun k_ => (P0_ k_ ∨ w.heap.size ≤ k_) ∧ some k_ ≠ (.slice Ao21 y172.length co21 : Value).ownBlock ∧ k_ ≠ gb169)) (by (with_reducible repeat (first | apply Kd.V_alloc | apply Kd.V_drewN | apply Kd.V_drew)); exact Kd.V_mono HL168_4.out (fun _ hk => ⟨⟨hk.1.1.1, ⟨hk.2, hk.1.2⟩⟩, hk.1.1.2⟩)) hg hat); have n3_ := Aside0.mk (Kd.V_afterv (ok := (fun k_ => (P0_ k_ ∨ w.heap.size ≤ k_) ∧ some k_ ≠ (.slice Ao21 y172.length co21 : Value).ownBlock ∧ k_ ≠ gb169)) (by (with_reducible repeat (first | apply Kd.V_alloc | apply Kd.V_drewN | apply Kd.V_drew)); exact Kd.V_mono HL168_5.out (fun _ hk => ⟨⟨hk.1.1.1, ⟨hk.2, hk.1.2⟩⟩, hk.1.1.2⟩)) hg hat); have n4_ := Aside0.mk (blk_grown (g := gb169) (o := .cells #[.int .i64 ((rd_T25 l0 x25_2).f0), .string ((rd_T25 l0 x25_2).f1), .int .i64 ((rd_T25 l0 x25_2).f2), .int .i64 ((rd_T25 l0 x25_2).f3), .slice A168_4 ((rd_T25 l0 x25_2).f4).length c168_4, .slice A168_5 ((rd_T25 l0 x25_2).f5).length c168_5] 25 (0, 0)) (by (with_reducible repeat (first | refine blk_drewN ?_ _ | refine blk_drew ?_ | refine blk_alloc ?_ _)); exact BK169.out) hg (Kd.N_ne HO_7.out BK169.out (by decide))); have n5_ := Aside0.mk (hb); have n6_ := Aside0.mk (ho); clear HO_0; clear HO_23; clear HL168_4; clear HL168_5; clear BK169; clear HB; clear HO_7; clear HO174; have HO_0 := n0_; have HO_23 := n1_; have HL168_4 := n2_; have HL168_5 := n3_; have BK169 := n4_; have HB := n5_; have HO177 := n6_; clear n0_ n1_ n2_ n3_ n4_ n5_ n6_; clear ho hb hg hat))
           go_roundg k2
           case measure => have := HJ2.out; have := HK2.out; omega
           case rel => exact ⟨(y175), (wrap64 (x25_2 + 1)), (by first | rfl | (simp; done) | (simp [*]; done)), H', ⟨by have := HJ2.out; have := HK2.out; omega⟩, ⟨by (with_reducible repeat (first | apply Kd.V_alloc | apply Kd.V_drewN | apply Kd.V_drew)); exact Kd.V_mono HO_0.out (fun _ hk => ⟨hk.1.1, hk.2⟩)⟩, ⟨by (with_reducible repeat (first | apply Kd.N_alloc | apply Kd.N_drewN | apply Kd.N_drew)); exact Kd.N_mono HO177.out (fun _ hk => hk.1)⟩, ⟨by (with_reducible repeat (first | apply Kd.V_alloc | apply Kd.V_drewN | apply Kd.V_drew)); exact Kd.V_mono HO_23.out (fun _ hk => ⟨hk.1.1, hk.2⟩)⟩, ⟨by repeat ((with_reducible first | exact HB.out | apply below_alloc | apply pw_below_drewN | apply below_drew1 | refine below_set ?_ GE169.out))⟩⟩
          ·
           rw [if_neg c13] at H
           exact absurd H (by simp)
         ·
          replace c12 := Bool.eq_false_iff.mpr c12
          subst c12
          have H1 : (some (0, 1)) = some (r1, r2) := by rw [if_neg (show ¬ (false = true) by decide)] at H; exact H
          clear H
          have H := H1
          clear H1
          simp only [Option.some.injEq, Prod.mk.injEq] at H
          obtain ⟨rfl, rfl⟩ := H
          have p168 : 0 ≤ (x25_2 : Int) := of_decide_eq_true (by first | (with_reducible assumption) | assumption)
          have q168 : x25_2 < (l0.length : Int) := of_decide_eq_true (by first | (with_reducible assumption) | assumption)
          obtain ⟨ad168, A168_4, c168_4, A168_5, c168_5, e168, hx168_0, hx168_1, hx168_2, hx168_3, hx168_4, hx168_5, hl168_4, hi168_4, hl168_5, hi168_5⟩ := at_T25 (Kd.V_reads' HO_23.out).2.2 x25_2 p168 q168
          cases e168
          obtain ⟨ce168, hce168, hMe168, hcc168⟩ := Kd.V_get HO_23.out z25 x25_2 p168 (by first | exact q168 | exact of_decide_eq_true (by first | (with_reducible assumption) | assumption) | (have e_ := (Kd.V_reads' HO_23.out).1; omega))
          obtain ⟨ua168_4, uc168_4, ua168_5, uc168_5, rfl, ul168_4, ge168_4, ul168_5, ge168_5⟩ := k25_openF hMe168
          have hv168_4 := hcc168 4 _ rfl
          rw [add_field _ _ 4 (by omega)] at hv168_4
          replace hv168_4 := Option.some.inj (hv168_4.symm.trans hx168_4)
          injection hv168_4 with hva_ hvn_ hvc_
          rw [hva_] at ge168_4
          rw [hvc_] at ul168_4
          have HL168_4 := Aside0.mk (show Kd.V Kd.string 9 _ w.heap.size _ _ ((rd_T25 l0 x25_2).f4) from Kd.V_mk ul168_4 ge168_4)
          clear hva_ hvn_ hvc_ ge168_4 ul168_4
          have hv168_5 := hcc168 5 _ rfl
          rw [add_field _ _ 5 (by omega)] at hv168_5
          replace hv168_5 := Option.some.inj (hv168_5.symm.trans hx168_5)
          injection hv168_5 with hva_ hvn_ hvc_
          rw [hva_] at ge168_5
          rw [hvc_] at ul168_5
          have HL168_5 := Aside0.mk (show Kd.V k25 25 _ w.heap.size _ _ ((rd_T25 l0 x25_2).f5) from Kd.V_mk ul168_5 ge168_5)
          clear hva_ hvn_ hvc_ ge168_5 ul168_5
          clear hcc168 hce168
          have HR168_4 := Aside0.mk hi168_4
          have HC168_4 := Aside0.mk hl168_4
          clear hi168_4 hl168_4
          have HR168_5 := Aside0.mk hi168_5
          have HC168_5 := Aside0.mk hl168_5
          clear hi168_5 hl168_5
          replace p168 := eq_true p168
          replace q168 := eq_true q168
          go_wp2_with (first | ((with_reducible refine gate_dst (N := 9) rfl ?_); refine box_event ?hg (N := 9) ?hd (cs := #[.int .i64 0, .string (⟨#[]⟩ : ByteArray), .int .i64 0, .int .i64 0, .slice none 0 0, .slice none 0 0]) (t := 25) ?hr ?_; (case hd => rfl); (case hg => rfl); (case hr => first | (go_simp; done) | (go_simp; rfl)); intro gb169 hg w22 hbox hb; have n0_ := Aside0.mk (Kd.V_below (Kd.V_elderB (by (with_reducible repeat (first | apply Kd.V_alloc | apply Kd.V_drewN | apply Kd.V_drew)); exact HO_0.out) gb169 (Nat.le_of_eq hg.symm)) hb); have n1_ := Aside0.mk (Kd.N_below (Kd.N_elderB (by (with_reducible repeat (first | apply Kd.N_alloc | apply Kd.N_drewN | apply Kd.N_drew)); exact HO_7.out) gb169 (Nat.le_of_eq hg.symm)) hb); have n2_ := Aside0.mk (Kd.V_below (Kd.V_elderB (by (with_reducible repeat (first | apply Kd.V_alloc | apply Kd.V_drewN | apply Kd.V_drew)); exact HO_23.out) gb169 (Nat.le_of_eq hg.symm)) hb); have n3_ := Aside0.mk (Kd.V_below (Kd.V_elderB (by (with_reducible repeat (first | apply Kd.V_alloc | apply Kd.V_drewN | apply Kd.V_drew)); exact HL168_4.out) gb169 (Nat.le_of_eq hg.symm)) hb); have n4_ := Aside0.mk (Kd.V_below (Kd.V_elderB (by (with_reducible repeat (first | apply Kd.V_alloc | apply Kd.V_drewN | apply Kd.V_drew)); exact HL168_5.out) gb169 (Nat.le_of_eq hg.symm)) hb); have n5_ := Aside0.mk (Kd.C_below (by repeat ((with_reducible exact HR168_4.out))) hb); have n6_ := Aside0.mk (Kd.C_below (by repeat ((with_reducible exact HR168_5.out))) hb); have n7_ := Aside0.mk (below_step (by repeat ((with_reducible first | exact HB.out | apply below_alloc | apply pw_below_drewN | apply below_drew1))) hb); have n8_ := Aside0.mk (hbox); have n9_ := Aside0.mk ((by rw [hg]; exact (below_size (by repeat ((with_reducible first | exact HB.out | apply below_alloc | apply pw_below_drewN | apply below_drew1)))) : w.heap.size ≤ gb169)); have n10_ := Aside0.mk ((by rw [hg]; exact (below_size (by repeat ((with_reducible first | exact HB.out | apply below_alloc | apply pw_below_drewN | apply below_drew1)))) : w.heap.size ≤ gb169)); clear HO_0; clear HO_7; clear HO_23; clear HL168_4; clear HL168_5; clear HR168_4; clear HR168_5; clear HB; have HO_0 := n0_; have HO_7 := n1_; have HO_23 := n2_; have HL168_4 := n3_; have HL168_5 := n4_; have HR168_4 := n5_; have HR168_5 := n6_; have HB := n7_; have BK169 := n8_; have GW169 := n9_; have GE169 := n10_; clear n0_ n1_ n2_ n3_ n4_ n5_ n6_ n7_ n8_ n9_ n10_; clear hb hbox hg; have hcz23_0 : w22.cell? ⟨gb169, 0, none⟩ = some (.int .i64 0) := (blk_cell BK169.out 0).trans rfl; have hcz23_1 : w22.cell? ⟨gb169, 1, none⟩ = some (.string (⟨#[]⟩ : ByteArray)) := (blk_cell BK169.out 1).trans rfl; have hcz23_2 : w22.cell? ⟨gb169, 2, none⟩ = some (.int .i64 0) := (blk_cell BK169.out 2).trans rfl; have hcz23_3 : w22.cell? ⟨gb169, 3, none⟩ = some (.int .i64 0) := (blk_cell BK169.out 3).trans rfl; have hcz23_4 : w22.cell? ⟨gb169, 4, none⟩ = some (.slice none 0 0) := (blk_cell BK169.out 4).trans rfl; have hcz23_5 : w22.cell? ⟨gb169, 5, none⟩ = some (.slice none 0 0) := (blk_cell BK169.out 5).trans rfl; have hfz23_0 := blk_frozen BK169.out 0; have hfz23_1 := blk_frozen BK169.out 1; have hfz23_2 := blk_frozen BK169.out 2; have hfz23_3 := blk_frozen BK169.out 3; have hfz23_4 := blk_frozen BK169.out 4; have hfz23_5 := blk_frozen BK169.out 5) | ((with_reducible refine gate_callee (f := 22) rfl ?_); refine goesL_ (some 32) rfl rfl Try.func22 (by kernel_rfl) rfl #[.slice A1 l1.length c1, .agg #[.int .i64 ((rd_T25 l0 x25_2).f0), .string ((rd_T25 l0 x25_2).f1), .int .i64 ((rd_T25 l0 x25_2).f2), .int .i64 ((rd_T25 l0 x25_2).f3), .slice A168_4 ((rd_T25 l0 x25_2).f4).length c168_4, .slice A168_5 ((rd_T25 l0 x25_2).f5).length c168_5]] rfl (by (try simp only [List.map_toArray, List.map_cons, List.map_nil]); first | done | rfl | (simp only [List.length_drop, List.length_take]; rfl)) ?_; (with_reducible refine (cover_book_size.calls k2 _ _ l1 ((rd_T25 l0 x25_2).f0) ((rd_T25 l0 x25_2).f1) ((rd_T25 l0 x25_2).f2) ((rd_T25 l0 x25_2).f3) _ _ ((rd_T25 l0 x25_2).f4) _ _ ((rd_T25 l0 x25_2).f5) t170 false _ ?side1 ?side2 ?side3 ?side4 ?side5 ?side6 A11.out).mono ?_); (case side1 => exact Kd.C_below HR1.out (by repeat ((with_reducible first | exact HB.out | apply below_alloc | apply pw_below_drewN | apply below_drew1 | refine below_set ?_ GE169.out)))); (case side2 => exact HC1.out); (case side3 => repeat (exact ((Kd.V_reads' (by (with_reducible repeat (first | apply Kd.V_alloc | apply Kd.V_drewN | apply Kd.V_drew)); exact (Kd.V_mono (Kd.V_far (p := ⟨gb169, 5, none⟩) (Kd.V_far (p := ⟨gb169, 4, none⟩) (Kd.V_far (p := ⟨gb169, 3, none⟩) (Kd.V_far (p := ⟨gb169, 2, none⟩) (Kd.V_far (p := ⟨gb169, 1, none⟩) (Kd.V_far (p := ⟨gb169, 0, none⟩) (Kd.V_mono HL168_4.out (fun k_ hk => (⟨hk, hk.2⟩ : _ ∧ k_ ≠ gb169))) (fun _ hk => hk.2) (.int .i64 ((rd_T25 l0 x25_2).f0))) (fun _ hk => hk.2) (.string ((rd_T25 l0 x25_2).f1))) (fun _ hk => hk.2) (.int .i64 ((rd_T25 l0 x25_2).f2))) (fun _ hk => hk.2) (.int .i64 ((rd_T25 l0 x25_2).f3))) (fun _ hk => hk.2) (.slice A168_4 ((rd_T25 l0 x25_2).f4).length c168_4)) (fun _ hk => hk.2) (.slice A168_5 ((rd_T25 l0 x25_2).f5).length c168_5)) (fun _ h_ => h_.1)))).2.2))); (case side4 => exact HC168_4.out); (case side5 => repeat (exact ((Kd.V_reads' (by (with_reducible repeat (first | apply Kd.V_alloc | apply Kd.V_drewN | apply Kd.V_drew)); exact (Kd.V_mono (Kd.V_far (p := ⟨gb169, 5, none⟩) (Kd.V_far (p := ⟨gb169, 4, none⟩) (Kd.V_far (p := ⟨gb169, 3, none⟩) (Kd.V_far (p := ⟨gb169, 2, none⟩) (Kd.V_far (p := ⟨gb169, 1, none⟩) (Kd.V_far (p := ⟨gb169, 0, none⟩) (Kd.V_mono HL168_5.out (fun k_ hk => (⟨hk, hk.2⟩ : _ ∧ k_ ≠ gb169))) (fun _ hk => hk.2) (.int .i64 ((rd_T25 l0 x25_2).f0))) (fun _ hk => hk.2) (.string ((rd_T25 l0 x25_2).f1))) (fun _ hk => hk.2) (.int .i64 ((rd_T25 l0 x25_2).f2))) (fun _ hk => hk.2) (.int .i64 ((rd_T25 l0 x25_2).f3))) (fun _ hk => hk.2) (.slice A168_4 ((rd_T25 l0 x25_2).f4).length c168_4)) (fun _ hk => hk.2) (.slice A168_5 ((rd_T25 l0 x25_2).f5).length c168_5)) (fun _ h_ => h_.1)))).2.2))); (case side6 => exact HC168_5.out); rintro e w24 ⟨rfl, hb⟩; refine ⟨_, rfl, ?_⟩; have n0_ := Aside0.mk (Kd.V_below (by (with_reducible repeat (first | apply Kd.V_alloc | apply Kd.V_drewN | apply Kd.V_drew)); exact (Kd.V_mono (Kd.V_far (p := ⟨gb169, 5, none⟩) (Kd.V_far (p := ⟨gb169, 4, none⟩) (Kd.V_far (p := ⟨gb169, 3, none⟩) (Kd.V_far (p := ⟨gb169, 2, none⟩) (Kd.V_far (p := ⟨gb169, 1, none⟩) (Kd.V_far (p := ⟨gb169, 0, none⟩) (Kd.V_mono HO_0.out (fun k_ hk => (⟨hk, hk.2⟩ : _ ∧ k_ ≠ gb169))) (fun _ hk => hk.2) (.int .i64 ((rd_T25 l0 x25_2).f0))) (fun _ hk => hk.2) (.string ((rd_T25 l0 x25_2).f1))) (fun _ hk => hk.2) (.int .i64 ((rd_T25 l0 x25_2).f2))) (fun _ hk => hk.2) (.int .i64 ((rd_T25 l0 x25_2).f3))) (fun _ hk => hk.2) (.slice A168_4 ((rd_T25 l0 x25_2).f4).length c168_4)) (fun _ hk => hk.2) (.slice A168_5 ((rd_T25 l0 x25_2).f5).length c168_5)) (fun _ h_ => h_.1))) hb); have n1_ := Aside0.mk (Kd.N_below (by (with_reducible repeat (first | apply Kd.N_alloc | apply Kd.N_drewN | apply Kd.N_drew)); exact (Kd.N_mono (Kd.N_far (p := ⟨gb169, 5, none⟩) (Kd.N_far (p := ⟨gb169, 4, none⟩) (Kd.N_far (p := ⟨gb169, 3, none⟩) (Kd.N_far (p := ⟨gb169, 2, none⟩) (Kd.N_far (p := ⟨gb169, 1, none⟩) (Kd.N_far (p := ⟨gb169, 0, none⟩) (Kd.N_mono HO_7.out (fun k_ hk => (⟨hk, hk.2⟩ : _ ∧ k_ ≠ gb169))) (fun _ hk => hk.2) (.int .i64 ((rd_T25 l0 x25_2).f0))) (fun _ hk => hk.2) (.string ((rd_T25 l0 x25_2).f1))) (fun _ hk => hk.2) (.int .i64 ((rd_T25 l0 x25_2).f2))) (fun _ hk => hk.2) (.int .i64 ((rd_T25 l0 x25_2).f3))) (fun _ hk => hk.2) (.slice A168_4 ((rd_T25 l0 x25_2).f4).length c168_4)) (fun _ hk => hk.2) (.slice A168_5 ((rd_T25 l0 x25_2).f5).length c168_5)) (fun _ h_ => h_.1))) hb); have n2_ := Aside0.mk (Kd.V_below (by (with_reducible repeat (first | apply Kd.V_alloc | apply Kd.V_drewN | apply Kd.V_drew)); exact (Kd.V_mono (Kd.V_far (p := ⟨gb169, 5, none⟩) (Kd.V_far (p := ⟨gb169, 4, none⟩) (Kd.V_far (p := ⟨gb169, 3, none⟩) (Kd.V_far (p := ⟨gb169, 2, none⟩) (Kd.V_far (p := ⟨gb169, 1, none⟩) (Kd.V_far (p := ⟨gb169, 0, none⟩) (Kd.V_mono HO_23.out (fun k_ hk => (⟨hk, hk.2⟩ : _ ∧ k_ ≠ gb169))) (fun _ hk => hk.2) (.int .i64 ((rd_T25 l0 x25_2).f0))) (fun _ hk => hk.2) (.string ((rd_T25 l0 x25_2).f1))) (fun _ hk => hk.2) (.int .i64 ((rd_T25 l0 x25_2).f2))) (fun _ hk => hk.2) (.int .i64 ((rd_T25 l0 x25_2).f3))) (fun _ hk => hk.2) (.slice A168_4 ((rd_T25 l0 x25_2).f4).length c168_4)) (fun _ hk => hk.2) (.slice A168_5 ((rd_T25 l0 x25_2).f5).length c168_5)) (fun _ h_ => h_.1))) hb); have n3_ := Aside0.mk (Kd.V_below (by (with_reducible repeat (first | apply Kd.V_alloc | apply Kd.V_drewN | apply Kd.V_drew)); exact (Kd.V_mono (Kd.V_far (p := ⟨gb169, 5, none⟩) (Kd.V_far (p := ⟨gb169, 4, none⟩) (Kd.V_far (p := ⟨gb169, 3, none⟩) (Kd.V_far (p := ⟨gb169, 2, none⟩) (Kd.V_far (p := ⟨gb169, 1, none⟩) (Kd.V_far (p := ⟨gb169, 0, none⟩) (Kd.V_mono HL168_4.out (fun k_ hk => (⟨hk, hk.2⟩ : _ ∧ k_ ≠ gb169))) (fun _ hk => hk.2) (.int .i64 ((rd_T25 l0 x25_2).f0))) (fun _ hk => hk.2) (.string ((rd_T25 l0 x25_2).f1))) (fun _ hk => hk.2) (.int .i64 ((rd_T25 l0 x25_2).f2))) (fun _ hk => hk.2) (.int .i64 ((rd_T25 l0 x25_2).f3))) (fun _ hk => hk.2) (.slice A168_4 ((rd_T25 l0 x25_2).f4).length c168_4)) (fun _ hk => hk.2) (.slice A168_5 ((rd_T25 l0 x25_2).f5).length c168_5)) (fun _ h_ => h_.1))) hb); have n4_ := Aside0.mk (Kd.V_below (by (with_reducible repeat (first | apply Kd.V_alloc | apply Kd.V_drewN | apply Kd.V_drew)); exact (Kd.V_mono (Kd.V_far (p := ⟨gb169, 5, none⟩) (Kd.V_far (p := ⟨gb169, 4, none⟩) (Kd.V_far (p := ⟨gb169, 3, none⟩) (Kd.V_far (p := ⟨gb169, 2, none⟩) (Kd.V_far (p := ⟨gb169, 1, none⟩) (Kd.V_far (p := ⟨gb169, 0, none⟩) (Kd.V_mono HL168_5.out (fun k_ hk => (⟨hk, hk.2⟩ : _ ∧ k_ ≠ gb169))) (fun _ hk => hk.2) (.int .i64 ((rd_T25 l0 x25_2).f0))) (fun _ hk => hk.2) (.string ((rd_T25 l0 x25_2).f1))) (fun _ hk => hk.2) (.int .i64 ((rd_T25 l0 x25_2).f2))) (fun _ hk => hk.2) (.int .i64 ((rd_T25 l0 x25_2).f3))) (fun _ hk => hk.2) (.slice A168_4 ((rd_T25 l0 x25_2).f4).length c168_4)) (fun _ hk => hk.2) (.slice A168_5 ((rd_T25 l0 x25_2).f5).length c168_5)) (fun _ h_ => h_.1))) hb); have n5_ := Aside0.mk (Kd.C_below ((Kd.V_reads' (by (with_reducible repeat (first | apply Kd.V_alloc | apply Kd.V_drewN | apply Kd.V_drew)); exact (Kd.V_mono (Kd.V_far (p := ⟨gb169, 5, none⟩) (Kd.V_far (p := ⟨gb169, 4, none⟩) (Kd.V_far (p := ⟨gb169, 3, none⟩) (Kd.V_far (p := ⟨gb169, 2, none⟩) (Kd.V_far (p := ⟨gb169, 1, none⟩) (Kd.V_far (p := ⟨gb169, 0, none⟩) (Kd.V_mono HL168_4.out (fun k_ hk => (⟨hk, hk.2⟩ : _ ∧ k_ ≠ gb169))) (fun _ hk => hk.2) (.int .i64 ((rd_T25 l0 x25_2).f0))) (fun _ hk => hk.2) (.string ((rd_T25 l0 x25_2).f1))) (fun _ hk => hk.2) (.int .i64 ((rd_T25 l0 x25_2).f2))) (fun _ hk => hk.2) (.int .i64 ((rd_T25 l0 x25_2).f3))) (fun _ hk => hk.2) (.slice A168_4 ((rd_T25 l0 x25_2).f4).length c168_4)) (fun _ hk => hk.2) (.slice A168_5 ((rd_T25 l0 x25_2).f5).length c168_5)) (fun _ h_ => h_.1)))).2.2) hb); have n6_ := Aside0.mk (Kd.C_below ((Kd.V_reads' (by (with_reducible repeat (first | apply Kd.V_alloc | apply Kd.V_drewN | apply Kd.V_drew)); exact (Kd.V_mono (Kd.V_far (p := ⟨gb169, 5, none⟩) (Kd.V_far (p := ⟨gb169, 4, none⟩) (Kd.V_far (p := ⟨gb169, 3, none⟩) (Kd.V_far (p := ⟨gb169, 2, none⟩) (Kd.V_far (p := ⟨gb169, 1, none⟩) (Kd.V_far (p := ⟨gb169, 0, none⟩) (Kd.V_mono HL168_5.out (fun k_ hk => (⟨hk, hk.2⟩ : _ ∧ k_ ≠ gb169))) (fun _ hk => hk.2) (.int .i64 ((rd_T25 l0 x25_2).f0))) (fun _ hk => hk.2) (.string ((rd_T25 l0 x25_2).f1))) (fun _ hk => hk.2) (.int .i64 ((rd_T25 l0 x25_2).f2))) (fun _ hk => hk.2) (.int .i64 ((rd_T25 l0 x25_2).f3))) (fun _ hk => hk.2) (.slice A168_4 ((rd_T25 l0 x25_2).f4).length c168_4)) (fun _ hk => hk.2) (.slice A168_5 ((rd_T25 l0 x25_2).f5).length c168_5)) (fun _ h_ => h_.1)))).2.2) hb); have n7_ := Aside0.mk (blk_below (g := gb169) (o := .cells #[.int .i64 ((rd_T25 l0 x25_2).f0), .string ((rd_T25 l0 x25_2).f1), .int .i64 ((rd_T25 l0 x25_2).f2), .int .i64 ((rd_T25 l0 x25_2).f3), .slice A168_4 ((rd_T25 l0 x25_2).f4).length c168_4, .slice A168_5 ((rd_T25 l0 x25_2).f5).length c168_5] 25 (0, 0)) (by (with_reducible repeat (first | refine blk_drewN ?_ _ | refine blk_drew ?_ | refine blk_alloc ?_ _)); refine blk_put (cs := #[.int .i64 ((rd_T25 l0 x25_2).f0), .string ((rd_T25 l0 x25_2).f1), .int .i64 ((rd_T25 l0 x25_2).f2), .int .i64 ((rd_T25 l0 x25_2).f3), .slice A168_4 ((rd_T25 l0 x25_2).f4).length c168_4, .slice none 0 0]) ?_ 5 _ rfl; (with_reducible repeat (first | refine blk_drewN ?_ _ | refine blk_drew ?_ | refine blk_alloc ?_ _)); refine blk_put (cs := #[.int .i64 ((rd_T25 l0 x25_2).f0), .string ((rd_T25 l0 x25_2).f1), .int .i64 ((rd_T25 l0 x25_2).f2), .int .i64 ((rd_T25 l0 x25_2).f3), .slice none 0 0, .slice none 0 0]) ?_ 4 _ rfl; (with_reducible repeat (first | refine blk_drewN ?_ _ | refine blk_drew ?_ | refine blk_alloc ?_ _)); refine blk_put (cs := #[.int .i64 ((rd_T25 l0 x25_2).f0), .string ((rd_T25 l0 x25_2).f1), .int .i64 ((rd_T25 l0 x25_2).f2), .int .i64 0, .slice none 0 0, .slice none 0 0]) ?_ 3 _ rfl; (with_reducible repeat (first | refine blk_drewN ?_ _ | refine blk_drew ?_ | refine blk_alloc ?_ _)); refine blk_put (cs := #[.int .i64 ((rd_T25 l0 x25_2).f0), .string ((rd_T25 l0 x25_2).f1), .int .i64 0, .int .i64 0, .slice none 0 0, .slice none 0 0]) ?_ 2 _ rfl; (with_reducible repeat (first | refine blk_drewN ?_ _ | refine blk_drew ?_ | refine blk_alloc ?_ _)); refine blk_put (cs := #[.int .i64 ((rd_T25 l0 x25_2).f0), .string (⟨#[]⟩ : ByteArray), .int .i64 0, .int .i64 0, .slice none 0 0, .slice none 0 0]) ?_ 1 _ rfl; (with_reducible repeat (first | refine blk_drewN ?_ _ | refine blk_drew ?_ | refine blk_alloc ?_ _)); refine blk_put (cs := #[.int .i64 0, .string (⟨#[]⟩ : ByteArray), .int .i64 0, .int .i64 0, .slice none 0 0, .slice none 0 0]) ?_ 0 _ rfl; (with_reducible repeat (first | refine blk_drewN ?_ _ | refine blk_drew ?_ | refine blk_alloc ?_ _)); exact BK169.out) hb); have n8_ := Aside0.mk (below_step (by repeat ((with_reducible first | exact HB.out | apply below_alloc | apply pw_below_drewN | apply below_drew1 | refine below_set ?_ GE169.out))) hb); clear HO_0; clear HO_7; clear HO_23; clear HL168_4; clear HL168_5; clear HR168_4; clear HR168_5; clear BK169; clear HB; have HO_0 := n0_; have HO_7 := n1_; have HO_23 := n2_; have HL168_4 := n3_; have HL168_5 := n4_; have HR168_4 := n5_; have HR168_5 := n6_; have BK169 := n7_; have HB := n8_; clear n0_ n1_ n2_ n3_ n4_ n5_ n6_ n7_ n8_; (try clear hb); (try clear hb2); (try clear hk); (try clear hi)))
          go_ret2
          exact ⟨by first | rfl | (simp [errW_none, errW_some] <;> rfl) | (simp [*, errW_none, errW_some] <;> rfl), by repeat ((with_reducible first | exact HB.out | apply below_alloc | apply pw_below_drewN | apply below_drew1 | refine below_set ?_ GE169.out))⟩
        ·
         rw [if_neg c10] at H
         exact absurd H (by simp)
       ·
        rw [if_neg c9] at H
        exact absurd H (by simp)
      ·
       rw [if_neg c8] at H
       have c8b0 : decide (x25_2 < (l0.length : Int)) = false := decide_eq_false c8
       clear c8
       replace H := Option.bind_eq_some_iff.mp H
       obtain ⟨t178, A250, H⟩ := H
       replace H : (if t178 = true then (cover_Check.l1 k2 l1 x7_2 x7_2 (x7_2.length : Int) 0) else (some (0, 1))) = some (r1, r2) := H
       have A25 := Aside0.mk A250
       clear A250
       by_cases c26 : t178 = true
       ·
        subst c26
        have H1 : (cover_Check.l1 k2 l1 x7_2 x7_2 (x7_2.length : Int) 0) = some (r1, r2) := by rw [if_pos rfl] at H; exact H
        clear H
        have H := H1
        clear H1
        have H' := Aside0.mk H
        clear H
        go_wp2_with (first | ((with_reducible refine gate_callee (f := 23) rfl ?_); refine goesL_ (some 45) rfl rfl Try.func23 (by kernel_rfl) rfl #[.slice A1 l1.length c1, .slice A0 l0.length c0] rfl (by (try simp only [List.map_toArray, List.map_cons, List.map_nil]); first | done | rfl | (simp only [List.length_drop, List.length_take]; rfl)) ?_; (with_reducible refine (cover_book_together.calls _ _ l1 _ _ l0 true _ ?side1 ?side2 ?side3 ?side4 A25.out).mono ?_); (case side1 => repeat (first | exact (Kd.C_below HR1.out HB.out) | (with_reducible refine Kd.C_alloc ?_ _) | (with_reducible refine Kd.C_drewN ?_ _) | (with_reducible refine Kd.C_drew ?_))); (case side2 => exact HC1.out); (case side3 => repeat (first | exact (Kd.V_reads' HO_0.out).2.2 | (with_reducible refine Kd.C_alloc ?_ _) | (with_reducible refine Kd.C_drewN ?_ _) | (with_reducible refine Kd.C_drew ?_))); (case side4 => exact (Kd.V_reads' HO_0.out).2.1); rintro e w27 ⟨rfl, hb⟩; refine ⟨_, rfl, ?_⟩; have n0_ := Aside0.mk (Kd.V_below (by (with_reducible repeat (first | apply Kd.V_alloc | apply Kd.V_drewN | apply Kd.V_drew)); exact HO_0.out) hb); have n1_ := Aside0.mk (Kd.N_below (by (with_reducible repeat (first | apply Kd.N_alloc | apply Kd.N_drewN | apply Kd.N_drew)); exact HO_7.out) hb); have n2_ := Aside0.mk (Kd.V_below (by (with_reducible repeat (first | apply Kd.V_alloc | apply Kd.V_drewN | apply Kd.V_drew)); exact HO_23.out) hb); have n3_ := Aside0.mk (below_step (by repeat (first | (with_reducible first | exact HB.out | apply below_alloc | apply pw_below_drewN | apply below_drew1) | exact HB.out)) hb); clear HO_0; clear HO_7; clear HO_23; clear HB; have HO_0 := n0_; have HO_7 := n1_; have HO_23 := n2_; have HB := n3_; clear n0_ n1_ n2_ n3_; (try clear hb); (try clear hb2); (try clear hk); (try clear hi); obtain ⟨Ao28, co28, eo28⟩ := Kd.N_slice HO_7.out; subst eo28))
        go_loopg [49] k2 (fun kq v49 w' => ∃ (x49_3 : Int), v49 = .int .i64 x49_3 ∧ Aside0 (cover_Check.l1 kq l1 x7_2 x7_2 (x7_2.length : Int) x49_3 = some (r1, r2)) ∧ Aside0 (kq ≤ k2) ∧ Aside0 (Kd.N (Kd.slice 25 k25) 22 w' w.heap.size (fun k_ => (P0_ k_ ∨ w.heap.size ≤ k_)) (.slice Ao28 x7_2.length co28) x7_2) ∧ Aside0 (Kd.N (Kd.slice 25 k25) 22 w' w.heap.size (fun k_ => (P0_ k_ ∨ w.heap.size ≤ k_)) (.slice Ao28 x7_2.length co28) x7_2) ∧ Aside0 (Below w.heap.size w w'))
        case atStart => exact ⟨(0), (by first | rfl | (simp; done) | (simp [*]; done)), H', ⟨Nat.le_refl _⟩, ⟨by (with_reducible repeat (first | apply Kd.N_alloc | apply Kd.N_drewN | apply Kd.N_drew)); exact HO_7.out⟩, ⟨by (with_reducible repeat (first | apply Kd.N_alloc | apply Kd.N_drewN | apply Kd.N_drew)); exact HO_7.out⟩, ⟨by repeat ((with_reducible first | exact HB.out | apply below_alloc | apply pw_below_drewN | apply below_drew1))⟩⟩
        case round =>
         clear H'
         try clear c1
         try clear p1
         try clear q1
         try clear hx1
         try clear c2
         try clear p2
         try clear c4
         try clear c4b0
         try clear c4b1
         try clear c6
         try clear p6
         try clear c7
         try clear c8
         try clear c8b0
         try clear c9
         try clear c9b0
         try clear c10
         try clear c10b0
         try clear c12
         try clear c13
         try clear c16
         try clear p16
         try clear q16
         try clear hx16
         try clear c22
         try clear c23
         try clear c26
         try clear hcz15_0
         try clear hcz15_1
         try clear hcz15_2
         try clear hcz15_3
         try clear hcz15_4
         try clear hcz15_5
         try clear hcz17_0
         try clear hcz17_1
         try clear hcz17_2
         try clear hcz17_3
         try clear hcz17_4
         try clear hcz17_5
         try clear hcz23_0
         try clear hcz23_1
         try clear hcz23_2
         try clear hcz23_3
         try clear hcz23_4
         try clear hcz23_5
         try clear hfz15_0
         try clear hfz15_1
         try clear hfz15_2
         try clear hfz15_3
         try clear hfz15_4
         try clear hfz15_5
         try clear hfz17_0
         try clear hfz17_1
         try clear hfz17_2
         try clear hfz17_3
         try clear hfz17_4
         try clear hfz17_5
         try clear hfz23_0
         try clear hfz23_1
         try clear hfz23_2
         try clear hfz23_3
         try clear hfz23_4
         try clear hfz23_5
         try clear hx168_0
         try clear hx168_1
         try clear hx168_2
         try clear hx168_3
         try clear hx168_4
         try clear hx168_5
         try clear p168
         try clear p2
         try clear q168
         obtain ⟨x49_3, rfl, HA, HK3, HO_7, HO_47, HB⟩ := hrel
         cases gk with
         | zero => exact absurd HA.out (by simp [cover_Check.l1])
         | succ k3 =>
          have H := HA.out
          clear HA
          simp only [cover_Check.l1] at H
          by_cases c29 : x49_3 < (x7_2.length : Int)
          ·
           rw [if_pos c29] at H
           have c29b0 : decide (x49_3 < (x7_2.length : Int)) = true := decide_eq_true c29
           clear c29
           by_cases c30 : 0 ≤ x49_3
           ·
            rw [if_pos c30] at H
            have c30b0 : decide (0 ≤ x49_3) = true := decide_eq_true c30
            clear c30
            by_cases c31 : x49_3 < (x7_2.length : Int)
            ·
             rw [if_pos c31] at H
             have c31b0 : decide (x49_3 < (x7_2.length : Int)) = true := decide_eq_true c31
             clear c31
             have c32b0 := eq_true (of_decide_eq_true (by first | (with_reducible assumption) | assumption) : 0 ≤ x49_3)
             by_cases c33 : x49_3 ≤ (x7_2.length : Int)
             ·
              rw [if_pos c33] at H
              have c33b0 := eq_true c33
              have c33b1 : decide (x49_3 ≤ (x7_2.length : Int)) = true := decide_eq_true c33
              clear c33
              obtain ⟨y180, hy180⟩ : ∃ y_ : List (List (S25)), y_ = (x7_2.take (x49_3 : Int).toNat) := ⟨_, rfl⟩
              replace H : ((cover_book_means.f l1 y180 (rd_L6 x7_2 x49_3)).bind fun t185 => (if t185 = true then (cover_Check.l1 k3 l1 x7_2 x7_2 (x7_2.length : Int) (wrap64 (x49_3 + 1))) else (some (x49_3, 27)))) = some (r1, r2) := by first | (rw [hy180]; with_reducible exact H) | (have H2_ := (Option.bind_some _ _).symm.trans H; rw [hy180]; with_reducible exact H2_) | (have H2_ := (Option.bind_some _ _).symm.trans H; with_reducible exact H2_) | with_reducible exact H | (rw [hy180]; exact H) | exact H
              have Ny180 := Aside0.mk hy180
              clear hy180
              replace H := Option.bind_eq_some_iff.mp H
              obtain ⟨t185, A340, H⟩ := H
              replace H : (if t185 = true then (cover_Check.l1 k3 l1 x7_2 x7_2 (x7_2.length : Int) (wrap64 (x49_3 + 1))) else (some (x49_3, 27))) = some (r1, r2) := H
              have A34 := Aside0.mk A340
              clear A340
              by_cases c35 : t185 = true
              ·
               subst c35
               have H1 : (cover_Check.l1 k3 l1 x7_2 x7_2 (x7_2.length : Int) (wrap64 (x49_3 + 1))) = some (r1, r2) := by rw [if_pos rfl] at H; exact H
               clear H
               have H := H1
               clear H1
               have H' := Aside0.mk H
               clear H
               have p179 : 0 ≤ (x49_3 : Int) := of_decide_eq_true (by first | (with_reducible assumption) | assumption)
               have q179 : x49_3 < (x7_2.length : Int) := of_decide_eq_true (by first | (with_reducible assumption) | assumption)
               obtain ⟨ad179, A179_0, c179_0, e179, hx179_0, hl179_0, hi179_0⟩ := at_L6 (Kd.N_reads' HO_47.out).2.2 x49_3 p179 q179
               cases e179
               obtain ⟨ce179, hce179, hMe179, hcc179⟩ := Kd.N_get HO_47.out [] x49_3 p179 (by first | exact q179 | exact of_decide_eq_true (by first | (with_reducible assumption) | assumption) | (have e_ := (Kd.N_reads' HO_47.out).1; omega))
               obtain ⟨ua179_0, uc179_0, rfl, ul179_0, ge179_0⟩ := Kd.FK_slice_open hMe179
               have hv179_0 := hcc179 0 _ rfl
               rw [Nat.add_zero, show ((Kd.slice 25 k25)).sz = 1 from rfl, Nat.mul_one] at hv179_0
               replace hv179_0 := Option.some.inj (hv179_0.symm.trans hx179_0)
               injection hv179_0 with hva_ hvn_ hvc_
               rw [hva_] at ge179_0
               rw [hvc_] at ul179_0
               have HL179_0 := Aside0.mk (show Kd.V k25 25 _ w.heap.size _ _ (rd_L6 x7_2 x49_3) from Kd.V_mk ul179_0 ge179_0)
               clear hva_ hvn_ hvc_ ge179_0 ul179_0
               clear hcc179 hce179
               have HR179_0 := Aside0.mk hi179_0
               have HC179_0 := Aside0.mk hl179_0
               clear hi179_0 hl179_0
               replace p179 := eq_true p179
               replace q179 := eq_true q179
               have q36 : (x49_3 : Int) ≤ ((x7_2.length : Int) : Int) := of_decide_eq_true (by first | (with_reducible assumption) | assumption)
               obtain ⟨i036, hi036, _, hsz36, _⟩ := info_parts info22
               have hroom36 : x7_2.length ≤ co28 := (Kd.N_reads' HO_7.out).2.1
               have hC36 : Kd.F (Kd.slice 25 k25) _ _ (some ad179) x7_2.length x7_2 := (Kd.V_at (base := w.heap.size) (Kd.N_V HO_7.out)).2.2
               have hcut36 := cut_to (P := Try.prog) 53 22 .i64 Try.underlying53 hi036 (some ad179) x7_2.length co28 x49_3 (of_decide_eq_true (by first | (with_reducible assumption) | assumption)) q36 hroom36
               have hr36 := Kd.F_take (m := (x49_3 : Int).toNat) hC36 (by omega)
               have hy36 : y180.length = (x49_3 : Int).toNat := (by rw [Ny180.out, List.length_take]; omega)
               rw [← Ny180.out] at hr36
               rw [← hy36] at hcut36
               have HO184 := Aside0.mk (show Kd.V (Kd.slice 25 k25) 22 _ w.heap.size _ (.slice (some ad179) y180.length co28) y180 from Kd.V_mk (by omega) hr36)
               have HC184 := Aside0.mk (show y180.length ≤ co28 from by omega)
               clear hr36 hC36 hroom36 hi036 hsz36
               have KY36 := Aside0.mk hy36
               clear hy36
               replace q36 := eq_true q36
               go_wp2_with (first | ((with_reducible refine gate_callee (f := 24) rfl ?_); refine goesL_ (some 59) rfl rfl Try.func24 (by kernel_rfl) rfl #[.slice A1 l1.length c1, .slice (some ad179) y180.length co28, .slice A179_0 (rd_L6 x7_2 x49_3).length c179_0] rfl (by (try simp only [List.map_toArray, List.map_cons, List.map_nil]); first | done | rfl | (simp only [List.length_drop, List.length_take]; rfl)) ?_; (with_reducible refine (cover_book_means.calls _ _ l1 _ _ y180 _ _ (rd_L6 x7_2 x49_3) true _ ?side1 ?side2 ?side3 ?side4 ?side5 ?side6 A34.out).mono ?_); (case side1 => repeat (first | exact (Kd.C_below HR1.out HB.out) | (with_reducible refine Kd.C_alloc ?_ _) | (with_reducible refine Kd.C_drewN ?_ _) | (with_reducible refine Kd.C_drew ?_))); (case side2 => exact HC1.out); (case side3 => repeat (first | exact (Kd.V_reads' HO184.out).2.2 | (with_reducible refine Kd.C_alloc ?_ _) | (with_reducible refine Kd.C_drewN ?_ _) | (with_reducible refine Kd.C_drew ?_))); (case side4 => exact (Kd.V_reads' HO184.out).2.1); (case side5 => repeat (first | exact (by repeat (first | (with_reducible exact HR179_0.out) | (with_reducible refine Kd.C_alloc ?_ _) | (with_reducible refine Kd.C_drewN ?_ _) | (with_reducible refine Kd.C_drew ?_) | exact HR179_0.out)) | (with_reducible refine Kd.C_alloc ?_ _) | (with_reducible refine Kd.C_drewN ?_ _) | (with_reducible refine Kd.C_drew ?_))); (case side6 => exact HC179_0.out); rintro e w37 ⟨rfl, hb⟩; refine ⟨_, rfl, ?_⟩; have n0_ := Aside0.mk (Kd.N_below (by (with_reducible repeat (first | apply Kd.N_alloc | apply Kd.N_drewN | apply Kd.N_drew)); exact HO_7.out) hb); have n1_ := Aside0.mk (Kd.N_below (by (with_reducible repeat (first | apply Kd.N_alloc | apply Kd.N_drewN | apply Kd.N_drew)); exact HO_47.out) hb); have n2_ := Aside0.mk (Kd.V_below (by (with_reducible repeat (first | apply Kd.V_alloc | apply Kd.V_drewN | apply Kd.V_drew)); exact HL179_0.out) hb); have n3_ := Aside0.mk (Kd.V_below (by (with_reducible repeat (first | apply Kd.V_alloc | apply Kd.V_drewN | apply Kd.V_drew)); exact HO184.out) hb); have n4_ := Aside0.mk (Kd.C_below (by repeat (first | (with_reducible exact HR179_0.out) | (with_reducible refine Kd.C_alloc ?_ _) | (with_reducible refine Kd.C_drewN ?_ _) | (with_reducible refine Kd.C_drew ?_) | exact HR179_0.out)) hb); have n5_ := Aside0.mk (below_step (by repeat (first | (with_reducible first | exact HB.out | apply below_alloc | apply pw_below_drewN | apply below_drew1) | exact HB.out)) hb); clear HO_7; clear HO_47; clear HL179_0; clear HO184; clear HR179_0; clear HB; have HO_7 := n0_; have HO_47 := n1_; have HL179_0 := n2_; have HO184 := n3_; have HR179_0 := n4_; have HB := n5_; clear n0_ n1_ n2_ n3_ n4_ n5_; (try clear hb); (try clear hb2); (try clear hk); (try clear hi)))
               go_roundg k3
               case measure => have := HJ2.out; have := HK2.out; have := HK3.out; omega
               case rel => exact ⟨(wrap64 (x49_3 + 1)), (by first | rfl | (simp; done) | (simp [*]; done)), H', ⟨by have := HJ2.out; have := HK2.out; have := HK3.out; omega⟩, ⟨by (with_reducible repeat (first | apply Kd.N_alloc | apply Kd.N_drewN | apply Kd.N_drew)); exact HO_7.out⟩, ⟨by (with_reducible repeat (first | apply Kd.N_alloc | apply Kd.N_drewN | apply Kd.N_drew)); exact HO_47.out⟩, ⟨by repeat ((with_reducible first | exact HB.out | apply below_alloc | apply pw_below_drewN | apply below_drew1))⟩⟩
              ·
               replace c35 := Bool.eq_false_iff.mpr c35
               subst c35
               have H1 : (some (x49_3, 27)) = some (r1, r2) := by rw [if_neg (show ¬ (false = true) by decide)] at H; exact H
               clear H
               have H := H1
               clear H1
               simp only [Option.some.injEq, Prod.mk.injEq] at H
               obtain ⟨rfl, rfl⟩ := H
               have p179 : 0 ≤ (x49_3 : Int) := of_decide_eq_true (by first | (with_reducible assumption) | assumption)
               have q179 : x49_3 < (x7_2.length : Int) := of_decide_eq_true (by first | (with_reducible assumption) | assumption)
               obtain ⟨ad179, A179_0, c179_0, e179, hx179_0, hl179_0, hi179_0⟩ := at_L6 (Kd.N_reads' HO_47.out).2.2 x49_3 p179 q179
               cases e179
               obtain ⟨ce179, hce179, hMe179, hcc179⟩ := Kd.N_get HO_47.out [] x49_3 p179 (by first | exact q179 | exact of_decide_eq_true (by first | (with_reducible assumption) | assumption) | (have e_ := (Kd.N_reads' HO_47.out).1; omega))
               obtain ⟨ua179_0, uc179_0, rfl, ul179_0, ge179_0⟩ := Kd.FK_slice_open hMe179
               have hv179_0 := hcc179 0 _ rfl
               rw [Nat.add_zero, show ((Kd.slice 25 k25)).sz = 1 from rfl, Nat.mul_one] at hv179_0
               replace hv179_0 := Option.some.inj (hv179_0.symm.trans hx179_0)
               injection hv179_0 with hva_ hvn_ hvc_
               rw [hva_] at ge179_0
               rw [hvc_] at ul179_0
               have HL179_0 := Aside0.mk (show Kd.V k25 25 _ w.heap.size _ _ (rd_L6 x7_2 x49_3) from Kd.V_mk ul179_0 ge179_0)
               clear hva_ hvn_ hvc_ ge179_0 ul179_0
               clear hcc179 hce179
               have HR179_0 := Aside0.mk hi179_0
               have HC179_0 := Aside0.mk hl179_0
               clear hi179_0 hl179_0
               replace p179 := eq_true p179
               replace q179 := eq_true q179
               have q38 : (x49_3 : Int) ≤ ((x7_2.length : Int) : Int) := of_decide_eq_true (by first | (with_reducible assumption) | assumption)
               obtain ⟨i038, hi038, _, hsz38, _⟩ := info_parts info22
               have hroom38 : x7_2.length ≤ co28 := (Kd.N_reads' HO_7.out).2.1
               have hC38 : Kd.F (Kd.slice 25 k25) _ _ (some ad179) x7_2.length x7_2 := (Kd.V_at (base := w.heap.size) (Kd.N_V HO_7.out)).2.2
               have hcut38 := cut_to (P := Try.prog) 53 22 .i64 Try.underlying53 hi038 (some ad179) x7_2.length co28 x49_3 (of_decide_eq_true (by first | (with_reducible assumption) | assumption)) q38 hroom38
               have hr38 := Kd.F_take (m := (x49_3 : Int).toNat) hC38 (by omega)
               have hy38 : y180.length = (x49_3 : Int).toNat := (by rw [Ny180.out, List.length_take]; omega)
               rw [← Ny180.out] at hr38
               rw [← hy38] at hcut38
               have HO184 := Aside0.mk (show Kd.V (Kd.slice 25 k25) 22 _ w.heap.size _ (.slice (some ad179) y180.length co28) y180 from Kd.V_mk (by omega) hr38)
               have HC184 := Aside0.mk (show y180.length ≤ co28 from by omega)
               clear hr38 hC38 hroom38 hi038 hsz38
               have KY38 := Aside0.mk hy38
               clear hy38
               replace q38 := eq_true q38
               go_wp2_with (first | ((with_reducible refine gate_callee (f := 24) rfl ?_); refine goesL_ (some 59) rfl rfl Try.func24 (by kernel_rfl) rfl #[.slice A1 l1.length c1, .slice (some ad179) y180.length co28, .slice A179_0 (rd_L6 x7_2 x49_3).length c179_0] rfl (by (try simp only [List.map_toArray, List.map_cons, List.map_nil]); first | done | rfl | (simp only [List.length_drop, List.length_take]; rfl)) ?_; (with_reducible refine (cover_book_means.calls _ _ l1 _ _ y180 _ _ (rd_L6 x7_2 x49_3) false _ ?side1 ?side2 ?side3 ?side4 ?side5 ?side6 A34.out).mono ?_); (case side1 => repeat (first | exact (Kd.C_below HR1.out HB.out) | (with_reducible refine Kd.C_alloc ?_ _) | (with_reducible refine Kd.C_drewN ?_ _) | (with_reducible refine Kd.C_drew ?_))); (case side2 => exact HC1.out); (case side3 => repeat (first | exact (Kd.V_reads' HO184.out).2.2 | (with_reducible refine Kd.C_alloc ?_ _) | (with_reducible refine Kd.C_drewN ?_ _) | (with_reducible refine Kd.C_drew ?_))); (case side4 => exact (Kd.V_reads' HO184.out).2.1); (case side5 => repeat (first | exact (by repeat (first | (with_reducible exact HR179_0.out) | (with_reducible refine Kd.C_alloc ?_ _) | (with_reducible refine Kd.C_drewN ?_ _) | (with_reducible refine Kd.C_drew ?_) | exact HR179_0.out)) | (with_reducible refine Kd.C_alloc ?_ _) | (with_reducible refine Kd.C_drewN ?_ _) | (with_reducible refine Kd.C_drew ?_))); (case side6 => exact HC179_0.out); rintro e w39 ⟨rfl, hb⟩; refine ⟨_, rfl, ?_⟩; have n0_ := Aside0.mk (Kd.N_below (by (with_reducible repeat (first | apply Kd.N_alloc | apply Kd.N_drewN | apply Kd.N_drew)); exact HO_7.out) hb); have n1_ := Aside0.mk (Kd.N_below (by (with_reducible repeat (first | apply Kd.N_alloc | apply Kd.N_drewN | apply Kd.N_drew)); exact HO_47.out) hb); have n2_ := Aside0.mk (Kd.V_below (by (with_reducible repeat (first | apply Kd.V_alloc | apply Kd.V_drewN | apply Kd.V_drew)); exact HL179_0.out) hb); have n3_ := Aside0.mk (Kd.V_below (by (with_reducible repeat (first | apply Kd.V_alloc | apply Kd.V_drewN | apply Kd.V_drew)); exact HO184.out) hb); have n4_ := Aside0.mk (Kd.C_below (by repeat (first | (with_reducible exact HR179_0.out) | (with_reducible refine Kd.C_alloc ?_ _) | (with_reducible refine Kd.C_drewN ?_ _) | (with_reducible refine Kd.C_drew ?_) | exact HR179_0.out)) hb); have n5_ := Aside0.mk (below_step (by repeat (first | (with_reducible first | exact HB.out | apply below_alloc | apply pw_below_drewN | apply below_drew1) | exact HB.out)) hb); clear HO_7; clear HO_47; clear HL179_0; clear HO184; clear HR179_0; clear HB; have HO_7 := n0_; have HO_47 := n1_; have HL179_0 := n2_; have HO184 := n3_; have HR179_0 := n4_; have HB := n5_; clear n0_ n1_ n2_ n3_ n4_ n5_; (try clear hb); (try clear hb2); (try clear hk); (try clear hi)))
               go_ret2
               exact ⟨by first | rfl | (simp [errW_none, errW_some] <;> rfl) | (simp [*, errW_none, errW_some] <;> rfl), by repeat ((with_reducible first | exact HB.out | apply below_alloc | apply pw_below_drewN | apply below_drew1))⟩
             ·
              rw [if_neg c33] at H
              exact absurd H (by simp)
            ·
             rw [if_neg c31] at H
             exact absurd H (by simp)
           ·
            rw [if_neg c30] at H
            exact absurd H (by simp)
          ·
           rw [if_neg c29] at H
           have c29b0 : decide (x49_3 < (x7_2.length : Int)) = false := decide_eq_false c29
           clear c29
           replace H := Option.bind_eq_some_iff.mp H
           obtain ⟨t186, A400, H⟩ := H
           replace H : ((cover_book_means.f l1 x7_2 t186).bind fun t189 => (if t189 = true then (some (0, 26)) else (some (0, 0)))) = some (r1, r2) := H
           have A40 := Aside0.mk A400
           clear A400
           replace H := Option.bind_eq_some_iff.mp H
           obtain ⟨t189, A410, H⟩ := H
           replace H : (if t189 = true then (some (0, 26)) else (some (0, 0))) = some (r1, r2) := H
           have A41 := Aside0.mk A410
           clear A410
           by_cases c42 : t189 = true
           ·
            subst c42
            have H1 : (some (0, 26)) = some (r1, r2) := by rw [if_pos rfl] at H; exact H
            clear H
            have H := H1
            clear H1
            simp only [Option.some.injEq, Prod.mk.injEq] at H
            obtain ⟨rfl, rfl⟩ := H
            go_wp2_with (first | ((with_reducible refine gate_callee (f := 25) rfl ?_); refine goesL_ (some 65) rfl rfl Try.func25 (by kernel_rfl) rfl #[.int .i64 1] rfl (by (try simp only [List.map_toArray, List.map_cons, List.map_nil]); first | done | rfl | (simp only [List.length_drop, List.length_take]; rfl)) ?_; (with_reducible refine (cover_wild.calls 1 t186 _ A40.out).mono ?_); rintro e w43 ⟨v187, rfl, ho0, hb⟩; refine ⟨_, rfl, ?_⟩; have n0_ := Aside0.mk (Kd.N_elder' (by (with_reducible repeat (first | apply Kd.N_alloc | apply Kd.N_drewN | apply Kd.N_drew)); exact HO_7.out) (Kd.N_base ho0) hb); have n1_ := Aside0.mk (Kd.N_elder' (by (with_reducible repeat (first | apply Kd.N_alloc | apply Kd.N_drewN | apply Kd.N_drew)); exact HO_47.out) (Kd.N_base ho0) hb); have n2_ := Aside0.mk (Kd.N_lower (Kd.N_mono (ok' := fun k_ => (P0_ k_ ∨ w.heap.size ≤ k_) ∧ some k_ ≠ (.slice Ao28 x7_2.length co28 : Value).ownBlock ∧ some k_ ≠ (.slice Ao28 x7_2.length co28 : Value).ownBlock) ho0 (fun k_ hk_ => ⟨(.inr (Nat.le_trans (below_size (by repeat ((with_reducible first | exact HB.out | apply below_alloc | apply pw_below_drewN | apply below_drew1)))) hk_)), (Kd.fresh' (Kd.N_lt (by (with_reducible repeat (first | apply Kd.N_alloc | apply Kd.N_drewN | apply Kd.N_drew)); exact HO_7.out)) k_ hk_), (Kd.fresh' (Kd.N_lt (by (with_reducible repeat (first | apply Kd.N_alloc | apply Kd.N_drewN | apply Kd.N_drew)); exact HO_47.out)) k_ hk_)⟩)) (below_size (by repeat ((with_reducible first | exact HB.out | apply below_alloc | apply pw_below_drewN | apply below_drew1))))); have n3_ := Aside0.mk (below_step (by repeat ((with_reducible first | exact HB.out | apply below_alloc | apply pw_below_drewN | apply below_drew1))) hb); clear HO_7; clear HO_47; clear HB; have HO_7 := n0_; have HO_47 := n1_; have HO188 := n2_; have HB := n3_; clear n0_ n1_ n2_ n3_; (try clear hb); (try clear hb2); (try clear hk); (try clear hi); (try clear ho0); obtain ⟨Ao44, co44, eo44⟩ := Kd.N_slice HO188.out; subst eo44) | ((with_reducible refine gate_callee (f := 24) rfl ?_); refine goesL_ (some 66) rfl rfl Try.func24 (by kernel_rfl) rfl #[.slice A1 l1.length c1, .slice Ao28 x7_2.length co28, .slice Ao44 t186.length co44] rfl (by (try simp only [List.map_toArray, List.map_cons, List.map_nil]); first | done | rfl | (simp only [List.length_drop, List.length_take]; rfl)) ?_; (with_reducible refine (cover_book_means.calls _ _ l1 _ _ x7_2 _ _ t186 true _ ?side1 ?side2 ?side3 ?side4 ?side5 ?side6 A41.out).mono ?_); (case side1 => repeat (exact (Kd.C_below HR1.out HB.out))); (case side2 => exact HC1.out); (case side3 => repeat (exact (Kd.N_reads' HO_7.out).2.2)); (case side4 => exact (Kd.N_reads' HO_7.out).2.1); (case side5 => repeat (exact (Kd.N_reads' HO188.out).2.2)); (case side6 => exact (Kd.N_reads' HO188.out).2.1); rintro e w45 ⟨rfl, hb⟩; refine ⟨_, rfl, ?_⟩; have n0_ := Aside0.mk (Kd.N_below (by (with_reducible repeat (first | apply Kd.N_alloc | apply Kd.N_drewN | apply Kd.N_drew)); exact HO_7.out) hb); have n1_ := Aside0.mk (Kd.N_below (by (with_reducible repeat (first | apply Kd.N_alloc | apply Kd.N_drewN | apply Kd.N_drew)); exact HO_47.out) hb); have n2_ := Aside0.mk (Kd.N_below (by (with_reducible repeat (first | apply Kd.N_alloc | apply Kd.N_drewN | apply Kd.N_drew)); exact HO188.out) hb); have n3_ := Aside0.mk (below_step (by repeat ((with_reducible first | exact HB.out | apply below_alloc | apply pw_below_drewN | apply below_drew1))) hb); clear HO_7; clear HO_47; clear HO188; clear HB; have HO_7 := n0_; have HO_47 := n1_; have HO188 := n2_; have HB := n3_; clear n0_ n1_ n2_ n3_; (try clear hb); (try clear hb2); (try clear hk); (try clear hi)))
            go_ret2
            exact ⟨by first | rfl | (simp [errW_none, errW_some] <;> rfl) | (simp [*, errW_none, errW_some] <;> rfl), by repeat ((with_reducible first | exact HB.out | apply below_alloc | apply pw_below_drewN | apply below_drew1))⟩
           ·
            replace c42 := Bool.eq_false_iff.mpr c42
            subst c42
            have H1 : (some (0, 0)) = some (r1, r2) := by rw [if_neg (show ¬ (false = true) by decide)] at H; exact H
            clear H
            have H := H1
            clear H1
            simp only [Option.some.injEq, Prod.mk.injEq] at H
            obtain ⟨rfl, rfl⟩ := H
            go_wp2_with (first | ((with_reducible refine gate_callee (f := 25) rfl ?_); refine goesL_ (some 65) rfl rfl Try.func25 (by kernel_rfl) rfl #[.int .i64 1] rfl (by (try simp only [List.map_toArray, List.map_cons, List.map_nil]); first | done | rfl | (simp only [List.length_drop, List.length_take]; rfl)) ?_; (with_reducible refine (cover_wild.calls 1 t186 _ A40.out).mono ?_); rintro e w46 ⟨v187, rfl, ho0, hb⟩; refine ⟨_, rfl, ?_⟩; have n0_ := Aside0.mk (Kd.N_elder' (by (with_reducible repeat (first | apply Kd.N_alloc | apply Kd.N_drewN | apply Kd.N_drew)); exact HO_7.out) (Kd.N_base ho0) hb); have n1_ := Aside0.mk (Kd.N_elder' (by (with_reducible repeat (first | apply Kd.N_alloc | apply Kd.N_drewN | apply Kd.N_drew)); exact HO_47.out) (Kd.N_base ho0) hb); have n2_ := Aside0.mk (Kd.N_lower (Kd.N_mono (ok' := fun k_ => (P0_ k_ ∨ w.heap.size ≤ k_) ∧ some k_ ≠ (.slice Ao28 x7_2.length co28 : Value).ownBlock ∧ some k_ ≠ (.slice Ao28 x7_2.length co28 : Value).ownBlock) ho0 (fun k_ hk_ => ⟨(.inr (Nat.le_trans (below_size (by repeat ((with_reducible first | exact HB.out | apply below_alloc | apply pw_below_drewN | apply below_drew1)))) hk_)), (Kd.fresh' (Kd.N_lt (by (with_reducible repeat (first | apply Kd.N_alloc | apply Kd.N_drewN | apply Kd.N_drew)); exact HO_7.out)) k_ hk_), (Kd.fresh' (Kd.N_lt (by (with_reducible repeat (first | apply Kd.N_alloc | apply Kd.N_drewN | apply Kd.N_drew)); exact HO_47.out)) k_ hk_)⟩)) (below_size (by repeat ((with_reducible first | exact HB.out | apply below_alloc | apply pw_below_drewN | apply below_drew1))))); have n3_ := Aside0.mk (below_step (by repeat ((with_reducible first | exact HB.out | apply below_alloc | apply pw_below_drewN | apply below_drew1))) hb); clear HO_7; clear HO_47; clear HB; have HO_7 := n0_; have HO_47 := n1_; have HO188 := n2_; have HB := n3_; clear n0_ n1_ n2_ n3_; (try clear hb); (try clear hb2); (try clear hk); (try clear hi); (try clear ho0); obtain ⟨Ao47, co47, eo47⟩ := Kd.N_slice HO188.out; subst eo47) | ((with_reducible refine gate_callee (f := 24) rfl ?_); refine goesL_ (some 66) rfl rfl Try.func24 (by kernel_rfl) rfl #[.slice A1 l1.length c1, .slice Ao28 x7_2.length co28, .slice Ao47 t186.length co47] rfl (by (try simp only [List.map_toArray, List.map_cons, List.map_nil]); first | done | rfl | (simp only [List.length_drop, List.length_take]; rfl)) ?_; (with_reducible refine (cover_book_means.calls _ _ l1 _ _ x7_2 _ _ t186 false _ ?side1 ?side2 ?side3 ?side4 ?side5 ?side6 A41.out).mono ?_); (case side1 => repeat (exact (Kd.C_below HR1.out HB.out))); (case side2 => exact HC1.out); (case side3 => repeat (exact (Kd.N_reads' HO_7.out).2.2)); (case side4 => exact (Kd.N_reads' HO_7.out).2.1); (case side5 => repeat (exact (Kd.N_reads' HO188.out).2.2)); (case side6 => exact (Kd.N_reads' HO188.out).2.1); rintro e w48 ⟨rfl, hb⟩; refine ⟨_, rfl, ?_⟩; have n0_ := Aside0.mk (Kd.N_below (by (with_reducible repeat (first | apply Kd.N_alloc | apply Kd.N_drewN | apply Kd.N_drew)); exact HO_7.out) hb); have n1_ := Aside0.mk (Kd.N_below (by (with_reducible repeat (first | apply Kd.N_alloc | apply Kd.N_drewN | apply Kd.N_drew)); exact HO_47.out) hb); have n2_ := Aside0.mk (Kd.N_below (by (with_reducible repeat (first | apply Kd.N_alloc | apply Kd.N_drewN | apply Kd.N_drew)); exact HO188.out) hb); have n3_ := Aside0.mk (below_step (by repeat ((with_reducible first | exact HB.out | apply below_alloc | apply pw_below_drewN | apply below_drew1))) hb); clear HO_7; clear HO_47; clear HO188; clear HB; have HO_7 := n0_; have HO_47 := n1_; have HO188 := n2_; have HB := n3_; clear n0_ n1_ n2_ n3_; (try clear hb); (try clear hb2); (try clear hk); (try clear hi)))
            go_ret2
            exact ⟨by first | rfl | (simp [errW_none, errW_some] <;> rfl) | (simp [*, errW_none, errW_some] <;> rfl), by repeat ((with_reducible first | exact HB.out | apply below_alloc | apply pw_below_drewN | apply below_drew1))⟩
       ·
        replace c26 := Bool.eq_false_iff.mpr c26
        subst c26
        have H1 : (some (0, 1)) = some (r1, r2) := by rw [if_neg (show ¬ (false = true) by decide)] at H; exact H
        clear H
        have H := H1
        clear H1
        simp only [Option.some.injEq, Prod.mk.injEq] at H
        obtain ⟨rfl, rfl⟩ := H
        go_wp2_with (first | ((with_reducible refine gate_callee (f := 23) rfl ?_); refine goesL_ (some 45) rfl rfl Try.func23 (by kernel_rfl) rfl #[.slice A1 l1.length c1, .slice A0 l0.length c0] rfl (by (try simp only [List.map_toArray, List.map_cons, List.map_nil]); first | done | rfl | (simp only [List.length_drop, List.length_take]; rfl)) ?_; (with_reducible refine (cover_book_together.calls _ _ l1 _ _ l0 false _ ?side1 ?side2 ?side3 ?side4 A25.out).mono ?_); (case side1 => repeat (first | exact (Kd.C_below HR1.out HB.out) | (with_reducible refine Kd.C_alloc ?_ _) | (with_reducible refine Kd.C_drewN ?_ _) | (with_reducible refine Kd.C_drew ?_))); (case side2 => exact HC1.out); (case side3 => repeat (first | exact (Kd.V_reads' HO_0.out).2.2 | (with_reducible refine Kd.C_alloc ?_ _) | (with_reducible refine Kd.C_drewN ?_ _) | (with_reducible refine Kd.C_drew ?_))); (case side4 => exact (Kd.V_reads' HO_0.out).2.1); rintro e w49 ⟨rfl, hb⟩; refine ⟨_, rfl, ?_⟩; have n0_ := Aside0.mk (Kd.V_below (by (with_reducible repeat (first | apply Kd.V_alloc | apply Kd.V_drewN | apply Kd.V_drew)); exact HO_0.out) hb); have n1_ := Aside0.mk (Kd.N_below (by (with_reducible repeat (first | apply Kd.N_alloc | apply Kd.N_drewN | apply Kd.N_drew)); exact HO_7.out) hb); have n2_ := Aside0.mk (Kd.V_below (by (with_reducible repeat (first | apply Kd.V_alloc | apply Kd.V_drewN | apply Kd.V_drew)); exact HO_23.out) hb); have n3_ := Aside0.mk (below_step (by repeat (first | (with_reducible first | exact HB.out | apply below_alloc | apply pw_below_drewN | apply below_drew1) | exact HB.out)) hb); clear HO_0; clear HO_7; clear HO_23; clear HB; have HO_0 := n0_; have HO_7 := n1_; have HO_23 := n2_; have HB := n3_; clear n0_ n1_ n2_ n3_; (try clear hb); (try clear hb2); (try clear hk); (try clear hi)))
        go_ret2
        exact ⟨by first | rfl | (simp [errW_none, errW_some] <;> rfl) | (simp [*, errW_none, errW_some] <;> rfl), by repeat ((with_reducible first | exact HB.out | apply below_alloc | apply pw_below_drewN | apply below_drew1))⟩
end Go.Proofs.Ytikhkcnbabpneaa.P