-- Laid by this session's program wip/printx.py over the kit's print.py; functions that it does not take are walked by hand.
import Derived.Test.YtikhkcnbabpneaaAvPx0
import Derived.Test.YtikhkcnbabpneaaAvPx43
import Derived.Test.YtikhkcnbabpneaaAvPx43
namespace Go.Proofs.Ytikhkcnbabpneaa.P
open Go.RowKit Go.Proofs.YtikhkcnbabpneaaW.PrintWords Go.Proofs.YtikhkcnbabpneaaW.PrintLast Go.Proofs.YtikhkcnbabpneaaW.PrintMore
attribute [local go_sem] max2_int min2_int max_two min_two max_three min_three max_four min_four   -- for this text's walks alone
set_option linter.unusedVariables false
set_option linter.unusedSimpArgs false
mutual
def selvageref09_Values.l0 : Nat → List (S61) → List (S25) → ByteArray → Int → List (S40) → Int → Option ((List (S40)))
 | 0, _, _, _, _, _, _ => none
 | k + 1, x0, x1, x5, x6, x7, x8 => if x8 < (x1.length : Int) then (if 0 ≤ x8 then (if ((rd_T25 x1 x8).f0) = 1 then (if x7.length < 2932031007402 then ((some (x7 ++ [(⟨(⟨#[]⟩ : ByteArray), (rd_T25 x1 x8).f2, ([] : List (S40))⟩ : S40)] : List (S40))).bind fun y300 => (if ((rd_T25 x1 x8).f0) = 5 then ((selvageref09_Find.f k x0 ((rd_T25 x1 x8).f1)).bind fun t305 => (if 0 ≤ t305 then (if t305 < (x0.length : Int) then (selvageref09_Values.l0 k x0 x1 ((rd_T61 x0 t305).f1) x6 y300 (wrap64 (x8 + 1))) else (none)) else (none))) else (selvageref09_Values.l0 k x0 x1 x5 x6 y300 (wrap64 (x8 + 1))))) else (none)) else (if ((rd_T25 x1 x8).f0) = 5 then ((selvageref09_Find.f k x0 ((rd_T25 x1 x8).f1)).bind fun t309 => (if 0 ≤ t309 then (if t309 < (x0.length : Int) then (selvageref09_Values.l0 k x0 x1 ((rd_T61 x0 t309).f1) x6 x7 (wrap64 (x8 + 1))) else (none)) else (none))) else (selvageref09_Values.l0 k x0 x1 x5 x6 x7 (wrap64 (x8 + 1))))) else (none)) else (if x5.toList = ([] : List UInt8) then (selvageref09_Values.l1 k x6 x7 0) else (selvageref09_Values.l3 k x0 x1 x5 x7 0))
def selvageref09_Values.l1 : Nat → Int → List (S40) → Int → Option ((List (S40)))
 | 0, _, _, _ => none
 | k + 1, x6, x7, x9 => if x9 < (x7.length : Int) then (selvageref09_Values.l2 k x6 x7 x9 0) else (if x7.length < 2932031007402 then (some (x7 ++ [(⟨(⟨#[]⟩ : ByteArray), x6, ([] : List (S40))⟩ : S40)])) else (none))
def selvageref09_Values.l2 : Nat → Int → List (S40) → Int → Int → Option ((List (S40)))
 | 0, _, _, _, _ => none
 | k + 1, x6, x7, x9, x10 => if x10 < (x7.length : Int) then (if 0 ≤ x10 then (if ((rd_T40 x7 x10).f1) = x6 then (selvageref09_Values.l2 k (wrap64 (x6 + 1)) x7 x9 (wrap64 (x10 + 1))) else (selvageref09_Values.l2 k x6 x7 x9 (wrap64 (x10 + 1)))) else (none)) else (selvageref09_Values.l1 k x6 x7 (wrap64 (x9 + 1)))
def selvageref09_Values.l3 : Nat → List (S61) → List (S25) → ByteArray → List (S40) → Int → Option ((List (S40)))
 | 0, _, _, _, _, _ => none
 | k + 1, x0, x1, x5, x7, x11 => if x11 < (x0.length : Int) then (if 0 ≤ x11 then (if ((rd_T61 x0 x11).f1).toList = x5.toList then (selvageref09_Values.l4 k x0 x1 x5 x7 x11 (([(⟨(rd_T61 x0 x11).f0, 0, ([] : List (S40))⟩ : S40)] : List (S40))) 0) else (selvageref09_Values.l3 k x0 x1 x5 x7 (wrap64 (x11 + 1)))) else (none)) else (some x7)
def selvageref09_Values.l4 : Nat → List (S61) → List (S25) → ByteArray → List (S40) → Int → List (S40) → Int → Option ((List (S40)))
 | 0, _, _, _, _, _, _, _ => none
 | k + 1, x0, x1, x5, x7, x11, x12, x13 => if 0 ≤ x11 then (if x11 < (x0.length : Int) then (if x13 < ((rd_T61 x0 x11).f3) then ((selvageref09_parts.f k x1 ((rd_T61 x0 x11).f0) x13).bind fun t325 => ((selvageref09_Values.f k x0 t325).bind fun t328 => (selvageref09_Values.l5 k x0 x1 x5 x7 x11 x12 x13 t328 ([] : List (S40)) 0))) else (if x7.length + x12.length < 2932031007402 then (selvageref09_Values.l3 k x0 x1 x5 (x7 ++ x12) (wrap64 (x11 + 1))) else (none))) else (none)) else (none)
def selvageref09_Values.l5 : Nat → List (S61) → List (S25) → ByteArray → List (S40) → Int → List (S40) → Int → List (S40) → List (S40) → Int → Option ((List (S40)))
 | 0, _, _, _, _, _, _, _, _, _, _ => none
 | k + 1, x0, x1, x5, x7, x11, x12, x13, x14, x15, x16 => if x16 < (x12.length : Int) then (selvageref09_Values.l6 k x0 x1 x5 x7 x11 x12 x13 x14 x15 x16 0) else (selvageref09_Values.l4 k x0 x1 x5 x7 x11 x15 (wrap64 (x13 + 1)))
def selvageref09_Values.l6 : Nat → List (S61) → List (S25) → ByteArray → List (S40) → Int → List (S40) → Int → List (S40) → List (S40) → Int → Int → Option ((List (S40)))
 | 0, _, _, _, _, _, _, _, _, _, _, _ => none
 | k + 1, x0, x1, x5, x7, x11, x12, x13, x14, x15, x16, x17 => if x17 < (x14.length : Int) then (if 0 ≤ x16 then (if x16 < (x12.length : Int) then (if ([] : List (S40)).length + ((rd_T40 x12 x16).f2).length < 2932031007402 then ((some (([] : List (S40)) ++ ((rd_T40 x12 x16).f2) : List (S40))).bind fun y334 => (if 0 ≤ x17 then (if y334.length < 2932031007402 then (if x15.length < 2932031007402 then (selvageref09_Values.l6 k x0 x1 x5 x7 x11 x12 x13 x14 (x15 ++ [(⟨(rd_T40 x12 x16).f0, 0, (y334 ++ [(⟨(rd_T40 x14 x17).f0, (rd_T40 x14 x17).f1, (rd_T40 x14 x17).f2⟩ : S40)])⟩ : S40)]) x16 (wrap64 (x17 + 1))) else (none)) else (none)) else (none))) else (none)) else (none)) else (none)) else (selvageref09_Values.l5 k x0 x1 x5 x7 x11 x12 x13 x14 x15 (wrap64 (x16 + 1)))
def selvageref09_Values.f : Nat → List (S61) → List (S25) → Option ((List (S40)))
 | 0, _, _ => none
 | k + 1, l0, l1 => selvageref09_Values.l0 k l0 l1 (⟨#[]⟩ : ByteArray) 0 ([] : List (S40)) 0
end
theorem selvageref09_Values.mono_l : ∀ k, (∀ y0 y1, LeO (selvageref09_Values.f k y0 y1) (selvageref09_Values.f (k + 1) y0 y1)) ∧ (∀ y0 y1 y2 y3 y4 y5, LeO (selvageref09_Values.l0 k y0 y1 y2 y3 y4 y5) (selvageref09_Values.l0 (k + 1) y0 y1 y2 y3 y4 y5)) ∧ (∀ y0 y1 y2, LeO (selvageref09_Values.l1 k y0 y1 y2) (selvageref09_Values.l1 (k + 1) y0 y1 y2)) ∧ (∀ y0 y1 y2 y3, LeO (selvageref09_Values.l2 k y0 y1 y2 y3) (selvageref09_Values.l2 (k + 1) y0 y1 y2 y3)) ∧ (∀ y0 y1 y2 y3 y4, LeO (selvageref09_Values.l3 k y0 y1 y2 y3 y4) (selvageref09_Values.l3 (k + 1) y0 y1 y2 y3 y4)) ∧ (∀ y0 y1 y2 y3 y4 y5 y6, LeO (selvageref09_Values.l4 k y0 y1 y2 y3 y4 y5 y6) (selvageref09_Values.l4 (k + 1) y0 y1 y2 y3 y4 y5 y6)) ∧ (∀ y0 y1 y2 y3 y4 y5 y6 y7 y8 y9, LeO (selvageref09_Values.l5 k y0 y1 y2 y3 y4 y5 y6 y7 y8 y9) (selvageref09_Values.l5 (k + 1) y0 y1 y2 y3 y4 y5 y6 y7 y8 y9)) ∧ (∀ y0 y1 y2 y3 y4 y5 y6 y7 y8 y9 y10, LeO (selvageref09_Values.l6 k y0 y1 y2 y3 y4 y5 y6 y7 y8 y9 y10) (selvageref09_Values.l6 (k + 1) y0 y1 y2 y3 y4 y5 y6 y7 y8 y9 y10))
 | 0 => ⟨fun _ _ r h => by simp [selvageref09_Values.f] at h, fun _ _ _ _ _ _ r h => by simp [selvageref09_Values.l0] at h, fun _ _ _ r h => by simp [selvageref09_Values.l1] at h, fun _ _ _ _ r h => by simp [selvageref09_Values.l2] at h, fun _ _ _ _ _ r h => by simp [selvageref09_Values.l3] at h, fun _ _ _ _ _ _ _ r h => by simp [selvageref09_Values.l4] at h, fun _ _ _ _ _ _ _ _ _ _ r h => by simp [selvageref09_Values.l5] at h, fun _ _ _ _ _ _ _ _ _ _ _ r h => by simp [selvageref09_Values.l6] at h⟩
 | k + 1 => by
  obtain ⟨ih0, ih1, ih2, ih3, ih4, ih5, ih6, ih7⟩ := selvageref09_Values.mono_l k
  refine ⟨?_, ?_, ?_, ?_, ?_, ?_, ?_, ?_⟩
  ·
   intro y0 y1
   unfold selvageref09_Values.f
   repeat' first
   | (with_reducible exact ih0 _ _)
   | (with_reducible exact ih1 _ _ _ _ _ _)
   | (with_reducible exact ih2 _ _ _)
   | (with_reducible exact ih3 _ _ _ _)
   | (with_reducible exact ih4 _ _ _ _ _)
   | (with_reducible exact ih5 _ _ _ _ _ _ _)
   | (with_reducible exact ih6 _ _ _ _ _ _ _ _ _ _)
   | (with_reducible exact ih7 _ _ _ _ _ _ _ _ _ _ _)
   | (with_reducible exact selvageref09_Find.mono _ _ _)
   | (with_reducible exact selvageref09_parts.mono _ _ _ _)
   | (with_reducible exact LeO.refl _)
   | (with_reducible exact LeO.none _)
   | (with_reducible refine LeO.ite ?_ ?_)
   | (with_reducible refine LeO.bind ?_ (fun _ => ?_))
   | exact ih0 _ _
   | exact ih1 _ _ _ _ _ _
   | exact ih2 _ _ _
   | exact ih3 _ _ _ _
   | exact ih4 _ _ _ _ _
   | exact ih5 _ _ _ _ _ _ _
   | exact ih6 _ _ _ _ _ _ _ _ _ _
   | exact ih7 _ _ _ _ _ _ _ _ _ _ _
   | exact selvageref09_Find.mono _ _ _
   | exact selvageref09_parts.mono _ _ _ _
   | exact LeO.none _
   | refine LeO.ite ?_ ?_
   | refine LeO.bind ?_ (fun _ => ?_)
  ·
   intro y0 y1 y2 y3 y4 y5
   unfold selvageref09_Values.l0
   repeat' first
   | (with_reducible exact ih0 _ _)
   | (with_reducible exact ih1 _ _ _ _ _ _)
   | (with_reducible exact ih2 _ _ _)
   | (with_reducible exact ih3 _ _ _ _)
   | (with_reducible exact ih4 _ _ _ _ _)
   | (with_reducible exact ih5 _ _ _ _ _ _ _)
   | (with_reducible exact ih6 _ _ _ _ _ _ _ _ _ _)
   | (with_reducible exact ih7 _ _ _ _ _ _ _ _ _ _ _)
   | (with_reducible exact selvageref09_Find.mono _ _ _)
   | (with_reducible exact selvageref09_parts.mono _ _ _ _)
   | (with_reducible exact LeO.refl _)
   | (with_reducible exact LeO.none _)
   | (with_reducible refine LeO.ite ?_ ?_)
   | (with_reducible refine LeO.bind ?_ (fun _ => ?_))
   | exact ih0 _ _
   | exact ih1 _ _ _ _ _ _
   | exact ih2 _ _ _
   | exact ih3 _ _ _ _
   | exact ih4 _ _ _ _ _
   | exact ih5 _ _ _ _ _ _ _
   | exact ih6 _ _ _ _ _ _ _ _ _ _
   | exact ih7 _ _ _ _ _ _ _ _ _ _ _
   | exact selvageref09_Find.mono _ _ _
   | exact selvageref09_parts.mono _ _ _ _
   | exact LeO.none _
   | refine LeO.ite ?_ ?_
   | refine LeO.bind ?_ (fun _ => ?_)
  ·
   intro y0 y1 y2
   unfold selvageref09_Values.l1
   repeat' first
   | (with_reducible exact ih0 _ _)
   | (with_reducible exact ih1 _ _ _ _ _ _)
   | (with_reducible exact ih2 _ _ _)
   | (with_reducible exact ih3 _ _ _ _)
   | (with_reducible exact ih4 _ _ _ _ _)
   | (with_reducible exact ih5 _ _ _ _ _ _ _)
   | (with_reducible exact ih6 _ _ _ _ _ _ _ _ _ _)
   | (with_reducible exact ih7 _ _ _ _ _ _ _ _ _ _ _)
   | (with_reducible exact selvageref09_Find.mono _ _ _)
   | (with_reducible exact selvageref09_parts.mono _ _ _ _)
   | (with_reducible exact LeO.refl _)
   | (with_reducible exact LeO.none _)
   | (with_reducible refine LeO.ite ?_ ?_)
   | (with_reducible refine LeO.bind ?_ (fun _ => ?_))
   | exact ih0 _ _
   | exact ih1 _ _ _ _ _ _
   | exact ih2 _ _ _
   | exact ih3 _ _ _ _
   | exact ih4 _ _ _ _ _
   | exact ih5 _ _ _ _ _ _ _
   | exact ih6 _ _ _ _ _ _ _ _ _ _
   | exact ih7 _ _ _ _ _ _ _ _ _ _ _
   | exact selvageref09_Find.mono _ _ _
   | exact selvageref09_parts.mono _ _ _ _
   | exact LeO.none _
   | refine LeO.ite ?_ ?_
   | refine LeO.bind ?_ (fun _ => ?_)
  ·
   intro y0 y1 y2 y3
   unfold selvageref09_Values.l2
   repeat' first
   | (with_reducible exact ih0 _ _)
   | (with_reducible exact ih1 _ _ _ _ _ _)
   | (with_reducible exact ih2 _ _ _)
   | (with_reducible exact ih3 _ _ _ _)
   | (with_reducible exact ih4 _ _ _ _ _)
   | (with_reducible exact ih5 _ _ _ _ _ _ _)
   | (with_reducible exact ih6 _ _ _ _ _ _ _ _ _ _)
   | (with_reducible exact ih7 _ _ _ _ _ _ _ _ _ _ _)
   | (with_reducible exact selvageref09_Find.mono _ _ _)
   | (with_reducible exact selvageref09_parts.mono _ _ _ _)
   | (with_reducible exact LeO.refl _)
   | (with_reducible exact LeO.none _)
   | (with_reducible refine LeO.ite ?_ ?_)
   | (with_reducible refine LeO.bind ?_ (fun _ => ?_))
   | exact ih0 _ _
   | exact ih1 _ _ _ _ _ _
   | exact ih2 _ _ _
   | exact ih3 _ _ _ _
   | exact ih4 _ _ _ _ _
   | exact ih5 _ _ _ _ _ _ _
   | exact ih6 _ _ _ _ _ _ _ _ _ _
   | exact ih7 _ _ _ _ _ _ _ _ _ _ _
   | exact selvageref09_Find.mono _ _ _
   | exact selvageref09_parts.mono _ _ _ _
   | exact LeO.none _
   | refine LeO.ite ?_ ?_
   | refine LeO.bind ?_ (fun _ => ?_)
  ·
   intro y0 y1 y2 y3 y4
   unfold selvageref09_Values.l3
   repeat' first
   | (with_reducible exact ih0 _ _)
   | (with_reducible exact ih1 _ _ _ _ _ _)
   | (with_reducible exact ih2 _ _ _)
   | (with_reducible exact ih3 _ _ _ _)
   | (with_reducible exact ih4 _ _ _ _ _)
   | (with_reducible exact ih5 _ _ _ _ _ _ _)
   | (with_reducible exact ih6 _ _ _ _ _ _ _ _ _ _)
   | (with_reducible exact ih7 _ _ _ _ _ _ _ _ _ _ _)
   | (with_reducible exact selvageref09_Find.mono _ _ _)
   | (with_reducible exact selvageref09_parts.mono _ _ _ _)
   | (with_reducible exact LeO.refl _)
   | (with_reducible exact LeO.none _)
   | (with_reducible refine LeO.ite ?_ ?_)
   | (with_reducible refine LeO.bind ?_ (fun _ => ?_))
   | exact ih0 _ _
   | exact ih1 _ _ _ _ _ _
   | exact ih2 _ _ _
   | exact ih3 _ _ _ _
   | exact ih4 _ _ _ _ _
   | exact ih5 _ _ _ _ _ _ _
   | exact ih6 _ _ _ _ _ _ _ _ _ _
   | exact ih7 _ _ _ _ _ _ _ _ _ _ _
   | exact selvageref09_Find.mono _ _ _
   | exact selvageref09_parts.mono _ _ _ _
   | exact LeO.none _
   | refine LeO.ite ?_ ?_
   | refine LeO.bind ?_ (fun _ => ?_)
  ·
   intro y0 y1 y2 y3 y4 y5 y6
   unfold selvageref09_Values.l4
   repeat' first
   | (with_reducible exact ih0 _ _)
   | (with_reducible exact ih1 _ _ _ _ _ _)
   | (with_reducible exact ih2 _ _ _)
   | (with_reducible exact ih3 _ _ _ _)
   | (with_reducible exact ih4 _ _ _ _ _)
   | (with_reducible exact ih5 _ _ _ _ _ _ _)
   | (with_reducible exact ih6 _ _ _ _ _ _ _ _ _ _)
   | (with_reducible exact ih7 _ _ _ _ _ _ _ _ _ _ _)
   | (with_reducible exact selvageref09_Find.mono _ _ _)
   | (with_reducible exact selvageref09_parts.mono _ _ _ _)
   | (with_reducible exact LeO.refl _)
   | (with_reducible exact LeO.none _)
   | (with_reducible refine LeO.ite ?_ ?_)
   | (with_reducible refine LeO.bind ?_ (fun _ => ?_))
   | exact ih0 _ _
   | exact ih1 _ _ _ _ _ _
   | exact ih2 _ _ _
   | exact ih3 _ _ _ _
   | exact ih4 _ _ _ _ _
   | exact ih5 _ _ _ _ _ _ _
   | exact ih6 _ _ _ _ _ _ _ _ _ _
   | exact ih7 _ _ _ _ _ _ _ _ _ _ _
   | exact selvageref09_Find.mono _ _ _
   | exact selvageref09_parts.mono _ _ _ _
   | exact LeO.none _
   | refine LeO.ite ?_ ?_
   | refine LeO.bind ?_ (fun _ => ?_)
  ·
   intro y0 y1 y2 y3 y4 y5 y6 y7 y8 y9
   unfold selvageref09_Values.l5
   repeat' first
   | (with_reducible exact ih0 _ _)
   | (with_reducible exact ih1 _ _ _ _ _ _)
   | (with_reducible exact ih2 _ _ _)
   | (with_reducible exact ih3 _ _ _ _)
   | (with_reducible exact ih4 _ _ _ _ _)
   | (with_reducible exact ih5 _ _ _ _ _ _ _)
   | (with_reducible exact ih6 _ _ _ _ _ _ _ _ _ _)
   | (with_reducible exact ih7 _ _ _ _ _ _ _ _ _ _ _)
   | (with_reducible exact selvageref09_Find.mono _ _ _)
   | (with_reducible exact selvageref09_parts.mono _ _ _ _)
   | (with_reducible exact LeO.refl _)
   | (with_reducible exact LeO.none _)
   | (with_reducible refine LeO.ite ?_ ?_)
   | (with_reducible refine LeO.bind ?_ (fun _ => ?_))
   | exact ih0 _ _
   | exact ih1 _ _ _ _ _ _
   | exact ih2 _ _ _
   | exact ih3 _ _ _ _
   | exact ih4 _ _ _ _ _
   | exact ih5 _ _ _ _ _ _ _
   | exact ih6 _ _ _ _ _ _ _ _ _ _
   | exact ih7 _ _ _ _ _ _ _ _ _ _ _
   | exact selvageref09_Find.mono _ _ _
   | exact selvageref09_parts.mono _ _ _ _
   | exact LeO.none _
   | refine LeO.ite ?_ ?_
   | refine LeO.bind ?_ (fun _ => ?_)
  ·
   intro y0 y1 y2 y3 y4 y5 y6 y7 y8 y9 y10
   unfold selvageref09_Values.l6
   repeat' first
   | (with_reducible exact ih0 _ _)
   | (with_reducible exact ih1 _ _ _ _ _ _)
   | (with_reducible exact ih2 _ _ _)
   | (with_reducible exact ih3 _ _ _ _)
   | (with_reducible exact ih4 _ _ _ _ _)
   | (with_reducible exact ih5 _ _ _ _ _ _ _)
   | (with_reducible exact ih6 _ _ _ _ _ _ _ _ _ _)
   | (with_reducible exact ih7 _ _ _ _ _ _ _ _ _ _ _)
   | (with_reducible exact selvageref09_Find.mono _ _ _)
   | (with_reducible exact selvageref09_parts.mono _ _ _ _)
   | (with_reducible exact LeO.refl _)
   | (with_reducible exact LeO.none _)
   | (with_reducible refine LeO.ite ?_ ?_)
   | (with_reducible refine LeO.bind ?_ (fun _ => ?_))
   | exact ih0 _ _
   | exact ih1 _ _ _ _ _ _
   | exact ih2 _ _ _
   | exact ih3 _ _ _ _
   | exact ih4 _ _ _ _ _
   | exact ih5 _ _ _ _ _ _ _
   | exact ih6 _ _ _ _ _ _ _ _ _ _
   | exact ih7 _ _ _ _ _ _ _ _ _ _ _
   | exact selvageref09_Find.mono _ _ _
   | exact selvageref09_parts.mono _ _ _ _
   | exact LeO.none _
   | refine LeO.ite ?_ ?_
   | refine LeO.bind ?_ (fun _ => ?_)
theorem selvageref09_Values.mono : ∀ a0 a1 k, LeO (selvageref09_Values.f k a0 a1) (selvageref09_Values.f (k + 1) a0 a1) := by
 intro a0 a1 k
 obtain ⟨ih0, ih1, ih2, ih3, ih4, ih5, ih6, ih7⟩ := selvageref09_Values.mono_l k
 exact ih0 a0 a1
def selvageref09_Values.T38 : Bool × List (List Nat × List Nat) := (true, [([], []), ([0], [0]), ([], []), ([], []), ([2, 3], [2, 3]), ([4], [4]), ([5], [5]), ([1, 6], [1, 6]), ([0, 1, 2, 3, 4, 5, 6, 7], []), ([8, 7, 7, 0, 1, 2, 3, 4, 5, 6, 7], [7, 8])])
def selvageref09_Values.B38 : List Nat := [0, 1, 0, 0, 12, 28, 60, 127, 255, 511]
theorem selvageref09_Values.tab38 : rtab .any (opsOf Try.f14 38) = selvageref09_Values.T38 := by kernel_rfl
theorem selvageref09_Values.bits38 : waitsOk selvageref09_Values.T38.2 selvageref09_Values.B38 = true := by kernel_rfl
def selvageref09_Values.T39 : Bool × List (List Nat × List Nat) := (true, [([], []), ([0], [0]), ([], []), ([], []), ([2, 3], [2, 3]), ([4], [4]), ([5], [5]), ([1, 6], [1, 6]), ([0, 1, 2, 3, 4, 5, 6, 7], []), ([8, 7, 7, 0, 1, 2, 3, 4, 5, 6, 7], [7, 8])])
def selvageref09_Values.B39 : List Nat := [0, 1, 0, 0, 12, 28, 60, 127, 255, 511]
theorem selvageref09_Values.tab39 : rtab .any (opsOf Try.f14 39) = selvageref09_Values.T39 := by kernel_rfl
theorem selvageref09_Values.bits39 : waitsOk selvageref09_Values.T39.2 selvageref09_Values.B39 = true := by kernel_rfl
set_option maxHeartbeats 8000000 in
set_option maxRecDepth 100000 in
theorem selvageref09_Values.calls (k : Nat) : ∀ (A0 : Option Addr) (c0 : Nat) (l0 : List (S61)) (P1_ : Nat → Prop) (A1 : Option Addr) (c1 : Nat) (l1 : List (S25)) (r : List (S40)) (w : World) (hr0 : Kd.C k61 w A0 l0.length l0) (hc0 : l0.length ≤ c0) (hs1 : Kd.V k25 25 w w.heap.size (fun k_ => P1_ k_) (.slice A1 l1.length c1) l1) (h : selvageref09_Values.f k l0 l1 = some r),
 Calls Try.prog 14 #[.slice A0 l0.length c0, .slice A1 l1.length c1] w fun e w' => ∃ v0_ : Value, e = .returned (v0_) ∧ Kd.N k40 40 w' w.heap.size (fun k_ => (P1_ k_ ∨ w.heap.size ≤ k_)) v0_ r ∧ Below w.heap.size w w' := by
 induction k using Nat.strongRecOn with
 | _ k ih =>
 intro A0 c0 l0 P1_ A1 c1 l1 r w hr0 hc0 hs1 h
 cases k with
 | zero => exact absurd h (by simp [selvageref09_Values.f])
 | succ k =>
 simp only [selvageref09_Values.f] at h
 have hu40 := Try.underlying40
 have HR0 := Aside0.mk hr0
 have HC0 := Aside0.mk hc0
 clear hr0 hc0
 have HO1 := Aside0.mk (show Kd.V k25 25 w w.heap.size (fun k_ => (P1_ k_ ∨ w.heap.size ≤ k_)) (.slice A1 l1.length c1) l1 from Kd.V_mono hs1 (fun k_ hk => .inl hk))
 have HB := Aside0.mk (Below.refl w.heap.size w)
 have H : (selvageref09_Values.l0 k l0 l1 (⟨#[]⟩ : ByteArray) 0 ([] : List (S40)) 0) = some r := h
 clear h
 have H' := Aside0.mk H
 clear H
 go_enter Try.func14, Try.ntmps14
 go_wp2
 go_loopg [5, 7, 8] k (fun kq v5 v7 v8 w' => ∃ (x5_1 : ByteArray) (x7_1 : List (S40)) (x8_1 : Int), v5 = .string x5_1 ∧ v8 = .int .i64 x8_1 ∧ Aside0 (selvageref09_Values.l0 kq l0 l1 x5_1 0 x7_1 x8_1 = some r) ∧ Aside0 (kq ≤ k) ∧ Aside0 (Kd.V k25 25 w' w.heap.size (fun k_ => (P1_ k_ ∨ w.heap.size ≤ k_) ∧ some k_ ≠ (v7 : Value).ownBlock) (.slice A1 l1.length c1) l1) ∧ Aside0 (Kd.N k40 40 w' w.heap.size (fun k_ => (P1_ k_ ∨ w.heap.size ≤ k_)) v7 x7_1) ∧ Aside0 (Below w.heap.size w w'))
 case atStart => exact ⟨((⟨#[]⟩ : ByteArray)), (([] : List (S40))), (0), (by first | rfl | (simp; done) | (simp [*]; done)), (by first | rfl | (simp; done) | (simp [*]; done)), H', ⟨Nat.le_refl _⟩, ⟨by (with_reducible repeat (first | apply Kd.V_alloc | apply Kd.V_drewN | apply Kd.V_drew)); exact Kd.V_mono HO1.out (fun _ hk => ⟨hk, (by simp [Value.ownBlock])⟩)⟩, ⟨by first | exact Kd.R_nil _ _ _ _ _ | exact Kd.N_nil _ _ _ _ _ | exact Kd.V_nil _ _ _ _ _ | exact Kd.Q_nil _ _ _ _ _ | exact Kd.S_nil _ _ _ _ _⟩, ⟨by repeat ((with_reducible first | exact HB.out | apply below_alloc | apply pw_below_drewN | apply below_drew1))⟩⟩
 case round =>
  clear H'
  try clear c1
  try clear p2
  obtain ⟨x5_1, x7_1, x8_1, rfl, rfl, HA, HK1, HO_1, HO_7, HB⟩ := hrel
  cases gk with
  | zero => exact absurd HA.out (by simp [selvageref09_Values.l0])
  | succ k1 =>
   have H := HA.out
   clear HA
   simp only [selvageref09_Values.l0] at H
   by_cases c3 : x8_1 < (l1.length : Int)
   ·
    rw [if_pos c3] at H
    have c3b0 : decide (x8_1 < (l1.length : Int)) = true := decide_eq_true c3
    clear c3
    by_cases c4 : 0 ≤ x8_1
    ·
     rw [if_pos c4] at H
     have c4b0 : decide (0 ≤ x8_1) = true := decide_eq_true c4
     clear c4
     by_cases c5 : ((rd_T25 l1 x8_1).f0) = 1
     ·
      rw [if_pos c5] at H
      have c5b0 : (((rd_T25 l1 x8_1).f0) == 1) = true := beq_iff_eq.mpr c5
      have c5b1 : (((rd_T25 l1 x8_1).f0) != 1) = false := bne_eq_false_iff_eq.mpr c5
      clear c5
      by_cases c6 : x7_1.length < 2932031007402
      ·
       rw [if_pos c6] at H
       have LMc6 := Aside0.mk c6
       clear c6
       obtain ⟨y300, hy300⟩ : ∃ y_ : List (S40), y_ = (x7_1 ++ [(⟨(⟨#[]⟩ : ByteArray), (rd_T25 l1 x8_1).f2, ([] : List (S40))⟩ : S40)]) := ⟨_, rfl⟩
       replace H : (if ((rd_T25 l1 x8_1).f0) = 5 then ((selvageref09_Find.f k1 l0 ((rd_T25 l1 x8_1).f1)).bind fun t305 => (if 0 ≤ t305 then (if t305 < (l0.length : Int) then (selvageref09_Values.l0 k1 l0 l1 ((rd_T61 l0 t305).f1) 0 y300 (wrap64 (x8_1 + 1))) else (none)) else (none))) else (selvageref09_Values.l0 k1 l0 l1 x5_1 0 y300 (wrap64 (x8_1 + 1)))) = some r := by first | (rw [hy300]; with_reducible exact H) | (have H2_ := (Option.bind_some _ _).symm.trans H; rw [hy300]; with_reducible exact H2_) | (have H2_ := (Option.bind_some _ _).symm.trans H; with_reducible exact H2_) | with_reducible exact H | (rw [hy300]; exact H) | exact H
       have Ny300 := Aside0.mk hy300
       clear hy300
       by_cases c7 : ((rd_T25 l1 x8_1).f0) = 5
       ·
        rw [if_pos c7] at H
        have c7b0 : (((rd_T25 l1 x8_1).f0) == 5) = true := beq_iff_eq.mpr c7
        have c7b1 : (((rd_T25 l1 x8_1).f0) != 5) = false := bne_eq_false_iff_eq.mpr c7
        clear c7
        replace H := Option.bind_eq_some_iff.mp H
        obtain ⟨t305, A80, H⟩ := H
        replace H : (if 0 ≤ t305 then (if t305 < (l0.length : Int) then (selvageref09_Values.l0 k1 l0 l1 ((rd_T61 l0 t305).f1) 0 y300 (wrap64 (x8_1 + 1))) else (none)) else (none)) = some r := H
        have A8 := Aside0.mk A80
        clear A80
        by_cases c9 : 0 ≤ t305
        ·
         rw [if_pos c9] at H
         have c9b0 : decide (0 ≤ t305) = true := decide_eq_true c9
         clear c9
         by_cases c10 : t305 < (l0.length : Int)
         ·
          rw [if_pos c10] at H
          have c10b0 : decide (t305 < (l0.length : Int)) = true := decide_eq_true c10
          clear c10
          have H' := Aside0.mk H
          clear H
          have p298 : 0 ≤ (x8_1 : Int) := of_decide_eq_true (by first | (with_reducible assumption) | assumption)
          have q298 : x8_1 < (l1.length : Int) := of_decide_eq_true (by first | (with_reducible assumption) | assumption)
          obtain ⟨ad298, A298_4, c298_4, A298_5, c298_5, e298, hx298_0, hx298_1, hx298_2, hx298_3, hx298_4, hx298_5, hl298_4, hi298_4, hl298_5, hi298_5⟩ := at_T25 (Kd.V_reads' HO_1.out).2.2 x8_1 p298 q298
          cases e298
          obtain ⟨ce298, hce298, hMe298, hcc298⟩ := Kd.V_get HO_1.out z25 x8_1 p298 (by first | exact q298 | exact of_decide_eq_true (by first | (with_reducible assumption) | assumption) | (have e_ := (Kd.V_reads' HO_1.out).1; omega))
          obtain ⟨ua298_4, uc298_4, ua298_5, uc298_5, rfl, ul298_4, ge298_4, ul298_5, ge298_5⟩ := k25_openF hMe298
          have hv298_4 := hcc298 4 _ rfl
          rw [add_field _ _ 4 (by omega)] at hv298_4
          replace hv298_4 := Option.some.inj (hv298_4.symm.trans hx298_4)
          injection hv298_4 with hva_ hvn_ hvc_
          rw [hva_] at ge298_4
          rw [hvc_] at ul298_4
          have HL298_4 := Aside0.mk (show Kd.V Kd.string 9 _ w.heap.size _ _ ((rd_T25 l1 x8_1).f4) from Kd.V_mk ul298_4 ge298_4)
          clear hva_ hvn_ hvc_ ge298_4 ul298_4
          have hv298_5 := hcc298 5 _ rfl
          rw [add_field _ _ 5 (by omega)] at hv298_5
          replace hv298_5 := Option.some.inj (hv298_5.symm.trans hx298_5)
          injection hv298_5 with hva_ hvn_ hvc_
          rw [hva_] at ge298_5
          rw [hvc_] at ul298_5
          have HL298_5 := Aside0.mk (show Kd.V k25 25 _ w.heap.size _ _ ((rd_T25 l1 x8_1).f5) from Kd.V_mk ul298_5 ge298_5)
          clear hva_ hvn_ hvc_ ge298_5 ul298_5
          clear hcc298 hce298
          have HR298_4 := Aside0.mk hi298_4
          have HC298_4 := Aside0.mk hl298_4
          clear hi298_4 hl298_4
          have HR298_5 := Aside0.mk hi298_5
          have HC298_5 := Aside0.mk hl298_5
          clear hi298_5 hl298_5
          replace p298 := eq_true p298
          replace q298 := eq_true q298
          have p299 : 0 ≤ (x8_1 : Int) := of_decide_eq_true (by first | (with_reducible assumption) | assumption)
          have q299 : x8_1 < (l1.length : Int) := of_decide_eq_true (by first | (with_reducible assumption) | assumption)
          obtain ⟨ad299, A299_4, c299_4, A299_5, c299_5, e299, hx299_0, hx299_1, hx299_2, hx299_3, hx299_4, hx299_5, hl299_4, hi299_4, hl299_5, hi299_5⟩ := at_T25 (Kd.V_reads' HO_1.out).2.2 x8_1 p299 q299
          obtain rfl : ad298 = ad299 := (by injection e299)
          obtain ⟨ce299, hce299, hMe299, hcc299⟩ := Kd.V_get HO_1.out z25 x8_1 p299 (by first | exact q299 | exact of_decide_eq_true (by first | (with_reducible assumption) | assumption) | (have e_ := (Kd.V_reads' HO_1.out).1; omega))
          obtain ⟨ua299_4, uc299_4, ua299_5, uc299_5, rfl, ul299_4, ge299_4, ul299_5, ge299_5⟩ := k25_openF hMe299
          have hv299_4 := hcc299 4 _ rfl
          rw [add_field _ _ 4 (by omega)] at hv299_4
          replace hv299_4 := Option.some.inj (hv299_4.symm.trans hx299_4)
          injection hv299_4 with hva_ hvn_ hvc_
          rw [hva_] at ge299_4
          rw [hvc_] at ul299_4
          have HL299_4 := Aside0.mk (show Kd.V Kd.string 9 _ w.heap.size _ _ ((rd_T25 l1 x8_1).f4) from Kd.V_mk ul299_4 ge299_4)
          clear hva_ hvn_ hvc_ ge299_4 ul299_4
          have hv299_5 := hcc299 5 _ rfl
          rw [add_field _ _ 5 (by omega)] at hv299_5
          replace hv299_5 := Option.some.inj (hv299_5.symm.trans hx299_5)
          injection hv299_5 with hva_ hvn_ hvc_
          rw [hva_] at ge299_5
          rw [hvc_] at ul299_5
          have HL299_5 := Aside0.mk (show Kd.V k25 25 _ w.heap.size _ _ ((rd_T25 l1 x8_1).f5) from Kd.V_mk ul299_5 ge299_5)
          clear hva_ hvn_ hvc_ ge299_5 ul299_5
          clear hcc299 hce299
          have HR299_4 := Aside0.mk hi299_4
          have HC299_4 := Aside0.mk hl299_4
          clear hi299_4 hl299_4
          have HR299_5 := Aside0.mk hi299_5
          have HC299_5 := Aside0.mk hl299_5
          clear hi299_5 hl299_5
          replace p299 := eq_true p299
          replace q299 := eq_true q299
          have ea_ := Option.some.inj (hx298_4.symm.trans hx299_4)
          injection ea_ with ea_ en_ ec_
          subst ea_
          subst ec_
          clear en_
          have ea_ := Option.some.inj (hx298_5.symm.trans hx299_5)
          injection ea_ with ea_ en_ ec_
          subst ea_
          subst ec_
          clear en_
          go_wp2_with (first | ((with_reducible refine gate_builtin (b := .append) (xs := #[.tmp 31, .tmp 38]) rfl ?_); at_builtin; refine Kd.N_append k40 (w0 := w) w.heap.size rfl (.tmp 31) (.tmp 38) 36 40 (.agg #[(.string ⟨#[]⟩), (.int .i64 0), (.slice none 0 0)]) 48 rfl Try.underlying36 info40 rfl (by decide) (by omega) u7 x7_1 (⟨(⟨#[]⟩ : ByteArray), (rd_T25 l1 x8_1).f2, ([] : List (S40))⟩ : S40) [.string (⟨#[]⟩ : ByteArray), .int .i64 ((rd_T25 l1 x8_1).f2), .slice none 0 0] (fun k_ => (P1_ k_ ∨ w.heap.size ≤ k_)) (fun k_ => ((fun k_ => (P1_ k_ ∨ w.heap.size ≤ k_))) k_ ∧ some k_ ≠ (u7 : Value).ownBlock) rfl rfl ?aP (fun _ hk => hk) ?aF ?aO ?aB ?aS ?aL ?_; (case aP => exact (k40_mkF _ _ (⟨(⟨#[]⟩ : ByteArray), (rd_T25 l1 x8_1).f2, ([] : List (S40))⟩ : S40) (Nat.le_refl _) (Kd.F_nil _ _ _))); (case aB => exact (by repeat ((with_reducible first | exact HB.out | apply below_alloc | apply pw_below_drewN | apply below_drew1)))); (case aF => exact (fun k_ hk => (.inr (Nat.le_trans (below_size (by repeat ((with_reducible first | exact HB.out | apply below_alloc | apply pw_below_drewN | apply below_drew1)))) hk)))); (case aO => exact (by (with_reducible repeat (first | apply Kd.N_alloc | apply Kd.N_drewN | apply Kd.N_drew)); exact HO_7.out)); (case aS => exact (below_size (by repeat ((with_reducible first | exact HB.out | apply below_alloc | apply pw_below_drewN | apply below_drew1))))); (case aL => have := LMc6.out; omega); intro v301 w11 ho hb hg hat; rw [← Ny300.out] at ho; have n0_ := Aside0.mk (Kd.V_afterv (ok := (fun k_ => (P1_ k_ ∨ w.heap.size ≤ k_))) (by (with_reducible repeat (first | apply Kd.V_alloc | apply Kd.V_drewN | apply Kd.V_drew)); exact HO_1.out) hg hat); have n1_ := Aside0.mk (Kd.V_afterv (ok := (fun k_ => (P1_ k_ ∨ w.heap.size ≤ k_))) (by (with_reducible repeat (first | apply Kd.V_alloc | apply Kd.V_drewN | apply Kd.V_drew)); exact HL298_4.out) hg hat); have n2_ := Aside0.mk (Kd.V_afterv (ok := (fun k_ => (P1_ k_ ∨ w.heap.size ≤ k_))) (by (with_reducible repeat (first | apply Kd.V_alloc | apply Kd.V_drewN | apply Kd.V_drew)); exact HL298_5.out) hg hat); have n3_ := Aside0.mk (Kd.V_afterv (ok := (fun k_ => (P1_ k_ ∨ w.heap.size ≤ k_))) (by (with_reducible repeat (first | apply Kd.V_alloc | apply Kd.V_drewN | apply Kd.V_drew)); exact HL299_4.out) hg hat); have n4_ := Aside0.mk (Kd.V_afterv (ok := (fun k_ => (P1_ k_ ∨ w.heap.size ≤ k_))) (by (with_reducible repeat (first | apply Kd.V_alloc | apply Kd.V_drewN | apply Kd.V_drew)); exact HL299_5.out) hg hat); have n5_ := Aside0.mk (hb); have n6_ := Aside0.mk (ho); clear HO_1; clear HL298_4; clear HL298_5; clear HL299_4; clear HL299_5; clear HB; clear HO_7; have HO_1 := n0_; have HL298_4 := n1_; have HL298_5 := n2_; have HL299_4 := n3_; have HL299_5 := n4_; have HB := n5_; have HO302 := n6_; clear n0_ n1_ n2_ n3_ n4_ n5_ n6_; clear ho hb hg hat; have p303 : 0 ≤ (x8_1 : Int) := of_decide_eq_true (by first | (with_reducible assumption) | assumption); have q303 : x8_1 < (l1.length : Int) := of_decide_eq_true (by first | (with_reducible assumption) | assumption); obtain ⟨ad303, A303_4, c303_4, A303_5, c303_5, e303, hx303_0, hx303_1, hx303_2, hx303_3, hx303_4, hx303_5, hl303_4, hi303_4, hl303_5, hi303_5⟩ := at_T25 (Kd.V_reads' HO_1.out).2.2 x8_1 p303 q303; obtain rfl : ad298 = ad303 := (by injection e303); obtain ⟨ce303, hce303, hMe303, hcc303⟩ := Kd.V_get HO_1.out z25 x8_1 p303 (by first | exact q303 | exact of_decide_eq_true (by first | (with_reducible assumption) | assumption) | (have e_ := (Kd.V_reads' HO_1.out).1; omega)); obtain ⟨ua303_4, uc303_4, ua303_5, uc303_5, rfl, ul303_4, ge303_4, ul303_5, ge303_5⟩ := k25_openF hMe303; have hv303_4 := hcc303 4 _ rfl; rw [add_field _ _ 4 (by omega)] at hv303_4; replace hv303_4 := Option.some.inj (hv303_4.symm.trans hx303_4); injection hv303_4 with hva_ hvn_ hvc_; rw [hva_] at ge303_4; rw [hvc_] at ul303_4; have HL303_4 := Aside0.mk (show Kd.V Kd.string 9 _ w.heap.size _ _ ((rd_T25 l1 x8_1).f4) from Kd.V_mk ul303_4 ge303_4); clear hva_ hvn_ hvc_ ge303_4 ul303_4; have hv303_5 := hcc303 5 _ rfl; rw [add_field _ _ 5 (by omega)] at hv303_5; replace hv303_5 := Option.some.inj (hv303_5.symm.trans hx303_5); injection hv303_5 with hva_ hvn_ hvc_; rw [hva_] at ge303_5; rw [hvc_] at ul303_5; have HL303_5 := Aside0.mk (show Kd.V k25 25 _ w.heap.size _ _ ((rd_T25 l1 x8_1).f5) from Kd.V_mk ul303_5 ge303_5); clear hva_ hvn_ hvc_ ge303_5 ul303_5; clear hcc303 hce303; have HR303_4 := Aside0.mk hi303_4; have HC303_4 := Aside0.mk hl303_4; clear hi303_4 hl303_4; have HR303_5 := Aside0.mk hi303_5; have HC303_5 := Aside0.mk hl303_5; clear hi303_5 hl303_5; replace p303 := eq_true p303; replace q303 := eq_true q303; have p304 : 0 ≤ (x8_1 : Int) := of_decide_eq_true (by first | (with_reducible assumption) | assumption); have q304 : x8_1 < (l1.length : Int) := of_decide_eq_true (by first | (with_reducible assumption) | assumption); obtain ⟨ad304, A304_4, c304_4, A304_5, c304_5, e304, hx304_0, hx304_1, hx304_2, hx304_3, hx304_4, hx304_5, hl304_4, hi304_4, hl304_5, hi304_5⟩ := at_T25 (Kd.V_reads' HO_1.out).2.2 x8_1 p304 q304; obtain rfl : ad298 = ad304 := (by injection e304); obtain ⟨ce304, hce304, hMe304, hcc304⟩ := Kd.V_get HO_1.out z25 x8_1 p304 (by first | exact q304 | exact of_decide_eq_true (by first | (with_reducible assumption) | assumption) | (have e_ := (Kd.V_reads' HO_1.out).1; omega)); obtain ⟨ua304_4, uc304_4, ua304_5, uc304_5, rfl, ul304_4, ge304_4, ul304_5, ge304_5⟩ := k25_openF hMe304; have hv304_4 := hcc304 4 _ rfl; rw [add_field _ _ 4 (by omega)] at hv304_4; replace hv304_4 := Option.some.inj (hv304_4.symm.trans hx304_4); injection hv304_4 with hva_ hvn_ hvc_; rw [hva_] at ge304_4; rw [hvc_] at ul304_4; have HL304_4 := Aside0.mk (show Kd.V Kd.string 9 _ w.heap.size _ _ ((rd_T25 l1 x8_1).f4) from Kd.V_mk ul304_4 ge304_4); clear hva_ hvn_ hvc_ ge304_4 ul304_4; have hv304_5 := hcc304 5 _ rfl; rw [add_field _ _ 5 (by omega)] at hv304_5; replace hv304_5 := Option.some.inj (hv304_5.symm.trans hx304_5); injection hv304_5 with hva_ hvn_ hvc_; rw [hva_] at ge304_5; rw [hvc_] at ul304_5; have HL304_5 := Aside0.mk (show Kd.V k25 25 _ w.heap.size _ _ ((rd_T25 l1 x8_1).f5) from Kd.V_mk ul304_5 ge304_5); clear hva_ hvn_ hvc_ ge304_5 ul304_5; clear hcc304 hce304; have HR304_4 := Aside0.mk hi304_4; have HC304_4 := Aside0.mk hl304_4; clear hi304_4 hl304_4; have HR304_5 := Aside0.mk hi304_5; have HC304_5 := Aside0.mk hl304_5; clear hi304_5 hl304_5; replace p304 := eq_true p304; replace q304 := eq_true q304; have ea_ := Option.some.inj (hx303_4.symm.trans hx304_4); injection ea_ with ea_ en_ ec_; subst ea_; subst ec_; clear en_; have ea_ := Option.some.inj (hx303_5.symm.trans hx304_5); injection ea_ with ea_ en_ ec_; subst ea_; subst ec_; clear en_) | ((with_reducible refine gate_callee (f := 32) rfl ?_); refine goesL_ (some 53) rfl rfl Try.func32 (by kernel_rfl) rfl #[.slice A0 l0.length c0, .string ((rd_T25 l1 x8_1).f1)] rfl (by (try simp only [List.map_toArray, List.map_cons, List.map_nil]); first | done | rfl | (simp only [List.length_drop, List.length_take]; rfl)) ?_; (with_reducible refine (selvageref09_Find.calls k1 _ _ l0 ((rd_T25 l1 x8_1).f1) t305 _ ?side1 ?side2 A8.out).mono ?_); (case side1 => repeat (exact (Kd.C_below HR0.out HB.out))); (case side2 => exact HC0.out); rintro e w' ⟨rfl, ⟨nd, rfl⟩⟩; refine ⟨_, rfl, ?_⟩; have p306 : 0 ≤ (t305 : Int) := of_decide_eq_true (by first | (with_reducible assumption) | assumption); have q306 : t305 < (l0.length : Int) := of_decide_eq_true (by first | (with_reducible assumption) | assumption); obtain ⟨ad306, e306, hx306_0, hx306_1, hx306_2, hx306_3, hx306_4⟩ := at_T61 HR0.out t305 p306 q306; cases e306; replace hx306_0 := (HB.out.cell (World.block_lt_of_cell? w _ hx306_0)).trans hx306_0; replace hx306_1 := (HB.out.cell (World.block_lt_of_cell? w _ hx306_1)).trans hx306_1; replace hx306_2 := (HB.out.cell (World.block_lt_of_cell? w _ hx306_2)).trans hx306_2; replace hx306_3 := (HB.out.cell (World.block_lt_of_cell? w _ hx306_3)).trans hx306_3; replace hx306_4 := (HB.out.cell (World.block_lt_of_cell? w _ hx306_4)).trans hx306_4; replace p306 := eq_true p306; replace q306 := eq_true q306))
          go_roundg k1
          case measure => have := HK1.out; omega
          case rel => exact ⟨((rd_T61 l0 t305).f1), (y300), (wrap64 (x8_1 + 1)), (by first | rfl | (simp; done) | (simp [*]; done)), (by first | rfl | (simp; done) | (simp [*]; done)), H', ⟨by have := HK1.out; omega⟩, ⟨by (with_reducible repeat (first | apply Kd.V_alloc | apply Kd.V_drewN | apply Kd.V_drew)); exact HO_1.out⟩, ⟨by (with_reducible repeat (first | apply Kd.N_alloc | apply Kd.N_drewN | apply Kd.N_drew)); exact HO302.out⟩, ⟨by repeat ((with_reducible first | exact HB.out | apply below_alloc | apply pw_below_drewN | apply below_drew1))⟩⟩
         ·
          rw [if_neg c10] at H
          exact absurd H (by simp)
        ·
         rw [if_neg c9] at H
         exact absurd H (by simp)
       ·
        rw [if_neg c7] at H
        have c7b0 : (((rd_T25 l1 x8_1).f0) == 5) = false := beq_eq_false_iff_ne.mpr c7
        have c7b1 : (((rd_T25 l1 x8_1).f0) != 5) = true := bne_iff_ne.mpr c7
        have H' := Aside0.mk H
        clear H
        have p298 : 0 ≤ (x8_1 : Int) := of_decide_eq_true (by first | (with_reducible assumption) | assumption)
        have q298 : x8_1 < (l1.length : Int) := of_decide_eq_true (by first | (with_reducible assumption) | assumption)
        obtain ⟨ad298, A298_4, c298_4, A298_5, c298_5, e298, hx298_0, hx298_1, hx298_2, hx298_3, hx298_4, hx298_5, hl298_4, hi298_4, hl298_5, hi298_5⟩ := at_T25 (Kd.V_reads' HO_1.out).2.2 x8_1 p298 q298
        cases e298
        obtain ⟨ce298, hce298, hMe298, hcc298⟩ := Kd.V_get HO_1.out z25 x8_1 p298 (by first | exact q298 | exact of_decide_eq_true (by first | (with_reducible assumption) | assumption) | (have e_ := (Kd.V_reads' HO_1.out).1; omega))
        obtain ⟨ua298_4, uc298_4, ua298_5, uc298_5, rfl, ul298_4, ge298_4, ul298_5, ge298_5⟩ := k25_openF hMe298
        have hv298_4 := hcc298 4 _ rfl
        rw [add_field _ _ 4 (by omega)] at hv298_4
        replace hv298_4 := Option.some.inj (hv298_4.symm.trans hx298_4)
        injection hv298_4 with hva_ hvn_ hvc_
        rw [hva_] at ge298_4
        rw [hvc_] at ul298_4
        have HL298_4 := Aside0.mk (show Kd.V Kd.string 9 _ w.heap.size _ _ ((rd_T25 l1 x8_1).f4) from Kd.V_mk ul298_4 ge298_4)
        clear hva_ hvn_ hvc_ ge298_4 ul298_4
        have hv298_5 := hcc298 5 _ rfl
        rw [add_field _ _ 5 (by omega)] at hv298_5
        replace hv298_5 := Option.some.inj (hv298_5.symm.trans hx298_5)
        injection hv298_5 with hva_ hvn_ hvc_
        rw [hva_] at ge298_5
        rw [hvc_] at ul298_5
        have HL298_5 := Aside0.mk (show Kd.V k25 25 _ w.heap.size _ _ ((rd_T25 l1 x8_1).f5) from Kd.V_mk ul298_5 ge298_5)
        clear hva_ hvn_ hvc_ ge298_5 ul298_5
        clear hcc298 hce298
        have HR298_4 := Aside0.mk hi298_4
        have HC298_4 := Aside0.mk hl298_4
        clear hi298_4 hl298_4
        have HR298_5 := Aside0.mk hi298_5
        have HC298_5 := Aside0.mk hl298_5
        clear hi298_5 hl298_5
        replace p298 := eq_true p298
        replace q298 := eq_true q298
        have p299 : 0 ≤ (x8_1 : Int) := of_decide_eq_true (by first | (with_reducible assumption) | assumption)
        have q299 : x8_1 < (l1.length : Int) := of_decide_eq_true (by first | (with_reducible assumption) | assumption)
        obtain ⟨ad299, A299_4, c299_4, A299_5, c299_5, e299, hx299_0, hx299_1, hx299_2, hx299_3, hx299_4, hx299_5, hl299_4, hi299_4, hl299_5, hi299_5⟩ := at_T25 (Kd.V_reads' HO_1.out).2.2 x8_1 p299 q299
        obtain rfl : ad298 = ad299 := (by injection e299)
        obtain ⟨ce299, hce299, hMe299, hcc299⟩ := Kd.V_get HO_1.out z25 x8_1 p299 (by first | exact q299 | exact of_decide_eq_true (by first | (with_reducible assumption) | assumption) | (have e_ := (Kd.V_reads' HO_1.out).1; omega))
        obtain ⟨ua299_4, uc299_4, ua299_5, uc299_5, rfl, ul299_4, ge299_4, ul299_5, ge299_5⟩ := k25_openF hMe299
        have hv299_4 := hcc299 4 _ rfl
        rw [add_field _ _ 4 (by omega)] at hv299_4
        replace hv299_4 := Option.some.inj (hv299_4.symm.trans hx299_4)
        injection hv299_4 with hva_ hvn_ hvc_
        rw [hva_] at ge299_4
        rw [hvc_] at ul299_4
        have HL299_4 := Aside0.mk (show Kd.V Kd.string 9 _ w.heap.size _ _ ((rd_T25 l1 x8_1).f4) from Kd.V_mk ul299_4 ge299_4)
        clear hva_ hvn_ hvc_ ge299_4 ul299_4
        have hv299_5 := hcc299 5 _ rfl
        rw [add_field _ _ 5 (by omega)] at hv299_5
        replace hv299_5 := Option.some.inj (hv299_5.symm.trans hx299_5)
        injection hv299_5 with hva_ hvn_ hvc_
        rw [hva_] at ge299_5
        rw [hvc_] at ul299_5
        have HL299_5 := Aside0.mk (show Kd.V k25 25 _ w.heap.size _ _ ((rd_T25 l1 x8_1).f5) from Kd.V_mk ul299_5 ge299_5)
        clear hva_ hvn_ hvc_ ge299_5 ul299_5
        clear hcc299 hce299
        have HR299_4 := Aside0.mk hi299_4
        have HC299_4 := Aside0.mk hl299_4
        clear hi299_4 hl299_4
        have HR299_5 := Aside0.mk hi299_5
        have HC299_5 := Aside0.mk hl299_5
        clear hi299_5 hl299_5
        replace p299 := eq_true p299
        replace q299 := eq_true q299
        have ea_ := Option.some.inj (hx298_4.symm.trans hx299_4)
        injection ea_ with ea_ en_ ec_
        subst ea_
        subst ec_
        clear en_
        have ea_ := Option.some.inj (hx298_5.symm.trans hx299_5)
        injection ea_ with ea_ en_ ec_
        subst ea_
        subst ec_
        clear en_
        go_wp2_with (first | ((with_reducible refine gate_builtin (b := .append) (xs := #[.tmp 31, .tmp 38]) rfl ?_); at_builtin; refine Kd.N_append k40 (w0 := w) w.heap.size rfl (.tmp 31) (.tmp 38) 36 40 (.agg #[(.string ⟨#[]⟩), (.int .i64 0), (.slice none 0 0)]) 48 rfl Try.underlying36 info40 rfl (by decide) (by omega) u7 x7_1 (⟨(⟨#[]⟩ : ByteArray), (rd_T25 l1 x8_1).f2, ([] : List (S40))⟩ : S40) [.string (⟨#[]⟩ : ByteArray), .int .i64 ((rd_T25 l1 x8_1).f2), .slice none 0 0] (fun k_ => (P1_ k_ ∨ w.heap.size ≤ k_)) (fun k_ => ((fun k_ => (P1_ k_ ∨ w.heap.size ≤ k_))) k_ ∧ some k_ ≠ (u7 : Value).ownBlock) rfl rfl ?aP (fun _ hk => hk) ?aF ?aO ?aB ?aS ?aL ?_; (case aP => exact (k40_mkF _ _ (⟨(⟨#[]⟩ : ByteArray), (rd_T25 l1 x8_1).f2, ([] : List (S40))⟩ : S40) (Nat.le_refl _) (Kd.F_nil _ _ _))); (case aB => exact (by repeat (first | (with_reducible first | exact HB.out | apply below_alloc | apply pw_below_drewN | apply below_drew1) | exact HB.out))); (case aF => exact (fun k_ hk => (.inr (Nat.le_trans (below_size (by repeat (first | (with_reducible first | exact HB.out | apply below_alloc | apply pw_below_drewN | apply below_drew1) | exact HB.out))) hk)))); (case aO => exact (by (with_reducible repeat (first | apply Kd.N_alloc | apply Kd.N_drewN | apply Kd.N_drew)); exact HO_7.out)); (case aS => exact (below_size (by repeat (first | (with_reducible first | exact HB.out | apply below_alloc | apply pw_below_drewN | apply below_drew1) | exact HB.out)))); (case aL => have := LMc6.out; omega); intro v301 w12 ho hb hg hat; rw [← Ny300.out] at ho; have n0_ := Aside0.mk (Kd.V_afterv (ok := (fun k_ => (P1_ k_ ∨ w.heap.size ≤ k_))) (by (with_reducible repeat (first | apply Kd.V_alloc | apply Kd.V_drewN | apply Kd.V_drew)); exact HO_1.out) hg hat); have n1_ := Aside0.mk (Kd.V_afterv (ok := (fun k_ => (P1_ k_ ∨ w.heap.size ≤ k_))) (by (with_reducible repeat (first | apply Kd.V_alloc | apply Kd.V_drewN | apply Kd.V_drew)); exact HL298_4.out) hg hat); have n2_ := Aside0.mk (Kd.V_afterv (ok := (fun k_ => (P1_ k_ ∨ w.heap.size ≤ k_))) (by (with_reducible repeat (first | apply Kd.V_alloc | apply Kd.V_drewN | apply Kd.V_drew)); exact HL298_5.out) hg hat); have n3_ := Aside0.mk (Kd.V_afterv (ok := (fun k_ => (P1_ k_ ∨ w.heap.size ≤ k_))) (by (with_reducible repeat (first | apply Kd.V_alloc | apply Kd.V_drewN | apply Kd.V_drew)); exact HL299_4.out) hg hat); have n4_ := Aside0.mk (Kd.V_afterv (ok := (fun k_ => (P1_ k_ ∨ w.heap.size ≤ k_))) (by (with_reducible repeat (first | apply Kd.V_alloc | apply Kd.V_drewN | apply Kd.V_drew)); exact HL299_5.out) hg hat); have n5_ := Aside0.mk (hb); have n6_ := Aside0.mk (ho); clear HO_1; clear HL298_4; clear HL298_5; clear HL299_4; clear HL299_5; clear HB; clear HO_7; have HO_1 := n0_; have HL298_4 := n1_; have HL298_5 := n2_; have HL299_4 := n3_; have HL299_5 := n4_; have HB := n5_; have HO302 := n6_; clear n0_ n1_ n2_ n3_ n4_ n5_ n6_; clear ho hb hg hat; have p303 : 0 ≤ (x8_1 : Int) := of_decide_eq_true (by first | (with_reducible assumption) | assumption); have q303 : x8_1 < (l1.length : Int) := of_decide_eq_true (by first | (with_reducible assumption) | assumption); obtain ⟨ad303, A303_4, c303_4, A303_5, c303_5, e303, hx303_0, hx303_1, hx303_2, hx303_3, hx303_4, hx303_5, hl303_4, hi303_4, hl303_5, hi303_5⟩ := at_T25 (Kd.V_reads' HO_1.out).2.2 x8_1 p303 q303; obtain rfl : ad298 = ad303 := (by injection e303); obtain ⟨ce303, hce303, hMe303, hcc303⟩ := Kd.V_get HO_1.out z25 x8_1 p303 (by first | exact q303 | exact of_decide_eq_true (by first | (with_reducible assumption) | assumption) | (have e_ := (Kd.V_reads' HO_1.out).1; omega)); obtain ⟨ua303_4, uc303_4, ua303_5, uc303_5, rfl, ul303_4, ge303_4, ul303_5, ge303_5⟩ := k25_openF hMe303; have hv303_4 := hcc303 4 _ rfl; rw [add_field _ _ 4 (by omega)] at hv303_4; replace hv303_4 := Option.some.inj (hv303_4.symm.trans hx303_4); injection hv303_4 with hva_ hvn_ hvc_; rw [hva_] at ge303_4; rw [hvc_] at ul303_4; have HL303_4 := Aside0.mk (show Kd.V Kd.string 9 _ w.heap.size _ _ ((rd_T25 l1 x8_1).f4) from Kd.V_mk ul303_4 ge303_4); clear hva_ hvn_ hvc_ ge303_4 ul303_4; have hv303_5 := hcc303 5 _ rfl; rw [add_field _ _ 5 (by omega)] at hv303_5; replace hv303_5 := Option.some.inj (hv303_5.symm.trans hx303_5); injection hv303_5 with hva_ hvn_ hvc_; rw [hva_] at ge303_5; rw [hvc_] at ul303_5; have HL303_5 := Aside0.mk (show Kd.V k25 25 _ w.heap.size _ _ ((rd_T25 l1 x8_1).f5) from Kd.V_mk ul303_5 ge303_5); clear hva_ hvn_ hvc_ ge303_5 ul303_5; clear hcc303 hce303; have HR303_4 := Aside0.mk hi303_4; have HC303_4 := Aside0.mk hl303_4; clear hi303_4 hl303_4; have HR303_5 := Aside0.mk hi303_5; have HC303_5 := Aside0.mk hl303_5; clear hi303_5 hl303_5; replace p303 := eq_true p303; replace q303 := eq_true q303))
        go_roundg k1
        case measure => have := HK1.out; omega
        case rel => exact ⟨(x5_1), (y300), (wrap64 (x8_1 + 1)), (by first | rfl | (simp; done) | (simp [*]; done)), (by first | rfl | (simp; done) | (simp [*]; done)), H', ⟨by have := HK1.out; omega⟩, ⟨by (with_reducible repeat (first | apply Kd.V_alloc | apply Kd.V_drewN | apply Kd.V_drew)); exact HO_1.out⟩, ⟨by (with_reducible repeat (first | apply Kd.N_alloc | apply Kd.N_drewN | apply Kd.N_drew)); exact HO302.out⟩, ⟨by repeat ((with_reducible first | exact HB.out | apply below_alloc | apply pw_below_drewN | apply below_drew1))⟩⟩
      ·
       rw [if_neg c6] at H
       exact absurd H (by simp)
     ·
      rw [if_neg c5] at H
      have c5b0 : (((rd_T25 l1 x8_1).f0) == 1) = false := beq_eq_false_iff_ne.mpr c5
      have c5b1 : (((rd_T25 l1 x8_1).f0) != 1) = true := bne_iff_ne.mpr c5
      by_cases c13 : ((rd_T25 l1 x8_1).f0) = 5
      ·
       rw [if_pos c13] at H
       have c13b0 : (((rd_T25 l1 x8_1).f0) == 5) = true := beq_iff_eq.mpr c13
       have c13b1 : (((rd_T25 l1 x8_1).f0) != 5) = false := bne_eq_false_iff_eq.mpr c13
       clear c13
       replace H := Option.bind_eq_some_iff.mp H
       obtain ⟨t309, A140, H⟩ := H
       replace H : (if 0 ≤ t309 then (if t309 < (l0.length : Int) then (selvageref09_Values.l0 k1 l0 l1 ((rd_T61 l0 t309).f1) 0 x7_1 (wrap64 (x8_1 + 1))) else (none)) else (none)) = some r := H
       have A14 := Aside0.mk A140
       clear A140
       by_cases c15 : 0 ≤ t309
       ·
        rw [if_pos c15] at H
        have c15b0 : decide (0 ≤ t309) = true := decide_eq_true c15
        clear c15
        by_cases c16 : t309 < (l0.length : Int)
        ·
         rw [if_pos c16] at H
         have c16b0 : decide (t309 < (l0.length : Int)) = true := decide_eq_true c16
         clear c16
         have H' := Aside0.mk H
         clear H
         have p298 : 0 ≤ (x8_1 : Int) := of_decide_eq_true (by first | (with_reducible assumption) | assumption)
         have q298 : x8_1 < (l1.length : Int) := of_decide_eq_true (by first | (with_reducible assumption) | assumption)
         obtain ⟨ad298, A298_4, c298_4, A298_5, c298_5, e298, hx298_0, hx298_1, hx298_2, hx298_3, hx298_4, hx298_5, hl298_4, hi298_4, hl298_5, hi298_5⟩ := at_T25 (Kd.V_reads' HO_1.out).2.2 x8_1 p298 q298
         cases e298
         obtain ⟨ce298, hce298, hMe298, hcc298⟩ := Kd.V_get HO_1.out z25 x8_1 p298 (by first | exact q298 | exact of_decide_eq_true (by first | (with_reducible assumption) | assumption) | (have e_ := (Kd.V_reads' HO_1.out).1; omega))
         obtain ⟨ua298_4, uc298_4, ua298_5, uc298_5, rfl, ul298_4, ge298_4, ul298_5, ge298_5⟩ := k25_openF hMe298
         have hv298_4 := hcc298 4 _ rfl
         rw [add_field _ _ 4 (by omega)] at hv298_4
         replace hv298_4 := Option.some.inj (hv298_4.symm.trans hx298_4)
         injection hv298_4 with hva_ hvn_ hvc_
         rw [hva_] at ge298_4
         rw [hvc_] at ul298_4
         have HL298_4 := Aside0.mk (show Kd.V Kd.string 9 _ w.heap.size _ _ ((rd_T25 l1 x8_1).f4) from Kd.V_mk ul298_4 ge298_4)
         clear hva_ hvn_ hvc_ ge298_4 ul298_4
         have hv298_5 := hcc298 5 _ rfl
         rw [add_field _ _ 5 (by omega)] at hv298_5
         replace hv298_5 := Option.some.inj (hv298_5.symm.trans hx298_5)
         injection hv298_5 with hva_ hvn_ hvc_
         rw [hva_] at ge298_5
         rw [hvc_] at ul298_5
         have HL298_5 := Aside0.mk (show Kd.V k25 25 _ w.heap.size _ _ ((rd_T25 l1 x8_1).f5) from Kd.V_mk ul298_5 ge298_5)
         clear hva_ hvn_ hvc_ ge298_5 ul298_5
         clear hcc298 hce298
         have HR298_4 := Aside0.mk hi298_4
         have HC298_4 := Aside0.mk hl298_4
         clear hi298_4 hl298_4
         have HR298_5 := Aside0.mk hi298_5
         have HC298_5 := Aside0.mk hl298_5
         clear hi298_5 hl298_5
         replace p298 := eq_true p298
         replace q298 := eq_true q298
         have p307 : 0 ≤ (x8_1 : Int) := of_decide_eq_true (by first | (with_reducible assumption) | assumption)
         have q307 : x8_1 < (l1.length : Int) := of_decide_eq_true (by first | (with_reducible assumption) | assumption)
         obtain ⟨ad307, A307_4, c307_4, A307_5, c307_5, e307, hx307_0, hx307_1, hx307_2, hx307_3, hx307_4, hx307_5, hl307_4, hi307_4, hl307_5, hi307_5⟩ := at_T25 (Kd.V_reads' HO_1.out).2.2 x8_1 p307 q307
         obtain rfl : ad298 = ad307 := (by injection e307)
         obtain ⟨ce307, hce307, hMe307, hcc307⟩ := Kd.V_get HO_1.out z25 x8_1 p307 (by first | exact q307 | exact of_decide_eq_true (by first | (with_reducible assumption) | assumption) | (have e_ := (Kd.V_reads' HO_1.out).1; omega))
         obtain ⟨ua307_4, uc307_4, ua307_5, uc307_5, rfl, ul307_4, ge307_4, ul307_5, ge307_5⟩ := k25_openF hMe307
         have hv307_4 := hcc307 4 _ rfl
         rw [add_field _ _ 4 (by omega)] at hv307_4
         replace hv307_4 := Option.some.inj (hv307_4.symm.trans hx307_4)
         injection hv307_4 with hva_ hvn_ hvc_
         rw [hva_] at ge307_4
         rw [hvc_] at ul307_4
         have HL307_4 := Aside0.mk (show Kd.V Kd.string 9 _ w.heap.size _ _ ((rd_T25 l1 x8_1).f4) from Kd.V_mk ul307_4 ge307_4)
         clear hva_ hvn_ hvc_ ge307_4 ul307_4
         have hv307_5 := hcc307 5 _ rfl
         rw [add_field _ _ 5 (by omega)] at hv307_5
         replace hv307_5 := Option.some.inj (hv307_5.symm.trans hx307_5)
         injection hv307_5 with hva_ hvn_ hvc_
         rw [hva_] at ge307_5
         rw [hvc_] at ul307_5
         have HL307_5 := Aside0.mk (show Kd.V k25 25 _ w.heap.size _ _ ((rd_T25 l1 x8_1).f5) from Kd.V_mk ul307_5 ge307_5)
         clear hva_ hvn_ hvc_ ge307_5 ul307_5
         clear hcc307 hce307
         have HR307_4 := Aside0.mk hi307_4
         have HC307_4 := Aside0.mk hl307_4
         clear hi307_4 hl307_4
         have HR307_5 := Aside0.mk hi307_5
         have HC307_5 := Aside0.mk hl307_5
         clear hi307_5 hl307_5
         replace p307 := eq_true p307
         replace q307 := eq_true q307
         have ea_ := Option.some.inj (hx298_4.symm.trans hx307_4)
         injection ea_ with ea_ en_ ec_
         subst ea_
         subst ec_
         clear en_
         have ea_ := Option.some.inj (hx298_5.symm.trans hx307_5)
         injection ea_ with ea_ en_ ec_
         subst ea_
         subst ec_
         clear en_
         have p308 : 0 ≤ (x8_1 : Int) := of_decide_eq_true (by first | (with_reducible assumption) | assumption)
         have q308 : x8_1 < (l1.length : Int) := of_decide_eq_true (by first | (with_reducible assumption) | assumption)
         obtain ⟨ad308, A308_4, c308_4, A308_5, c308_5, e308, hx308_0, hx308_1, hx308_2, hx308_3, hx308_4, hx308_5, hl308_4, hi308_4, hl308_5, hi308_5⟩ := at_T25 (Kd.V_reads' HO_1.out).2.2 x8_1 p308 q308
         obtain rfl : ad298 = ad308 := (by injection e308)
         obtain ⟨ce308, hce308, hMe308, hcc308⟩ := Kd.V_get HO_1.out z25 x8_1 p308 (by first | exact q308 | exact of_decide_eq_true (by first | (with_reducible assumption) | assumption) | (have e_ := (Kd.V_reads' HO_1.out).1; omega))
         obtain ⟨ua308_4, uc308_4, ua308_5, uc308_5, rfl, ul308_4, ge308_4, ul308_5, ge308_5⟩ := k25_openF hMe308
         have hv308_4 := hcc308 4 _ rfl
         rw [add_field _ _ 4 (by omega)] at hv308_4
         replace hv308_4 := Option.some.inj (hv308_4.symm.trans hx308_4)
         injection hv308_4 with hva_ hvn_ hvc_
         rw [hva_] at ge308_4
         rw [hvc_] at ul308_4
         have HL308_4 := Aside0.mk (show Kd.V Kd.string 9 _ w.heap.size _ _ ((rd_T25 l1 x8_1).f4) from Kd.V_mk ul308_4 ge308_4)
         clear hva_ hvn_ hvc_ ge308_4 ul308_4
         have hv308_5 := hcc308 5 _ rfl
         rw [add_field _ _ 5 (by omega)] at hv308_5
         replace hv308_5 := Option.some.inj (hv308_5.symm.trans hx308_5)
         injection hv308_5 with hva_ hvn_ hvc_
         rw [hva_] at ge308_5
         rw [hvc_] at ul308_5
         have HL308_5 := Aside0.mk (show Kd.V k25 25 _ w.heap.size _ _ ((rd_T25 l1 x8_1).f5) from Kd.V_mk ul308_5 ge308_5)
         clear hva_ hvn_ hvc_ ge308_5 ul308_5
         clear hcc308 hce308
         have HR308_4 := Aside0.mk hi308_4
         have HC308_4 := Aside0.mk hl308_4
         clear hi308_4 hl308_4
         have HR308_5 := Aside0.mk hi308_5
         have HC308_5 := Aside0.mk hl308_5
         clear hi308_5 hl308_5
         replace p308 := eq_true p308
         replace q308 := eq_true q308
         have ea_ := Option.some.inj (hx298_4.symm.trans hx308_4)
         injection ea_ with ea_ en_ ec_
         subst ea_
         subst ec_
         clear en_
         have ea_ := Option.some.inj (hx298_5.symm.trans hx308_5)
         injection ea_ with ea_ en_ ec_
         subst ea_
         subst ec_
         clear en_
         go_wp2_with (first | ((with_reducible refine gate_callee (f := 32) rfl ?_); refine goesL_ (some 53) rfl rfl Try.func32 (by kernel_rfl) rfl #[.slice A0 l0.length c0, .string ((rd_T25 l1 x8_1).f1)] rfl (by (try simp only [List.map_toArray, List.map_cons, List.map_nil]); first | done | rfl | (simp only [List.length_drop, List.length_take]; rfl)) ?_; (with_reducible refine (selvageref09_Find.calls k1 _ _ l0 ((rd_T25 l1 x8_1).f1) t309 _ ?side1 ?side2 A14.out).mono ?_); (case side1 => repeat (first | exact (Kd.C_below HR0.out HB.out) | (with_reducible refine Kd.C_alloc ?_ _) | (with_reducible refine Kd.C_drewN ?_ _) | (with_reducible refine Kd.C_drew ?_))); (case side2 => exact HC0.out); rintro e w' ⟨rfl, ⟨nd, rfl⟩⟩; refine ⟨_, rfl, ?_⟩; have p310 : 0 ≤ (t309 : Int) := of_decide_eq_true (by first | (with_reducible assumption) | assumption); have q310 : t309 < (l0.length : Int) := of_decide_eq_true (by first | (with_reducible assumption) | assumption); obtain ⟨ad310, e310, hx310_0, hx310_1, hx310_2, hx310_3, hx310_4⟩ := at_T61 HR0.out t309 p310 q310; cases e310; replace hx310_0 := (HB.out.cell (World.block_lt_of_cell? w _ hx310_0)).trans hx310_0; replace hx310_1 := (HB.out.cell (World.block_lt_of_cell? w _ hx310_1)).trans hx310_1; replace hx310_2 := (HB.out.cell (World.block_lt_of_cell? w _ hx310_2)).trans hx310_2; replace hx310_3 := (HB.out.cell (World.block_lt_of_cell? w _ hx310_3)).trans hx310_3; replace hx310_4 := (HB.out.cell (World.block_lt_of_cell? w _ hx310_4)).trans hx310_4; replace p310 := eq_true p310; replace q310 := eq_true q310))
         go_roundg k1
         case measure => have := HK1.out; omega
         case rel => exact ⟨((rd_T61 l0 t309).f1), (x7_1), (wrap64 (x8_1 + 1)), (by first | rfl | (simp; done) | (simp [*]; done)), (by first | rfl | (simp; done) | (simp [*]; done)), H', ⟨by have := HK1.out; omega⟩, ⟨by (with_reducible repeat (first | apply Kd.V_alloc | apply Kd.V_drewN | apply Kd.V_drew)); exact HO_1.out⟩, ⟨by (with_reducible repeat (first | apply Kd.N_alloc | apply Kd.N_drewN | apply Kd.N_drew)); exact HO_7.out⟩, ⟨by repeat ((with_reducible first | exact HB.out | apply below_alloc | apply pw_below_drewN | apply below_drew1))⟩⟩
        ·
         rw [if_neg c16] at H
         exact absurd H (by simp)
       ·
        rw [if_neg c15] at H
        exact absurd H (by simp)
      ·
       rw [if_neg c13] at H
       have c13b0 : (((rd_T25 l1 x8_1).f0) == 5) = false := beq_eq_false_iff_ne.mpr c13
       have c13b1 : (((rd_T25 l1 x8_1).f0) != 5) = true := bne_iff_ne.mpr c13
       have H' := Aside0.mk H
       clear H
       have p298 : 0 ≤ (x8_1 : Int) := of_decide_eq_true (by first | (with_reducible assumption) | assumption)
       have q298 : x8_1 < (l1.length : Int) := of_decide_eq_true (by first | (with_reducible assumption) | assumption)
       obtain ⟨ad298, A298_4, c298_4, A298_5, c298_5, e298, hx298_0, hx298_1, hx298_2, hx298_3, hx298_4, hx298_5, hl298_4, hi298_4, hl298_5, hi298_5⟩ := at_T25 (Kd.V_reads' HO_1.out).2.2 x8_1 p298 q298
       cases e298
       obtain ⟨ce298, hce298, hMe298, hcc298⟩ := Kd.V_get HO_1.out z25 x8_1 p298 (by first | exact q298 | exact of_decide_eq_true (by first | (with_reducible assumption) | assumption) | (have e_ := (Kd.V_reads' HO_1.out).1; omega))
       obtain ⟨ua298_4, uc298_4, ua298_5, uc298_5, rfl, ul298_4, ge298_4, ul298_5, ge298_5⟩ := k25_openF hMe298
       have hv298_4 := hcc298 4 _ rfl
       rw [add_field _ _ 4 (by omega)] at hv298_4
       replace hv298_4 := Option.some.inj (hv298_4.symm.trans hx298_4)
       injection hv298_4 with hva_ hvn_ hvc_
       rw [hva_] at ge298_4
       rw [hvc_] at ul298_4
       have HL298_4 := Aside0.mk (show Kd.V Kd.string 9 _ w.heap.size _ _ ((rd_T25 l1 x8_1).f4) from Kd.V_mk ul298_4 ge298_4)
       clear hva_ hvn_ hvc_ ge298_4 ul298_4
       have hv298_5 := hcc298 5 _ rfl
       rw [add_field _ _ 5 (by omega)] at hv298_5
       replace hv298_5 := Option.some.inj (hv298_5.symm.trans hx298_5)
       injection hv298_5 with hva_ hvn_ hvc_
       rw [hva_] at ge298_5
       rw [hvc_] at ul298_5
       have HL298_5 := Aside0.mk (show Kd.V k25 25 _ w.heap.size _ _ ((rd_T25 l1 x8_1).f5) from Kd.V_mk ul298_5 ge298_5)
       clear hva_ hvn_ hvc_ ge298_5 ul298_5
       clear hcc298 hce298
       have HR298_4 := Aside0.mk hi298_4
       have HC298_4 := Aside0.mk hl298_4
       clear hi298_4 hl298_4
       have HR298_5 := Aside0.mk hi298_5
       have HC298_5 := Aside0.mk hl298_5
       clear hi298_5 hl298_5
       replace p298 := eq_true p298
       replace q298 := eq_true q298
       have p307 : 0 ≤ (x8_1 : Int) := of_decide_eq_true (by first | (with_reducible assumption) | assumption)
       have q307 : x8_1 < (l1.length : Int) := of_decide_eq_true (by first | (with_reducible assumption) | assumption)
       obtain ⟨ad307, A307_4, c307_4, A307_5, c307_5, e307, hx307_0, hx307_1, hx307_2, hx307_3, hx307_4, hx307_5, hl307_4, hi307_4, hl307_5, hi307_5⟩ := at_T25 (Kd.V_reads' HO_1.out).2.2 x8_1 p307 q307
       obtain rfl : ad298 = ad307 := (by injection e307)
       obtain ⟨ce307, hce307, hMe307, hcc307⟩ := Kd.V_get HO_1.out z25 x8_1 p307 (by first | exact q307 | exact of_decide_eq_true (by first | (with_reducible assumption) | assumption) | (have e_ := (Kd.V_reads' HO_1.out).1; omega))
       obtain ⟨ua307_4, uc307_4, ua307_5, uc307_5, rfl, ul307_4, ge307_4, ul307_5, ge307_5⟩ := k25_openF hMe307
       have hv307_4 := hcc307 4 _ rfl
       rw [add_field _ _ 4 (by omega)] at hv307_4
       replace hv307_4 := Option.some.inj (hv307_4.symm.trans hx307_4)
       injection hv307_4 with hva_ hvn_ hvc_
       rw [hva_] at ge307_4
       rw [hvc_] at ul307_4
       have HL307_4 := Aside0.mk (show Kd.V Kd.string 9 _ w.heap.size _ _ ((rd_T25 l1 x8_1).f4) from Kd.V_mk ul307_4 ge307_4)
       clear hva_ hvn_ hvc_ ge307_4 ul307_4
       have hv307_5 := hcc307 5 _ rfl
       rw [add_field _ _ 5 (by omega)] at hv307_5
       replace hv307_5 := Option.some.inj (hv307_5.symm.trans hx307_5)
       injection hv307_5 with hva_ hvn_ hvc_
       rw [hva_] at ge307_5
       rw [hvc_] at ul307_5
       have HL307_5 := Aside0.mk (show Kd.V k25 25 _ w.heap.size _ _ ((rd_T25 l1 x8_1).f5) from Kd.V_mk ul307_5 ge307_5)
       clear hva_ hvn_ hvc_ ge307_5 ul307_5
       clear hcc307 hce307
       have HR307_4 := Aside0.mk hi307_4
       have HC307_4 := Aside0.mk hl307_4
       clear hi307_4 hl307_4
       have HR307_5 := Aside0.mk hi307_5
       have HC307_5 := Aside0.mk hl307_5
       clear hi307_5 hl307_5
       replace p307 := eq_true p307
       replace q307 := eq_true q307
       have ea_ := Option.some.inj (hx298_4.symm.trans hx307_4)
       injection ea_ with ea_ en_ ec_
       subst ea_
       subst ec_
       clear en_
       have ea_ := Option.some.inj (hx298_5.symm.trans hx307_5)
       injection ea_ with ea_ en_ ec_
       subst ea_
       subst ec_
       clear en_
       go_wp2
       go_roundg k1
       case measure => have := HK1.out; omega
       case rel => exact ⟨(x5_1), (x7_1), (wrap64 (x8_1 + 1)), (by first | rfl | (simp; done) | (simp [*]; done)), (by first | rfl | (simp; done) | (simp [*]; done)), H', ⟨by have := HK1.out; omega⟩, ⟨by (with_reducible repeat (first | apply Kd.V_alloc | apply Kd.V_drewN | apply Kd.V_drew)); exact HO_1.out⟩, ⟨by (with_reducible repeat (first | apply Kd.N_alloc | apply Kd.N_drewN | apply Kd.N_drew)); exact HO_7.out⟩, ⟨by repeat ((with_reducible first | exact HB.out | apply below_alloc | apply pw_below_drewN | apply below_drew1))⟩⟩
    ·
     rw [if_neg c4] at H
     exact absurd H (by simp)
   ·
    rw [if_neg c3] at H
    have c3b0 : decide (x8_1 < (l1.length : Int)) = false := decide_eq_false c3
    clear c3
    by_cases c17 : x5_1.toList = ([] : List UInt8)
    ·
     rw [if_pos c17] at H
     have c17b0 : (x5_1.toList == ([] : List UInt8)) = true := beq_iff_eq.mpr c17
     have c17b1 : (x5_1.toList != ([] : List UInt8)) = false := bne_eq_false_iff_eq.mpr c17
     clear c17
     have H' := Aside0.mk H
     clear H
     go_wp2
     go_loopg [6, 9] k1 (fun kq v6 v9 w' => ∃ (x6_2 : Int) (x9_2 : Int), v6 = .int .i64 x6_2 ∧ v9 = .int .i64 x9_2 ∧ Aside0 (selvageref09_Values.l1 kq x6_2 x7_1 x9_2 = some r) ∧ Aside0 (kq ≤ k1) ∧ Aside0 (Kd.N k40 40 w' w.heap.size (fun k_ => (P1_ k_ ∨ w.heap.size ≤ k_)) u7 x7_1) ∧ Aside0 (Below w.heap.size w w'))
     case atStart => exact ⟨(0), (0), (by first | rfl | (simp; done) | (simp [*]; done)), (by first | rfl | (simp; done) | (simp [*]; done)), H', ⟨Nat.le_refl _⟩, ⟨by (with_reducible repeat (first | apply Kd.N_alloc | apply Kd.N_drewN | apply Kd.N_drew)); exact HO_7.out⟩, ⟨by repeat ((with_reducible first | exact HB.out | apply below_alloc | apply pw_below_drewN | apply below_drew1))⟩⟩
     case round =>
      clear H'
      try clear c1
      try clear c2
      try clear p2
      try clear q2
      try clear hx2
      try clear c3
      try clear c3b0
      try clear p3
      try clear q3
      try clear hx3
      try clear c4
      try clear c4b0
      try clear c5
      try clear c5b0
      try clear c5b1
      try clear c6
      try clear p6
      try clear c7
      try clear c7b0
      try clear c7b1
      try clear c9
      try clear c9b0
      try clear c10
      try clear c10b0
      try clear c13
      try clear c13b0
      try clear c13b1
      try clear c14
      try clear c15
      try clear c15b0
      try clear c16
      try clear c16b0
      try clear c17
      try clear c17b0
      try clear c17b1
      try clear hx298_0
      try clear hx298_1
      try clear hx298_2
      try clear hx298_3
      try clear hx298_4
      try clear hx298_5
      try clear hx299_0
      try clear hx299_1
      try clear hx299_2
      try clear hx299_3
      try clear hx299_4
      try clear hx299_5
      try clear hx303_0
      try clear hx303_1
      try clear hx303_2
      try clear hx303_3
      try clear hx303_4
      try clear hx303_5
      try clear hx304_0
      try clear hx304_1
      try clear hx304_2
      try clear hx304_3
      try clear hx304_4
      try clear hx304_5
      try clear hx306_0
      try clear hx306_1
      try clear hx306_2
      try clear hx306_3
      try clear hx306_4
      try clear hx307_0
      try clear hx307_1
      try clear hx307_2
      try clear hx307_3
      try clear hx307_4
      try clear hx307_5
      try clear hx308_0
      try clear hx308_1
      try clear hx308_2
      try clear hx308_3
      try clear hx308_4
      try clear hx308_5
      try clear hx310_0
      try clear hx310_1
      try clear hx310_2
      try clear hx310_3
      try clear hx310_4
      try clear p2
      try clear p298
      try clear p299
      try clear p303
      try clear p304
      try clear p306
      try clear p307
      try clear p308
      try clear p310
      try clear q298
      try clear q299
      try clear q303
      try clear q304
      try clear q306
      try clear q307
      try clear q308
      try clear q310
      obtain ⟨x6_2, x9_2, rfl, rfl, HA, HK2, HO_7, HB⟩ := hrel
      cases gk with
      | zero => exact absurd HA.out (by simp [selvageref09_Values.l1])
      | succ k2 =>
       have H := HA.out
       clear HA
       simp only [selvageref09_Values.l1] at H
       by_cases c18 : x9_2 < (x7_1.length : Int)
       ·
        rw [if_pos c18] at H
        have c18b0 : decide (x9_2 < (x7_1.length : Int)) = true := decide_eq_true c18
        clear c18
        have H' := Aside0.mk H
        clear H
        obtain ⟨Ao19, co19, eo19⟩ := Kd.N_slice HO_7.out
        subst eo19
        go_wp2
        go_loopg [6, 10] k2 (fun kq v6 v10 w' => ∃ (x6_3 : Int) (x10_3 : Int), v6 = .int .i64 x6_3 ∧ v10 = .int .i64 x10_3 ∧ Aside0 (selvageref09_Values.l2 kq x6_3 x7_1 x9_2 x10_3 = some r) ∧ Aside0 (kq ≤ k2) ∧ Aside0 (Kd.N k40 40 w' w.heap.size (fun k_ => (P1_ k_ ∨ w.heap.size ≤ k_)) (.slice Ao19 x7_1.length co19) x7_1) ∧ Aside0 (Below w.heap.size w w'))
        case atStart => exact ⟨(x6_2), (0), (by first | rfl | (simp; done) | (simp [*]; done)), (by first | rfl | (simp; done) | (simp [*]; done)), H', ⟨Nat.le_refl _⟩, ⟨by (with_reducible repeat (first | apply Kd.N_alloc | apply Kd.N_drewN | apply Kd.N_drew)); exact HO_7.out⟩, ⟨by repeat ((with_reducible first | exact HB.out | apply below_alloc | apply pw_below_drewN | apply below_drew1))⟩⟩
        case round =>
         clear H'
         try clear c1
         try clear c2
         try clear p2
         try clear q2
         try clear hx2
         try clear c3
         try clear c3b0
         try clear p3
         try clear q3
         try clear hx3
         try clear c4
         try clear c4b0
         try clear c5
         try clear c5b0
         try clear c5b1
         try clear c6
         try clear p6
         try clear c7
         try clear c7b0
         try clear c7b1
         try clear c9
         try clear c9b0
         try clear c10
         try clear c10b0
         try clear c13
         try clear c13b0
         try clear c13b1
         try clear c14
         try clear c15
         try clear c15b0
         try clear c16
         try clear c16b0
         try clear c17
         try clear c17b0
         try clear c17b1
         try clear c18
         try clear c18b0
         try clear hx298_0
         try clear hx298_1
         try clear hx298_2
         try clear hx298_3
         try clear hx298_4
         try clear hx298_5
         try clear hx299_0
         try clear hx299_1
         try clear hx299_2
         try clear hx299_3
         try clear hx299_4
         try clear hx299_5
         try clear hx303_0
         try clear hx303_1
         try clear hx303_2
         try clear hx303_3
         try clear hx303_4
         try clear hx303_5
         try clear hx304_0
         try clear hx304_1
         try clear hx304_2
         try clear hx304_3
         try clear hx304_4
         try clear hx304_5
         try clear hx306_0
         try clear hx306_1
         try clear hx306_2
         try clear hx306_3
         try clear hx306_4
         try clear hx307_0
         try clear hx307_1
         try clear hx307_2
         try clear hx307_3
         try clear hx307_4
         try clear hx307_5
         try clear hx308_0
         try clear hx308_1
         try clear hx308_2
         try clear hx308_3
         try clear hx308_4
         try clear hx308_5
         try clear hx310_0
         try clear hx310_1
         try clear hx310_2
         try clear hx310_3
         try clear hx310_4
         try clear p2
         try clear p298
         try clear p299
         try clear p3
         try clear p303
         try clear p304
         try clear p306
         try clear p307
         try clear p308
         try clear p310
         try clear p6
         try clear q2
         try clear q298
         try clear q299
         try clear q3
         try clear q303
         try clear q304
         try clear q306
         try clear q307
         try clear q308
         try clear q310
         obtain ⟨x6_3, x10_3, rfl, rfl, HA, HK3, HO_7, HB⟩ := hrel
         cases gk with
         | zero => exact absurd HA.out (by simp [selvageref09_Values.l2])
         | succ k3 =>
          have H := HA.out
          clear HA
          simp only [selvageref09_Values.l2] at H
          by_cases c20 : x10_3 < (x7_1.length : Int)
          ·
           rw [if_pos c20] at H
           have c20b0 : decide (x10_3 < (x7_1.length : Int)) = true := decide_eq_true c20
           clear c20
           by_cases c21 : 0 ≤ x10_3
           ·
            rw [if_pos c21] at H
            have c21b0 : decide (0 ≤ x10_3) = true := decide_eq_true c21
            clear c21
            by_cases c22 : ((rd_T40 x7_1 x10_3).f1) = x6_3
            ·
             rw [if_pos c22] at H
             have c22b0 : (((rd_T40 x7_1 x10_3).f1) == x6_3) = true := beq_iff_eq.mpr c22
             have c22b1 : (((rd_T40 x7_1 x10_3).f1) != x6_3) = false := bne_eq_false_iff_eq.mpr c22
             clear c22
             have H' := Aside0.mk H
             clear H
             have p314 : 0 ≤ (x10_3 : Int) := of_decide_eq_true (by first | (with_reducible assumption) | assumption)
             have q314 : x10_3 < (x7_1.length : Int) := of_decide_eq_true (by first | (with_reducible assumption) | assumption)
             obtain ⟨ad314, A314_2, c314_2, e314, hx314_0, hx314_1, hx314_2, hl314_2, hi314_2⟩ := at_T40 (Kd.N_reads' HO_7.out).2.2 x10_3 p314 q314
             cases e314
             obtain ⟨ce314, hce314, hMe314, hcc314⟩ := Kd.N_get HO_7.out z40 x10_3 p314 (by first | exact q314 | exact of_decide_eq_true (by first | (with_reducible assumption) | assumption) | (have e_ := (Kd.N_reads' HO_7.out).1; omega))
             obtain ⟨ua314_2, uc314_2, rfl, ul314_2, ge314_2⟩ := k40_openF hMe314
             have hv314_2 := hcc314 2 _ rfl
             rw [add_field _ _ 2 (by omega)] at hv314_2
             replace hv314_2 := Option.some.inj (hv314_2.symm.trans hx314_2)
             injection hv314_2 with hva_ hvn_ hvc_
             rw [hva_] at ge314_2
             rw [hvc_] at ul314_2
             have HL314_2 := Aside0.mk (show Kd.V k40 40 _ w.heap.size _ _ ((rd_T40 x7_1 x10_3).f2) from Kd.V_mk ul314_2 ge314_2)
             clear hva_ hvn_ hvc_ ge314_2 ul314_2
             clear hcc314 hce314
             have HR314_2 := Aside0.mk hi314_2
             have HC314_2 := Aside0.mk hl314_2
             clear hi314_2 hl314_2
             replace p314 := eq_true p314
             replace q314 := eq_true q314
             go_wp2
             go_roundg k3
             case measure => have := HK1.out; have := HK2.out; have := HK3.out; omega
             case rel => exact ⟨(wrap64 (x6_3 + 1)), (wrap64 (x10_3 + 1)), (by first | rfl | (simp; done) | (simp [*]; done)), (by first | rfl | (simp; done) | (simp [*]; done)), H', ⟨by have := HK1.out; have := HK2.out; have := HK3.out; omega⟩, ⟨by (with_reducible repeat (first | apply Kd.N_alloc | apply Kd.N_drewN | apply Kd.N_drew)); exact HO_7.out⟩, ⟨by repeat ((with_reducible first | exact HB.out | apply below_alloc | apply pw_below_drewN | apply below_drew1))⟩⟩
            ·
             rw [if_neg c22] at H
             have c22b0 : (((rd_T40 x7_1 x10_3).f1) == x6_3) = false := beq_eq_false_iff_ne.mpr c22
             have c22b1 : (((rd_T40 x7_1 x10_3).f1) != x6_3) = true := bne_iff_ne.mpr c22
             have H' := Aside0.mk H
             clear H
             have p314 : 0 ≤ (x10_3 : Int) := of_decide_eq_true (by first | (with_reducible assumption) | assumption)
             have q314 : x10_3 < (x7_1.length : Int) := of_decide_eq_true (by first | (with_reducible assumption) | assumption)
             obtain ⟨ad314, A314_2, c314_2, e314, hx314_0, hx314_1, hx314_2, hl314_2, hi314_2⟩ := at_T40 (Kd.N_reads' HO_7.out).2.2 x10_3 p314 q314
             cases e314
             obtain ⟨ce314, hce314, hMe314, hcc314⟩ := Kd.N_get HO_7.out z40 x10_3 p314 (by first | exact q314 | exact of_decide_eq_true (by first | (with_reducible assumption) | assumption) | (have e_ := (Kd.N_reads' HO_7.out).1; omega))
             obtain ⟨ua314_2, uc314_2, rfl, ul314_2, ge314_2⟩ := k40_openF hMe314
             have hv314_2 := hcc314 2 _ rfl
             rw [add_field _ _ 2 (by omega)] at hv314_2
             replace hv314_2 := Option.some.inj (hv314_2.symm.trans hx314_2)
             injection hv314_2 with hva_ hvn_ hvc_
             rw [hva_] at ge314_2
             rw [hvc_] at ul314_2
             have HL314_2 := Aside0.mk (show Kd.V k40 40 _ w.heap.size _ _ ((rd_T40 x7_1 x10_3).f2) from Kd.V_mk ul314_2 ge314_2)
             clear hva_ hvn_ hvc_ ge314_2 ul314_2
             clear hcc314 hce314
             have HR314_2 := Aside0.mk hi314_2
             have HC314_2 := Aside0.mk hl314_2
             clear hi314_2 hl314_2
             replace p314 := eq_true p314
             replace q314 := eq_true q314
             go_wp2
             go_roundg k3
             case measure => have := HK1.out; have := HK2.out; have := HK3.out; omega
             case rel => exact ⟨(x6_3), (wrap64 (x10_3 + 1)), (by first | rfl | (simp; done) | (simp [*]; done)), (by first | rfl | (simp; done) | (simp [*]; done)), H', ⟨by have := HK1.out; have := HK2.out; have := HK3.out; omega⟩, ⟨by (with_reducible repeat (first | apply Kd.N_alloc | apply Kd.N_drewN | apply Kd.N_drew)); exact HO_7.out⟩, ⟨by repeat ((with_reducible first | exact HB.out | apply below_alloc | apply pw_below_drewN | apply below_drew1))⟩⟩
           ·
            rw [if_neg c21] at H
            exact absurd H (by simp)
          ·
           rw [if_neg c20] at H
           have c20b0 : decide (x10_3 < (x7_1.length : Int)) = false := decide_eq_false c20
           clear c20
           have H' := Aside0.mk H
           clear H
           go_wp2
           go_roundg k3
           case measure => have := HK1.out; have := HK2.out; have := HK3.out; omega
           case rel => exact ⟨(x6_3), (wrap64 (x9_2 + 1)), (by first | rfl | (simp; done) | (simp [*]; done)), (by first | rfl | (simp; done) | (simp [*]; done)), H', ⟨by have := HK1.out; have := HK2.out; have := HK3.out; omega⟩, ⟨by (with_reducible repeat (first | apply Kd.N_alloc | apply Kd.N_drewN | apply Kd.N_drew)); exact HO_7.out⟩, ⟨by repeat ((with_reducible first | exact HB.out | apply below_alloc | apply pw_below_drewN | apply below_drew1))⟩⟩
       ·
        rw [if_neg c18] at H
        have c18b0 : decide (x9_2 < (x7_1.length : Int)) = false := decide_eq_false c18
        clear c18
        by_cases c23 : x7_1.length < 2932031007402
        ·
         rw [if_pos c23] at H
         have LMc23 := Aside0.mk c23
         clear c23
         obtain ⟨y311, hy311⟩ : ∃ y_ : List (S40), y_ = (x7_1 ++ [(⟨(⟨#[]⟩ : ByteArray), x6_2, ([] : List (S40))⟩ : S40)]) := ⟨_, rfl⟩
         replace H : (some y311) = some r := by first | (rw [hy311]; with_reducible exact H) | (have H2_ := (Option.bind_some _ _).symm.trans H; rw [hy311]; with_reducible exact H2_) | (have H2_ := (Option.bind_some _ _).symm.trans H; with_reducible exact H2_) | with_reducible exact H | (rw [hy311]; exact H) | exact H
         have Ny311 := Aside0.mk hy311
         clear hy311
         obtain rfl := Option.some.inj H
         obtain ⟨Ao24, co24, eo24⟩ := Kd.N_slice HO_7.out
         subst eo24
         go_wp2_with (first | ((with_reducible refine gate_builtin (b := .append) (xs := #[.tmp 80, .tmp 83]) rfl ?_); at_builtin; refine Kd.N_append k40 (w0 := w) w.heap.size rfl (.tmp 80) (.tmp 83) 36 40 (.agg #[(.string ⟨#[]⟩), (.int .i64 0), (.slice none 0 0)]) 48 rfl Try.underlying36 info40 rfl (by decide) (by omega) (.slice Ao24 x7_1.length co24) x7_1 (⟨(⟨#[]⟩ : ByteArray), x6_2, ([] : List (S40))⟩ : S40) [.string (⟨#[]⟩ : ByteArray), .int .i64 x6_2, .slice none 0 0] (fun k_ => (P1_ k_ ∨ w.heap.size ≤ k_)) (fun k_ => ((fun k_ => (P1_ k_ ∨ w.heap.size ≤ k_))) k_ ∧ some k_ ≠ (.slice Ao24 x7_1.length co24 : Value).ownBlock) rfl rfl ?aP (fun _ hk => hk) ?aF ?aO ?aB ?aS ?aL ?_; (case aP => exact (k40_mkF _ _ (⟨(⟨#[]⟩ : ByteArray), x6_2, ([] : List (S40))⟩ : S40) (Nat.le_refl _) (Kd.F_nil _ _ _))); (case aB => exact (by repeat (first | (with_reducible first | exact HB.out | apply below_alloc | apply pw_below_drewN | apply below_drew1) | exact HB.out))); (case aF => exact (fun k_ hk => (.inr (Nat.le_trans (below_size (by repeat (first | (with_reducible first | exact HB.out | apply below_alloc | apply pw_below_drewN | apply below_drew1) | exact HB.out))) hk)))); (case aO => exact (by (with_reducible repeat (first | apply Kd.N_alloc | apply Kd.N_drewN | apply Kd.N_drew)); exact HO_7.out)); (case aS => exact (below_size (by repeat (first | (with_reducible first | exact HB.out | apply below_alloc | apply pw_below_drewN | apply below_drew1) | exact HB.out)))); (case aL => have := LMc23.out; omega); intro v312 w25 ho hb hg hat; rw [← Ny311.out] at ho; have n0_ := Aside0.mk (hb); have n1_ := Aside0.mk (ho); clear HB; clear HO_7; have HB := n0_; have HO313 := n1_; clear n0_ n1_; clear ho hb hg hat))
         go_ret
         exact ⟨_, by first | rfl | (simp [errW_none, errW_some] <;> rfl) | (simp [*, errW_none, errW_some] <;> rfl), by (with_reducible repeat (first | apply Kd.N_alloc | apply Kd.N_drewN | apply Kd.N_drew)); exact HO313.out, by repeat ((with_reducible first | exact HB.out | apply below_alloc | apply pw_below_drewN | apply below_drew1))⟩
        ·
         rw [if_neg c23] at H
         exact absurd H (by simp)
    ·
     rw [if_neg c17] at H
     have c17b0 : (x5_1.toList == ([] : List UInt8)) = false := beq_eq_false_iff_ne.mpr c17
     have c17b1 : (x5_1.toList != ([] : List UInt8)) = true := bne_iff_ne.mpr c17
     have H' := Aside0.mk H
     clear H
     go_wp2
     go_loopg [7, 11] k1 (fun kq v7 v11 w' => ∃ (x7_2 : List (S40)) (x11_2 : Int), v11 = .int .i64 x11_2 ∧ Aside0 (selvageref09_Values.l3 kq l0 l1 x5_1 x7_2 x11_2 = some r) ∧ Aside0 (kq ≤ k1) ∧ Aside0 (Kd.V k25 25 w' w.heap.size (fun k_ => (P1_ k_ ∨ w.heap.size ≤ k_) ∧ some k_ ≠ (v7 : Value).ownBlock) (.slice A1 l1.length c1) l1) ∧ Aside0 (Kd.N k40 40 w' w.heap.size (fun k_ => (P1_ k_ ∨ w.heap.size ≤ k_)) v7 x7_2) ∧ Aside0 (Below w.heap.size w w'))
     case atStart => exact ⟨(x7_1), (0), (by first | rfl | (simp; done) | (simp [*]; done)), H', ⟨Nat.le_refl _⟩, ⟨by (with_reducible repeat (first | apply Kd.V_alloc | apply Kd.V_drewN | apply Kd.V_drew)); exact HO_1.out⟩, ⟨by (with_reducible repeat (first | apply Kd.N_alloc | apply Kd.N_drewN | apply Kd.N_drew)); exact HO_7.out⟩, ⟨by repeat ((with_reducible first | exact HB.out | apply below_alloc | apply pw_below_drewN | apply below_drew1))⟩⟩
     case round =>
      clear H'
      try clear c1
      try clear c2
      try clear p2
      try clear q2
      try clear hx2
      try clear c3
      try clear c3b0
      try clear p3
      try clear q3
      try clear hx3
      try clear c4
      try clear c4b0
      try clear c5
      try clear c5b0
      try clear c5b1
      try clear c6
      try clear p6
      try clear c7
      try clear c7b0
      try clear c7b1
      try clear c9
      try clear c9b0
      try clear c10
      try clear c10b0
      try clear c13
      try clear c13b0
      try clear c13b1
      try clear c14
      try clear c15
      try clear c15b0
      try clear c16
      try clear c16b0
      try clear c17
      try clear c17b0
      try clear c17b1
      try clear c18
      try clear c18b0
      try clear c20
      try clear c20b0
      try clear c21
      try clear c21b0
      try clear c22
      try clear c22b0
      try clear c22b1
      try clear c23
      try clear hx298_0
      try clear hx298_1
      try clear hx298_2
      try clear hx298_3
      try clear hx298_4
      try clear hx298_5
      try clear hx299_0
      try clear hx299_1
      try clear hx299_2
      try clear hx299_3
      try clear hx299_4
      try clear hx299_5
      try clear hx303_0
      try clear hx303_1
      try clear hx303_2
      try clear hx303_3
      try clear hx303_4
      try clear hx303_5
      try clear hx304_0
      try clear hx304_1
      try clear hx304_2
      try clear hx304_3
      try clear hx304_4
      try clear hx304_5
      try clear hx306_0
      try clear hx306_1
      try clear hx306_2
      try clear hx306_3
      try clear hx306_4
      try clear hx307_0
      try clear hx307_1
      try clear hx307_2
      try clear hx307_3
      try clear hx307_4
      try clear hx307_5
      try clear hx308_0
      try clear hx308_1
      try clear hx308_2
      try clear hx308_3
      try clear hx308_4
      try clear hx308_5
      try clear hx310_0
      try clear hx310_1
      try clear hx310_2
      try clear hx310_3
      try clear hx310_4
      try clear hx314_0
      try clear hx314_1
      try clear hx314_2
      try clear p2
      try clear p298
      try clear p299
      try clear p3
      try clear p303
      try clear p304
      try clear p306
      try clear p307
      try clear p308
      try clear p310
      try clear p314
      try clear p6
      try clear q2
      try clear q298
      try clear q299
      try clear q3
      try clear q303
      try clear q304
      try clear q306
      try clear q307
      try clear q308
      try clear q310
      try clear q314
      obtain ⟨x7_2, x11_2, rfl, HA, HK2, HO_1, HO_7, HB⟩ := hrel
      cases gk with
      | zero => exact absurd HA.out (by simp [selvageref09_Values.l3])
      | succ k2 =>
       have H := HA.out
       clear HA
       simp only [selvageref09_Values.l3] at H
       by_cases c26 : x11_2 < (l0.length : Int)
       ·
        rw [if_pos c26] at H
        have c26b0 : decide (x11_2 < (l0.length : Int)) = true := decide_eq_true c26
        clear c26
        by_cases c27 : 0 ≤ x11_2
        ·
         rw [if_pos c27] at H
         have c27b0 : decide (0 ≤ x11_2) = true := decide_eq_true c27
         clear c27
         by_cases c28 : ((rd_T61 l0 x11_2).f1).toList = x5_1.toList
         ·
          rw [if_pos c28] at H
          have c28b0 : (((rd_T61 l0 x11_2).f1).toList == x5_1.toList) = true := beq_iff_eq.mpr c28
          have c28b1 : (((rd_T61 l0 x11_2).f1).toList != x5_1.toList) = false := bne_eq_false_iff_eq.mpr c28
          clear c28
          obtain ⟨y317, hy317⟩ : ∃ y_ : List (S40), y_ = (([(⟨(rd_T61 l0 x11_2).f0, 0, ([] : List (S40))⟩ : S40)] : List (S40))) := ⟨_, rfl⟩
          replace H : (selvageref09_Values.l4 k2 l0 l1 x5_1 x7_2 x11_2 y317 0) = some r := by first | (rw [hy317]; with_reducible exact H) | (have H2_ := (Option.bind_some _ _).symm.trans H; rw [hy317]; with_reducible exact H2_) | (have H2_ := (Option.bind_some _ _).symm.trans H; with_reducible exact H2_) | with_reducible exact H | (rw [hy317]; exact H) | exact H
          have Ny317 := Aside0.mk hy317
          clear hy317
          have H' := Aside0.mk H
          clear H
          have p315 : 0 ≤ (x11_2 : Int) := of_decide_eq_true (by first | (with_reducible assumption) | assumption)
          have q315 : x11_2 < (l0.length : Int) := of_decide_eq_true (by first | (with_reducible assumption) | assumption)
          obtain ⟨ad315, e315, hx315_0, hx315_1, hx315_2, hx315_3, hx315_4⟩ := at_T61 HR0.out x11_2 p315 q315
          cases e315
          replace hx315_0 := (HB.out.cell (World.block_lt_of_cell? w _ hx315_0)).trans hx315_0
          replace hx315_1 := (HB.out.cell (World.block_lt_of_cell? w _ hx315_1)).trans hx315_1
          replace hx315_2 := (HB.out.cell (World.block_lt_of_cell? w _ hx315_2)).trans hx315_2
          replace hx315_3 := (HB.out.cell (World.block_lt_of_cell? w _ hx315_3)).trans hx315_3
          replace hx315_4 := (HB.out.cell (World.block_lt_of_cell? w _ hx315_4)).trans hx315_4
          replace p315 := eq_true p315
          replace q315 := eq_true q315
          have p316 : 0 ≤ (x11_2 : Int) := of_decide_eq_true (by first | (with_reducible assumption) | assumption)
          have q316 : x11_2 < (l0.length : Int) := of_decide_eq_true (by first | (with_reducible assumption) | assumption)
          obtain ⟨ad316, e316, hx316_0, hx316_1, hx316_2, hx316_3, hx316_4⟩ := at_T61 HR0.out x11_2 p316 q316
          obtain rfl : ad315 = ad316 := (by injection e316)
          replace hx316_0 := (HB.out.cell (World.block_lt_of_cell? w _ hx316_0)).trans hx316_0
          replace hx316_1 := (HB.out.cell (World.block_lt_of_cell? w _ hx316_1)).trans hx316_1
          replace hx316_2 := (HB.out.cell (World.block_lt_of_cell? w _ hx316_2)).trans hx316_2
          replace hx316_3 := (HB.out.cell (World.block_lt_of_cell? w _ hx316_3)).trans hx316_3
          replace hx316_4 := (HB.out.cell (World.block_lt_of_cell? w _ hx316_4)).trans hx316_4
          replace p316 := eq_true p316
          replace q316 := eq_true q316
          go_wp2_with (first | ((with_reducible refine gate_dst (N := 104) rfl ?_); refine Kd.N_lit k40 _ 40 ?hg (N' := 104) ?hd (xs := ([(⟨(rd_T61 l0 x11_2).f0, 0, ([] : List (S40))⟩ : S40)] : List (S40))) (inner := [.string ((rd_T61 l0 x11_2).f0), .int .i64 0, .slice none 0 0]) (ok := (fun k_ => (P1_ k_ ∨ w.heap.size ≤ k_) ∧ some k_ ≠ (u7 : Value).ownBlock)) (okp := (fun k_ => (P1_ k_ ∨ w.heap.size ≤ k_) ∧ some k_ ≠ (u7 : Value).ownBlock)) ?hr ?hp (fun _ hk => hk) ((show ∀ k_, wr.heap.size ≤ k_ → (fun k_ => (P1_ k_ ∨ w.heap.size ≤ k_) ∧ some k_ ≠ (u7 : Value).ownBlock) k_ from fun k_ hk => ⟨(.inr (Nat.le_trans (below_size (by repeat (first | (with_reducible first | exact HB.out | apply below_alloc | apply pw_below_drewN | apply below_drew1) | exact HB.out))) hk)), Kd.fresh' (Kd.N_lt (by (with_reducible repeat (first | apply Kd.N_alloc | apply Kd.N_drewN | apply Kd.N_drew)); exact HO_7.out)) k_ hk⟩) _ (Nat.le_refl _)) (Below.refl _ _) (Nat.le_refl _) (by simp) ?_; (case hd => rfl); (case hg => rfl); (case hr => first | (go_simp; done) | (go_simp; rfl)); (case hp => exact (Reps.c3 (show Kd.FK k40 _ _ (⟨(rd_T61 l0 x11_2).f0, 0, ([] : List (S40))⟩ : S40) [.string ((rd_T61 l0 x11_2).f0), .int .i64 0, .slice none 0 0] from (k40_mkF _ _ (⟨(rd_T61 l0 x11_2).f0, 0, ([] : List (S40))⟩ : S40) (Nat.le_refl _) (Kd.F_nil _ _ _))) (Reps.none _ _))); intro v318 w29 ho30 hb hg_ hnew_; clear hg_ hnew_; (first | rw [← Ny317.out] at ho30 | (simp only [Int.reduceToNat] at ho30; rw [← Ny317.out] at ho30)); have n0_ := Aside0.mk (Kd.V_elder' (by (with_reducible repeat (first | apply Kd.V_alloc | apply Kd.V_drewN | apply Kd.V_drew)); exact HO_1.out) (Kd.N_base ho30) hb); have n1_ := Aside0.mk (Kd.N_elder' (by (with_reducible repeat (first | apply Kd.N_alloc | apply Kd.N_drewN | apply Kd.N_drew)); exact HO_7.out) (Kd.N_base ho30) hb); have n2_ := Aside0.mk (Kd.N_lower ho30 (below_size (by repeat (first | (with_reducible first | exact HB.out | apply below_alloc | apply pw_below_drewN | apply below_drew1) | exact HB.out)))); have n3_ := Aside0.mk (below_step (by repeat (first | (with_reducible first | exact HB.out | apply below_alloc | apply pw_below_drewN | apply below_drew1) | exact HB.out)) hb); clear HO_1; clear HO_7; clear HB; have HO_1 := n0_; have HO_7 := n1_; have HO319 := n2_; have HB := n3_; clear n0_ n1_ n2_ n3_; clear hb ho30))
          go_loopg [12, 13] k2 (fun kq v12 v13 w' => ∃ (x12_3 : List (S40)) (x13_3 : Int), v13 = .int .i64 x13_3 ∧ Aside0 (selvageref09_Values.l4 kq l0 l1 x5_1 x7_2 x11_2 x12_3 x13_3 = some r) ∧ Aside0 (kq ≤ k2) ∧ Aside0 (Kd.V k25 25 w' w.heap.size (fun k_ => (P1_ k_ ∨ w.heap.size ≤ k_) ∧ some k_ ≠ (u7 : Value).ownBlock ∧ some k_ ≠ (v12 : Value).ownBlock) (.slice A1 l1.length c1) l1) ∧ Aside0 (Kd.N k40 40 w' w.heap.size (fun k_ => (P1_ k_ ∨ w.heap.size ≤ k_) ∧ some k_ ≠ (v12 : Value).ownBlock) u7 x7_2) ∧ Aside0 (Kd.N k40 40 w' w.heap.size (fun k_ => (P1_ k_ ∨ w.heap.size ≤ k_) ∧ some k_ ≠ (u7 : Value).ownBlock) v12 x12_3) ∧ Aside0 (Below w.heap.size w w'))
          case atStart => exact ⟨(y317), (0), (by first | rfl | (simp; done) | (simp [*]; done)), H', ⟨Nat.le_refl _⟩, ⟨by (with_reducible repeat (first | apply Kd.V_alloc | apply Kd.V_drewN | apply Kd.V_drew)); exact Kd.V_mono HO_1.out (fun _ hk => ⟨hk.1.1, ⟨hk.1.2, hk.2⟩⟩)⟩, ⟨by (with_reducible repeat (first | apply Kd.N_alloc | apply Kd.N_drewN | apply Kd.N_drew)); exact HO_7.out⟩, ⟨by (with_reducible repeat (first | apply Kd.N_alloc | apply Kd.N_drewN | apply Kd.N_drew)); exact HO319.out⟩, ⟨by repeat ((with_reducible first | exact HB.out | apply below_alloc | apply pw_below_drewN | apply below_drew1))⟩⟩
          case round =>
           clear H'
           try clear c1
           try clear c2
           try clear p2
           try clear q2
           try clear hx2
           try clear c3
           try clear c3b0
           try clear p3
           try clear q3
           try clear hx3
           try clear c4
           try clear c4b0
           try clear c5
           try clear c5b0
           try clear c5b1
           try clear c6
           try clear p6
           try clear c7
           try clear c7b0
           try clear c7b1
           try clear c9
           try clear c9b0
           try clear c10
           try clear c10b0
           try clear c13
           try clear c13b0
           try clear c13b1
           try clear c14
           try clear c15
           try clear c15b0
           try clear c16
           try clear c16b0
           try clear c17
           try clear c17b0
           try clear c17b1
           try clear c18
           try clear c18b0
           try clear c20
           try clear c20b0
           try clear c21
           try clear c21b0
           try clear c22
           try clear c22b0
           try clear c22b1
           try clear c23
           try clear c26
           try clear c26b0
           try clear c27
           try clear c27b0
           try clear c28
           try clear c28b0
           try clear c28b1
           try clear c29
           try clear p29
           try clear q29
           try clear hx29
           try clear c30
           try clear p30
           try clear q30
           try clear hx30
           try clear hx298_0
           try clear hx298_1
           try clear hx298_2
           try clear hx298_3
           try clear hx298_4
           try clear hx298_5
           try clear hx299_0
           try clear hx299_1
           try clear hx299_2
           try clear hx299_3
           try clear hx299_4
           try clear hx299_5
           try clear hx303_0
           try clear hx303_1
           try clear hx303_2
           try clear hx303_3
           try clear hx303_4
           try clear hx303_5
           try clear hx304_0
           try clear hx304_1
           try clear hx304_2
           try clear hx304_3
           try clear hx304_4
           try clear hx304_5
           try clear hx306_0
           try clear hx306_1
           try clear hx306_2
           try clear hx306_3
           try clear hx306_4
           try clear hx307_0
           try clear hx307_1
           try clear hx307_2
           try clear hx307_3
           try clear hx307_4
           try clear hx307_5
           try clear hx308_0
           try clear hx308_1
           try clear hx308_2
           try clear hx308_3
           try clear hx308_4
           try clear hx308_5
           try clear hx310_0
           try clear hx310_1
           try clear hx310_2
           try clear hx310_3
           try clear hx310_4
           try clear hx314_0
           try clear hx314_1
           try clear hx314_2
           try clear hx315_0
           try clear hx315_1
           try clear hx315_2
           try clear hx315_3
           try clear hx315_4
           try clear hx316_0
           try clear hx316_1
           try clear hx316_2
           try clear hx316_3
           try clear hx316_4
           try clear p2
           try clear p298
           try clear p299
           try clear p3
           try clear p303
           try clear p304
           try clear p306
           try clear p307
           try clear p308
           try clear p310
           try clear p314
           try clear p315
           try clear p316
           try clear p6
           try clear q2
           try clear q298
           try clear q299
           try clear q3
           try clear q303
           try clear q304
           try clear q306
           try clear q307
           try clear q308
           try clear q310
           try clear q314
           try clear q315
           try clear q316
           obtain ⟨x12_3, x13_3, rfl, HA, HK3, HO_1, HO_7, HO_12, HB⟩ := hrel
           cases gk with
           | zero => exact absurd HA.out (by simp [selvageref09_Values.l4])
           | succ k3 =>
            have H := HA.out
            clear HA
            simp only [selvageref09_Values.l4] at H
            by_cases c31 : 0 ≤ x11_2
            ·
             rw [if_pos c31] at H
             have c31b0 : decide (0 ≤ x11_2) = true := decide_eq_true c31
             clear c31
             by_cases c32 : x11_2 < (l0.length : Int)
             ·
              rw [if_pos c32] at H
              have c32b0 : decide (x11_2 < (l0.length : Int)) = true := decide_eq_true c32
              clear c32
              by_cases c33 : x13_3 < ((rd_T61 l0 x11_2).f3)
              ·
               rw [if_pos c33] at H
               have c33b0 : decide (x13_3 < ((rd_T61 l0 x11_2).f3)) = true := decide_eq_true c33
               clear c33
               replace H := Option.bind_eq_some_iff.mp H
               obtain ⟨t325, A340, H⟩ := H
               replace H : ((selvageref09_Values.f k3 l0 t325).bind fun t328 => (selvageref09_Values.l5 k3 l0 l1 x5_1 x7_2 x11_2 x12_3 x13_3 t328 ([] : List (S40)) 0)) = some r := H
               have A34 := Aside0.mk A340
               clear A340
               replace H := Option.bind_eq_some_iff.mp H
               obtain ⟨t328, A350, H⟩ := H
               replace H : (selvageref09_Values.l5 k3 l0 l1 x5_1 x7_2 x11_2 x12_3 x13_3 t328 ([] : List (S40)) 0) = some r := H
               have A35 := Aside0.mk A350
               clear A350
               have H' := Aside0.mk H
               clear H
               have p320 : 0 ≤ (x11_2 : Int) := of_decide_eq_true (by first | (with_reducible assumption) | assumption)
               have q320 : x11_2 < (l0.length : Int) := of_decide_eq_true (by first | (with_reducible assumption) | assumption)
               obtain ⟨ad320, e320, hx320_0, hx320_1, hx320_2, hx320_3, hx320_4⟩ := at_T61 HR0.out x11_2 p320 q320
               obtain rfl : ad315 = ad320 := (by injection e320)
               replace hx320_0 := (HB.out.cell (World.block_lt_of_cell? w _ hx320_0)).trans hx320_0
               replace hx320_1 := (HB.out.cell (World.block_lt_of_cell? w _ hx320_1)).trans hx320_1
               replace hx320_2 := (HB.out.cell (World.block_lt_of_cell? w _ hx320_2)).trans hx320_2
               replace hx320_3 := (HB.out.cell (World.block_lt_of_cell? w _ hx320_3)).trans hx320_3
               replace hx320_4 := (HB.out.cell (World.block_lt_of_cell? w _ hx320_4)).trans hx320_4
               replace p320 := eq_true p320
               replace q320 := eq_true q320
               have p324 : 0 ≤ (x11_2 : Int) := of_decide_eq_true (by first | (with_reducible assumption) | assumption)
               have q324 : x11_2 < (l0.length : Int) := of_decide_eq_true (by first | (with_reducible assumption) | assumption)
               obtain ⟨ad324, e324, hx324_0, hx324_1, hx324_2, hx324_3, hx324_4⟩ := at_T61 HR0.out x11_2 p324 q324
               obtain rfl : ad315 = ad324 := (by injection e324)
               replace hx324_0 := (HB.out.cell (World.block_lt_of_cell? w _ hx324_0)).trans hx324_0
               replace hx324_1 := (HB.out.cell (World.block_lt_of_cell? w _ hx324_1)).trans hx324_1
               replace hx324_2 := (HB.out.cell (World.block_lt_of_cell? w _ hx324_2)).trans hx324_2
               replace hx324_3 := (HB.out.cell (World.block_lt_of_cell? w _ hx324_3)).trans hx324_3
               replace hx324_4 := (HB.out.cell (World.block_lt_of_cell? w _ hx324_4)).trans hx324_4
               replace p324 := eq_true p324
               replace q324 := eq_true q324
               go_wp2_with (first | ((with_reducible refine gate_callee (f := 33) rfl ?_); refine goesL_ (some 122) rfl rfl Try.func33 (by kernel_rfl) rfl #[.slice A1 l1.length c1, .string ((rd_T61 l0 x11_2).f0), .int .i64 x13_3] rfl (by (try simp only [List.map_toArray, List.map_cons, List.map_nil]); first | done | rfl | (simp only [List.length_drop, List.length_take]; rfl)) ?_; (with_reducible refine (selvageref09_parts.calls k3 (fun k_ => ((P1_ k_ ∨ w.heap.size ≤ k_) ∧ (some k_ ≠ (u7 : Value).ownBlock ∧ some k_ ≠ (u12 : Value).ownBlock))) _ _ l1 ((rd_T61 l0 x11_2).f0) x13_3 t325 _ ?side1 A34.out).mono ?_); (case side1 => exact HO_1.out); rintro e w36 ⟨v326, rfl, ho0, hb⟩; refine ⟨_, rfl, ?_⟩; have n0_ := Aside0.mk (Kd.V_elder' (by (with_reducible repeat (first | apply Kd.V_alloc | apply Kd.V_drewN | apply Kd.V_drew)); exact HO_1.out) (Kd.N_base ho0) hb); have n1_ := Aside0.mk (Kd.N_elder' (by (with_reducible repeat (first | apply Kd.N_alloc | apply Kd.N_drewN | apply Kd.N_drew)); exact HO_7.out) (Kd.N_base ho0) hb); have n2_ := Aside0.mk (Kd.N_elder' (by (with_reducible repeat (first | apply Kd.N_alloc | apply Kd.N_drewN | apply Kd.N_drew)); exact HO_12.out) (Kd.N_base ho0) hb); have n3_ := Aside0.mk (Kd.N_lower (Kd.N_mono (ok' := fun k_ => (P1_ k_ ∨ w.heap.size ≤ k_) ∧ some k_ ≠ (u7 : Value).ownBlock ∧ some k_ ≠ (u12 : Value).ownBlock) ho0 (fun k_ hk_ => ⟨Or.elim hk_ (fun hs_ => hs_.1) (fun hn_ => (.inr (Nat.le_trans (below_size (by repeat ((with_reducible first | exact HB.out | apply below_alloc | apply pw_below_drewN | apply below_drew1)))) hn_))), Or.elim hk_ (fun hs_ => hs_.2.1) (fun hn_ => (Kd.fresh' (Kd.N_lt (by (with_reducible repeat (first | apply Kd.N_alloc | apply Kd.N_drewN | apply Kd.N_drew)); exact HO_7.out)) k_ hn_)), Or.elim hk_ (fun hs_ => hs_.2.2) (fun hn_ => (Kd.fresh' (Kd.N_lt (by (with_reducible repeat (first | apply Kd.N_alloc | apply Kd.N_drewN | apply Kd.N_drew)); exact HO_12.out)) k_ hn_))⟩)) (below_size (by repeat ((with_reducible first | exact HB.out | apply below_alloc | apply pw_below_drewN | apply below_drew1))))); have n4_ := Aside0.mk (below_step (by repeat ((with_reducible first | exact HB.out | apply below_alloc | apply pw_below_drewN | apply below_drew1))) hb); clear HO_1; clear HO_7; clear HO_12; clear HB; have HO_1 := n0_; have HO_7 := n1_; have HO_12 := n2_; have HO327 := n3_; have HB := n4_; clear n0_ n1_ n2_ n3_ n4_; (try clear hb); (try clear hb2); (try clear hk); (try clear hi); (try clear ho0); obtain ⟨Ao37, co37, eo37⟩ := Kd.N_slice HO327.out; subst eo37) | ((with_reducible refine gate_callee (f := 14) rfl ?_); refine goesL_ (some 123) rfl rfl Try.func14 (by kernel_rfl) rfl #[.slice (some ad315) l0.length c0, .slice Ao37 t325.length co37] rfl (by (try simp only [List.map_toArray, List.map_cons, List.map_nil]); first | done | rfl | (simp only [List.length_drop, List.length_take]; rfl)) ?_; (with_reducible refine (ih k3 (by have := HK1.out; have := HK2.out; have := HK3.out; omega) _ _ l0 (fun k_ => ((P1_ k_ ∨ w.heap.size ≤ k_) ∧ (some k_ ≠ (u7 : Value).ownBlock ∧ some k_ ≠ (u12 : Value).ownBlock))) _ _ t325 t328 _ ?side1 ?side2 ?side3 A35.out).mono ?_); (case side1 => repeat (exact (Kd.C_below HR0.out HB.out))); (case side2 => exact HC0.out); (case side3 => exact Kd.N_V (HO327.out)); rintro e w38 ⟨v329, rfl, ho0, hb⟩; refine ⟨_, rfl, ?_⟩; have n0_ := Aside0.mk (Kd.V_elder' (by (with_reducible repeat (first | apply Kd.V_alloc | apply Kd.V_drewN | apply Kd.V_drew)); exact HO_1.out) (Kd.N_base ho0) hb); have n1_ := Aside0.mk (Kd.N_elder' (by (with_reducible repeat (first | apply Kd.N_alloc | apply Kd.N_drewN | apply Kd.N_drew)); exact HO_7.out) (Kd.N_base ho0) hb); have n2_ := Aside0.mk (Kd.N_elder' (by (with_reducible repeat (first | apply Kd.N_alloc | apply Kd.N_drewN | apply Kd.N_drew)); exact HO_12.out) (Kd.N_base ho0) hb); have n3_ := Aside0.mk (Kd.N_elder' (by (with_reducible repeat (first | apply Kd.N_alloc | apply Kd.N_drewN | apply Kd.N_drew)); exact HO327.out) (Kd.N_base ho0) hb); have n4_ := Aside0.mk (Kd.N_lower (Kd.N_mono (ok' := fun k_ => (P1_ k_ ∨ w.heap.size ≤ k_) ∧ some k_ ≠ (u7 : Value).ownBlock ∧ some k_ ≠ (u12 : Value).ownBlock) ho0 (fun k_ hk_ => ⟨Or.elim hk_ (fun hs_ => hs_.1) (fun hn_ => (.inr (Nat.le_trans (below_size (by repeat ((with_reducible first | exact HB.out | apply below_alloc | apply pw_below_drewN | apply below_drew1)))) hn_))), Or.elim hk_ (fun hs_ => hs_.2.1) (fun hn_ => (Kd.fresh' (Kd.N_lt (by (with_reducible repeat (first | apply Kd.N_alloc | apply Kd.N_drewN | apply Kd.N_drew)); exact HO_7.out)) k_ hn_)), Or.elim hk_ (fun hs_ => hs_.2.2) (fun hn_ => (Kd.fresh' (Kd.N_lt (by (with_reducible repeat (first | apply Kd.N_alloc | apply Kd.N_drewN | apply Kd.N_drew)); exact HO_12.out)) k_ hn_))⟩)) (below_size (by repeat ((with_reducible first | exact HB.out | apply below_alloc | apply pw_below_drewN | apply below_drew1))))); have n5_ := Aside0.mk (below_step (by repeat ((with_reducible first | exact HB.out | apply below_alloc | apply pw_below_drewN | apply below_drew1))) hb); clear HO_1; clear HO_7; clear HO_12; clear HO327; clear HB; have HO_1 := n0_; have HO_7 := n1_; have HO_12 := n2_; have HO327 := n3_; have HO330 := n4_; have HB := n5_; clear n0_ n1_ n2_ n3_ n4_ n5_; (try clear hb); (try clear hb2); (try clear hk); (try clear hi); (try clear ho0)))
               go_loopg [15, 16] k3 (fun kq v15 v16 w' => ∃ (x15_4 : List (S40)) (x16_4 : Int), v16 = .int .i64 x16_4 ∧ Aside0 (selvageref09_Values.l5 kq l0 l1 x5_1 x7_2 x11_2 x12_3 x13_3 t328 x15_4 x16_4 = some r) ∧ Aside0 (kq ≤ k3) ∧ Aside0 (Kd.V k25 25 w' w.heap.size (fun k_ => (P1_ k_ ∨ w.heap.size ≤ k_) ∧ some k_ ≠ (u7 : Value).ownBlock ∧ some k_ ≠ (u12 : Value).ownBlock ∧ some k_ ≠ (v329 : Value).ownBlock ∧ some k_ ≠ (v15 : Value).ownBlock) (.slice A1 l1.length c1) l1) ∧ Aside0 (Kd.N k40 40 w' w.heap.size (fun k_ => (P1_ k_ ∨ w.heap.size ≤ k_) ∧ some k_ ≠ (u12 : Value).ownBlock ∧ some k_ ≠ (v329 : Value).ownBlock ∧ some k_ ≠ (v15 : Value).ownBlock) u7 x7_2) ∧ Aside0 (Kd.N k40 40 w' w.heap.size (fun k_ => (P1_ k_ ∨ w.heap.size ≤ k_) ∧ some k_ ≠ (u7 : Value).ownBlock ∧ some k_ ≠ (v329 : Value).ownBlock ∧ some k_ ≠ (v15 : Value).ownBlock) u12 x12_3) ∧ Aside0 (Kd.N k40 40 w' w.heap.size (fun k_ => (P1_ k_ ∨ w.heap.size ≤ k_) ∧ some k_ ≠ (u7 : Value).ownBlock ∧ some k_ ≠ (u12 : Value).ownBlock ∧ some k_ ≠ (v15 : Value).ownBlock) v329 t328) ∧ Aside0 (Kd.N k40 40 w' w.heap.size (fun k_ => (P1_ k_ ∨ w.heap.size ≤ k_) ∧ some k_ ≠ (u7 : Value).ownBlock ∧ some k_ ≠ (u12 : Value).ownBlock ∧ some k_ ≠ (v329 : Value).ownBlock) v15 x15_4) ∧ Aside0 (Below w.heap.size w w'))
               case atStart => exact ⟨(([] : List (S40))), (0), (by first | rfl | (simp; done) | (simp [*]; done)), H', ⟨Nat.le_refl _⟩, ⟨by (with_reducible repeat (first | apply Kd.V_alloc | apply Kd.V_drewN | apply Kd.V_drew)); exact Kd.V_mono HO_1.out (fun _ hk => ⟨hk.1.1.1, ⟨hk.1.1.2.1, ⟨hk.1.1.2.2, ⟨hk.2, (by simp [Value.ownBlock])⟩⟩⟩⟩)⟩, ⟨by (with_reducible repeat (first | apply Kd.N_alloc | apply Kd.N_drewN | apply Kd.N_drew)); exact Kd.N_mono HO_7.out (fun _ hk => ⟨hk.1.1.1, ⟨hk.1.1.2, ⟨hk.2, (by simp [Value.ownBlock])⟩⟩⟩)⟩, ⟨by (with_reducible repeat (first | apply Kd.N_alloc | apply Kd.N_drewN | apply Kd.N_drew)); exact Kd.N_mono HO_12.out (fun _ hk => ⟨hk.1.1.1, ⟨hk.1.1.2, ⟨hk.2, (by simp [Value.ownBlock])⟩⟩⟩)⟩, ⟨by (with_reducible repeat (first | apply Kd.N_alloc | apply Kd.N_drewN | apply Kd.N_drew)); exact Kd.N_mono HO330.out (fun _ hk => ⟨hk.1, ⟨hk.2.1, ⟨hk.2.2, (by simp [Value.ownBlock])⟩⟩⟩)⟩, ⟨by first | exact Kd.R_nil _ _ _ _ _ | exact Kd.N_nil _ _ _ _ _ | exact Kd.V_nil _ _ _ _ _ | exact Kd.Q_nil _ _ _ _ _ | exact Kd.S_nil _ _ _ _ _⟩, ⟨by repeat ((with_reducible first | exact HB.out | apply below_alloc | apply pw_below_drewN | apply below_drew1))⟩⟩
               case round =>
                clear H'
                try clear c1
                try clear c2
                try clear p2
                try clear q2
                try clear hx2
                try clear c3
                try clear c3b0
                try clear p3
                try clear q3
                try clear hx3
                try clear c4
                try clear c4b0
                try clear c5
                try clear c5b0
                try clear c5b1
                try clear c6
                try clear p6
                try clear c7
                try clear c7b0
                try clear c7b1
                try clear c9
                try clear c9b0
                try clear c10
                try clear c10b0
                try clear c13
                try clear c13b0
                try clear c13b1
                try clear c14
                try clear c15
                try clear c15b0
                try clear c16
                try clear c16b0
                try clear c17
                try clear c17b0
                try clear c17b1
                try clear c18
                try clear c18b0
                try clear c20
                try clear c20b0
                try clear c21
                try clear c21b0
                try clear c22
                try clear c22b0
                try clear c22b1
                try clear c23
                try clear c26
                try clear c26b0
                try clear c27
                try clear c27b0
                try clear c28
                try clear c28b0
                try clear c28b1
                try clear c29
                try clear p29
                try clear q29
                try clear hx29
                try clear c30
                try clear p30
                try clear q30
                try clear hx30
                try clear c31
                try clear c31b0
                try clear p31
                try clear q31
                try clear hx31
                try clear c32
                try clear c32b0
                try clear p32
                try clear q32
                try clear hx32
                try clear c33
                try clear c33b0
                try clear hx298_0
                try clear hx298_1
                try clear hx298_2
                try clear hx298_3
                try clear hx298_4
                try clear hx298_5
                try clear hx299_0
                try clear hx299_1
                try clear hx299_2
                try clear hx299_3
                try clear hx299_4
                try clear hx299_5
                try clear hx303_0
                try clear hx303_1
                try clear hx303_2
                try clear hx303_3
                try clear hx303_4
                try clear hx303_5
                try clear hx304_0
                try clear hx304_1
                try clear hx304_2
                try clear hx304_3
                try clear hx304_4
                try clear hx304_5
                try clear hx306_0
                try clear hx306_1
                try clear hx306_2
                try clear hx306_3
                try clear hx306_4
                try clear hx307_0
                try clear hx307_1
                try clear hx307_2
                try clear hx307_3
                try clear hx307_4
                try clear hx307_5
                try clear hx308_0
                try clear hx308_1
                try clear hx308_2
                try clear hx308_3
                try clear hx308_4
                try clear hx308_5
                try clear hx310_0
                try clear hx310_1
                try clear hx310_2
                try clear hx310_3
                try clear hx310_4
                try clear hx314_0
                try clear hx314_1
                try clear hx314_2
                try clear hx315_0
                try clear hx315_1
                try clear hx315_2
                try clear hx315_3
                try clear hx315_4
                try clear hx316_0
                try clear hx316_1
                try clear hx316_2
                try clear hx316_3
                try clear hx316_4
                try clear hx320_0
                try clear hx320_1
                try clear hx320_2
                try clear hx320_3
                try clear hx320_4
                try clear hx324_0
                try clear hx324_1
                try clear hx324_2
                try clear hx324_3
                try clear hx324_4
                try clear p2
                try clear p29
                try clear p298
                try clear p299
                try clear p3
                try clear p30
                try clear p303
                try clear p304
                try clear p306
                try clear p307
                try clear p308
                try clear p310
                try clear p314
                try clear p315
                try clear p316
                try clear p320
                try clear p324
                try clear p6
                try clear q2
                try clear q29
                try clear q298
                try clear q299
                try clear q3
                try clear q30
                try clear q303
                try clear q304
                try clear q306
                try clear q307
                try clear q308
                try clear q310
                try clear q314
                try clear q315
                try clear q316
                try clear q320
                try clear q324
                obtain ⟨x15_4, x16_4, rfl, HA, HK4, HO_1, HO_7, HO_12, HO_14, HO_15, HB⟩ := hrel
                cases gk with
                | zero => exact absurd HA.out (by simp [selvageref09_Values.l5])
                | succ k4 =>
                 have H := HA.out
                 clear HA
                 simp only [selvageref09_Values.l5] at H
                 by_cases c39 : x16_4 < (x12_3.length : Int)
                 ·
                  rw [if_pos c39] at H
                  have c39b0 : decide (x16_4 < (x12_3.length : Int)) = true := decide_eq_true c39
                  clear c39
                  have H' := Aside0.mk H
                  clear H
                  obtain ⟨Ao40, co40, eo40⟩ := Kd.N_slice HO_12.out
                  subst eo40
                  go_wp2
                  go_loopg [15, 17] k4 (fun kq v15 v17 w' => ∃ (x15_5 : List (S40)) (x17_5 : Int), v17 = .int .i64 x17_5 ∧ Aside0 (selvageref09_Values.l6 kq l0 l1 x5_1 x7_2 x11_2 x12_3 x13_3 t328 x15_5 x16_4 x17_5 = some r) ∧ Aside0 (kq ≤ k4) ∧ Aside0 (Kd.V k25 25 w' w.heap.size (fun k_ => (P1_ k_ ∨ w.heap.size ≤ k_) ∧ some k_ ≠ (u7 : Value).ownBlock ∧ some k_ ≠ ((.slice Ao40 x12_3.length co40) : Value).ownBlock ∧ some k_ ≠ (v329 : Value).ownBlock ∧ some k_ ≠ (v15 : Value).ownBlock) (.slice A1 l1.length c1) l1) ∧ Aside0 (Kd.N k40 40 w' w.heap.size (fun k_ => (P1_ k_ ∨ w.heap.size ≤ k_) ∧ some k_ ≠ ((.slice Ao40 x12_3.length co40) : Value).ownBlock ∧ some k_ ≠ (v329 : Value).ownBlock ∧ some k_ ≠ (v15 : Value).ownBlock) u7 x7_2) ∧ Aside0 (Kd.N k40 40 w' w.heap.size (fun k_ => (P1_ k_ ∨ w.heap.size ≤ k_) ∧ some k_ ≠ (u7 : Value).ownBlock ∧ some k_ ≠ (v329 : Value).ownBlock ∧ some k_ ≠ (v15 : Value).ownBlock) (.slice Ao40 x12_3.length co40) x12_3) ∧ Aside0 (Kd.N k40 40 w' w.heap.size (fun k_ => (P1_ k_ ∨ w.heap.size ≤ k_) ∧ some k_ ≠ (u7 : Value).ownBlock ∧ some k_ ≠ ((.slice Ao40 x12_3.length co40) : Value).ownBlock ∧ some k_ ≠ (v15 : Value).ownBlock) v329 t328) ∧ Aside0 (Kd.N k40 40 w' w.heap.size (fun k_ => (P1_ k_ ∨ w.heap.size ≤ k_) ∧ some k_ ≠ (u7 : Value).ownBlock ∧ some k_ ≠ ((.slice Ao40 x12_3.length co40) : Value).ownBlock ∧ some k_ ≠ (v329 : Value).ownBlock) v15 x15_5) ∧ Aside0 (Below w.heap.size w w'))
                  case atStart => exact ⟨(x15_4), (0), (by first | rfl | (simp; done) | (simp [*]; done)), H', ⟨Nat.le_refl _⟩, ⟨by (with_reducible repeat (first | apply Kd.V_alloc | apply Kd.V_drewN | apply Kd.V_drew)); exact HO_1.out⟩, ⟨by (with_reducible repeat (first | apply Kd.N_alloc | apply Kd.N_drewN | apply Kd.N_drew)); exact HO_7.out⟩, ⟨by (with_reducible repeat (first | apply Kd.N_alloc | apply Kd.N_drewN | apply Kd.N_drew)); exact HO_12.out⟩, ⟨by (with_reducible repeat (first | apply Kd.N_alloc | apply Kd.N_drewN | apply Kd.N_drew)); exact HO_14.out⟩, ⟨by (with_reducible repeat (first | apply Kd.N_alloc | apply Kd.N_drewN | apply Kd.N_drew)); exact HO_15.out⟩, ⟨by repeat ((with_reducible first | exact HB.out | apply below_alloc | apply pw_below_drewN | apply below_drew1))⟩⟩
                  case round =>
                   clear H'
                   try clear c1
                   try clear c2
                   try clear p2
                   try clear q2
                   try clear hx2
                   try clear c3
                   try clear c3b0
                   try clear p3
                   try clear q3
                   try clear hx3
                   try clear c4
                   try clear c4b0
                   try clear c5
                   try clear c5b0
                   try clear c5b1
                   try clear c6
                   try clear p6
                   try clear c7
                   try clear c7b0
                   try clear c7b1
                   try clear c9
                   try clear c9b0
                   try clear c10
                   try clear c10b0
                   try clear c13
                   try clear c13b0
                   try clear c13b1
                   try clear c14
                   try clear c15
                   try clear c15b0
                   try clear c16
                   try clear c16b0
                   try clear c17
                   try clear c17b0
                   try clear c17b1
                   try clear c18
                   try clear c18b0
                   try clear c20
                   try clear c20b0
                   try clear c21
                   try clear c21b0
                   try clear c22
                   try clear c22b0
                   try clear c22b1
                   try clear c23
                   try clear c26
                   try clear c26b0
                   try clear c27
                   try clear c27b0
                   try clear c28
                   try clear c28b0
                   try clear c28b1
                   try clear c29
                   try clear p29
                   try clear q29
                   try clear hx29
                   try clear c30
                   try clear p30
                   try clear q30
                   try clear hx30
                   try clear c31
                   try clear c31b0
                   try clear p31
                   try clear q31
                   try clear hx31
                   try clear c32
                   try clear c32b0
                   try clear p32
                   try clear q32
                   try clear hx32
                   try clear c33
                   try clear c33b0
                   try clear c39
                   try clear c39b0
                   try clear hx298_0
                   try clear hx298_1
                   try clear hx298_2
                   try clear hx298_3
                   try clear hx298_4
                   try clear hx298_5
                   try clear hx299_0
                   try clear hx299_1
                   try clear hx299_2
                   try clear hx299_3
                   try clear hx299_4
                   try clear hx299_5
                   try clear hx303_0
                   try clear hx303_1
                   try clear hx303_2
                   try clear hx303_3
                   try clear hx303_4
                   try clear hx303_5
                   try clear hx304_0
                   try clear hx304_1
                   try clear hx304_2
                   try clear hx304_3
                   try clear hx304_4
                   try clear hx304_5
                   try clear hx306_0
                   try clear hx306_1
                   try clear hx306_2
                   try clear hx306_3
                   try clear hx306_4
                   try clear hx307_0
                   try clear hx307_1
                   try clear hx307_2
                   try clear hx307_3
                   try clear hx307_4
                   try clear hx307_5
                   try clear hx308_0
                   try clear hx308_1
                   try clear hx308_2
                   try clear hx308_3
                   try clear hx308_4
                   try clear hx308_5
                   try clear hx310_0
                   try clear hx310_1
                   try clear hx310_2
                   try clear hx310_3
                   try clear hx310_4
                   try clear hx314_0
                   try clear hx314_1
                   try clear hx314_2
                   try clear hx315_0
                   try clear hx315_1
                   try clear hx315_2
                   try clear hx315_3
                   try clear hx315_4
                   try clear hx316_0
                   try clear hx316_1
                   try clear hx316_2
                   try clear hx316_3
                   try clear hx316_4
                   try clear hx320_0
                   try clear hx320_1
                   try clear hx320_2
                   try clear hx320_3
                   try clear hx320_4
                   try clear hx324_0
                   try clear hx324_1
                   try clear hx324_2
                   try clear hx324_3
                   try clear hx324_4
                   try clear p2
                   try clear p29
                   try clear p298
                   try clear p299
                   try clear p3
                   try clear p30
                   try clear p303
                   try clear p304
                   try clear p306
                   try clear p307
                   try clear p308
                   try clear p31
                   try clear p310
                   try clear p314
                   try clear p315
                   try clear p316
                   try clear p32
                   try clear p320
                   try clear p324
                   try clear p6
                   try clear q2
                   try clear q29
                   try clear q298
                   try clear q299
                   try clear q3
                   try clear q30
                   try clear q303
                   try clear q304
                   try clear q306
                   try clear q307
                   try clear q308
                   try clear q31
                   try clear q310
                   try clear q314
                   try clear q315
                   try clear q316
                   try clear q32
                   try clear q320
                   try clear q324
                   obtain ⟨x15_5, x17_5, rfl, HA, HK5, HO_1, HO_7, HO_12, HO_14, HO_15, HB⟩ := hrel
                   cases gk with
                   | zero => exact absurd HA.out (by simp [selvageref09_Values.l6])
                   | succ k5 =>
                    have H := HA.out
                    clear HA
                    simp only [selvageref09_Values.l6] at H
                    by_cases c41 : x17_5 < (t328.length : Int)
                    ·
                     rw [if_pos c41] at H
                     have c41b0 : decide (x17_5 < (t328.length : Int)) = true := decide_eq_true c41
                     clear c41
                     by_cases c42 : 0 ≤ x16_4
                     ·
                      rw [if_pos c42] at H
                      have c42b0 : decide (0 ≤ x16_4) = true := decide_eq_true c42
                      clear c42
                      by_cases c43 : x16_4 < (x12_3.length : Int)
                      ·
                       rw [if_pos c43] at H
                       have c43b0 : decide (x16_4 < (x12_3.length : Int)) = true := decide_eq_true c43
                       clear c43
                       by_cases c44 : ([] : List (S40)).length + ((rd_T40 x12_3 x16_4).f2).length < 2932031007402
                       ·
                        rw [if_pos c44] at H
                        have LMc44 := Aside0.mk c44
                        clear c44
                        obtain ⟨y334, hy334⟩ : ∃ y_ : List (S40), y_ = (([] : List (S40)) ++ ((rd_T40 x12_3 x16_4).f2)) := ⟨_, rfl⟩
                        replace H : (if 0 ≤ x17_5 then (if y334.length < 2932031007402 then (if x15_5.length < 2932031007402 then (selvageref09_Values.l6 k5 l0 l1 x5_1 x7_2 x11_2 x12_3 x13_3 t328 (x15_5 ++ [(⟨(rd_T40 x12_3 x16_4).f0, 0, (y334 ++ [(⟨(rd_T40 t328 x17_5).f0, (rd_T40 t328 x17_5).f1, (rd_T40 t328 x17_5).f2⟩ : S40)])⟩ : S40)]) x16_4 (wrap64 (x17_5 + 1))) else (none)) else (none)) else (none)) = some r := by first | (rw [hy334]; with_reducible exact H) | (have H2_ := (Option.bind_some _ _).symm.trans H; rw [hy334]; with_reducible exact H2_) | (have H2_ := (Option.bind_some _ _).symm.trans H; with_reducible exact H2_) | with_reducible exact H | (rw [hy334]; exact H) | exact H
                        have Ny334 := Aside0.mk hy334
                        clear hy334
                        by_cases c45 : 0 ≤ x17_5
                        ·
                         rw [if_pos c45] at H
                         have c45b0 : decide (0 ≤ x17_5) = true := decide_eq_true c45
                         clear c45
                         by_cases c46 : y334.length < 2932031007402
                         ·
                          rw [if_pos c46] at H
                          have LMc46 := Aside0.mk c46
                          clear c46
                          obtain ⟨y338, hy338⟩ : ∃ y_ : List (S40), y_ = (y334 ++ [(⟨(rd_T40 t328 x17_5).f0, (rd_T40 t328 x17_5).f1, (rd_T40 t328 x17_5).f2⟩ : S40)]) := ⟨_, rfl⟩
                          replace H : (if x15_5.length < 2932031007402 then (selvageref09_Values.l6 k5 l0 l1 x5_1 x7_2 x11_2 x12_3 x13_3 t328 (x15_5 ++ [(⟨(rd_T40 x12_3 x16_4).f0, 0, y338⟩ : S40)]) x16_4 (wrap64 (x17_5 + 1))) else (none)) = some r := by first | (rw [hy338]; with_reducible exact H) | (have H2_ := (Option.bind_some _ _).symm.trans H; rw [hy338]; with_reducible exact H2_) | (have H2_ := (Option.bind_some _ _).symm.trans H; with_reducible exact H2_) | with_reducible exact H | (rw [hy338]; exact H) | exact H
                          have Ny338 := Aside0.mk hy338
                          clear hy338
                          by_cases c47 : x15_5.length < 2932031007402
                          ·
                           rw [if_pos c47] at H
                           have LMc47 := Aside0.mk c47
                           clear c47
                           obtain ⟨y341, hy341⟩ : ∃ y_ : List (S40), y_ = (x15_5 ++ [(⟨(rd_T40 x12_3 x16_4).f0, 0, y338⟩ : S40)]) := ⟨_, rfl⟩
                           replace H : (selvageref09_Values.l6 k5 l0 l1 x5_1 x7_2 x11_2 x12_3 x13_3 t328 y341 x16_4 (wrap64 (x17_5 + 1))) = some r := by first | (rw [hy341]; with_reducible exact H) | (have H2_ := (Option.bind_some _ _).symm.trans H; rw [hy341]; with_reducible exact H2_) | (have H2_ := (Option.bind_some _ _).symm.trans H; with_reducible exact H2_) | with_reducible exact H | (rw [hy341]; exact H) | exact H
                           have Ny341 := Aside0.mk hy341
                           clear hy341
                           have H' := Aside0.mk H
                           clear H
                           obtain ⟨Ao48, co48, eo48⟩ := Kd.N_slice HO_14.out
                           subst eo48
                           have p331 : 0 ≤ (x16_4 : Int) := of_decide_eq_true (by first | (with_reducible assumption) | assumption)
                           have q331 : x16_4 < (x12_3.length : Int) := of_decide_eq_true (by first | (with_reducible assumption) | assumption)
                           obtain ⟨ad331, A331_2, c331_2, e331, hx331_0, hx331_1, hx331_2, hl331_2, hi331_2⟩ := at_T40 (Kd.N_reads' HO_12.out).2.2 x16_4 p331 q331
                           cases e331
                           obtain ⟨ce331, hce331, hMe331, hcc331⟩ := Kd.N_get HO_12.out z40 x16_4 p331 (by first | exact q331 | exact of_decide_eq_true (by first | (with_reducible assumption) | assumption) | (have e_ := (Kd.N_reads' HO_12.out).1; omega))
                           obtain ⟨ua331_2, uc331_2, rfl, ul331_2, ge331_2⟩ := k40_openF hMe331
                           have hv331_2 := hcc331 2 _ rfl
                           rw [add_field _ _ 2 (by omega)] at hv331_2
                           replace hv331_2 := Option.some.inj (hv331_2.symm.trans hx331_2)
                           injection hv331_2 with hva_ hvn_ hvc_
                           rw [hva_] at ge331_2
                           rw [hvc_] at ul331_2
                           have HL331_2 := Aside0.mk (show Kd.V k40 40 _ w.heap.size _ _ ((rd_T40 x12_3 x16_4).f2) from Kd.V_mk ul331_2 ge331_2)
                           clear hva_ hvn_ hvc_ ge331_2 ul331_2
                           clear hcc331 hce331
                           have HR331_2 := Aside0.mk hi331_2
                           have HC331_2 := Aside0.mk hl331_2
                           clear hi331_2 hl331_2
                           replace p331 := eq_true p331
                           replace q331 := eq_true q331
                           try go_wp2_with (first | ((with_reducible refine gate_dst (N := 18) rfl ?_); refine box_event ?hg (N := 18) ?hd (cs := #[.string (⟨#[]⟩ : ByteArray), .int .i64 0, .slice none 0 0]) (t := 40) ?hr ?_; (case hd => rfl); (case hg => rfl); (case hr => first | (go_simp; done) | (go_simp; rfl)); intro gb332 hg w49 hbox hb; have n0_ := Aside0.mk (Kd.V_below (Kd.V_elderB (by (with_reducible repeat (first | apply Kd.V_alloc | apply Kd.V_drewN | apply Kd.V_drew)); exact HO_1.out) gb332 (Nat.le_of_eq hg.symm)) hb); have n1_ := Aside0.mk (Kd.N_below (Kd.N_elderB (by (with_reducible repeat (first | apply Kd.N_alloc | apply Kd.N_drewN | apply Kd.N_drew)); exact HO_7.out) gb332 (Nat.le_of_eq hg.symm)) hb); have n2_ := Aside0.mk (Kd.N_below (Kd.N_elderB (by (with_reducible repeat (first | apply Kd.N_alloc | apply Kd.N_drewN | apply Kd.N_drew)); exact HO_12.out) gb332 (Nat.le_of_eq hg.symm)) hb); have n3_ := Aside0.mk (Kd.N_below (Kd.N_elderB (by (with_reducible repeat (first | apply Kd.N_alloc | apply Kd.N_drewN | apply Kd.N_drew)); exact HO_14.out) gb332 (Nat.le_of_eq hg.symm)) hb); have n4_ := Aside0.mk (Kd.N_below (Kd.N_elderB (by (with_reducible repeat (first | apply Kd.N_alloc | apply Kd.N_drewN | apply Kd.N_drew)); exact HO_15.out) gb332 (Nat.le_of_eq hg.symm)) hb); have n5_ := Aside0.mk (Kd.V_below (Kd.V_elderB (by (with_reducible repeat (first | apply Kd.V_alloc | apply Kd.V_drewN | apply Kd.V_drew)); exact HL331_2.out) gb332 (Nat.le_of_eq hg.symm)) hb); have n6_ := Aside0.mk (Kd.C_below (by repeat (first | (with_reducible exact HR331_2.out) | (with_reducible refine Kd.C_alloc ?_ _) | (with_reducible refine Kd.C_drewN ?_ _) | (with_reducible refine Kd.C_drew ?_) | exact HR331_2.out)) hb); have n7_ := Aside0.mk (below_step (by repeat (first | (with_reducible first | exact HB.out | apply below_alloc | apply pw_below_drewN | apply below_drew1) | exact HB.out)) hb); have n8_ := Aside0.mk (hbox); have n9_ := Aside0.mk ((by rw [hg]; exact (below_size (by repeat (first | (with_reducible first | exact HB.out | apply below_alloc | apply pw_below_drewN | apply below_drew1) | exact HB.out))) : w.heap.size ≤ gb332)); have n10_ := Aside0.mk ((by rw [hg]; exact (below_size (by repeat (first | (with_reducible first | exact HB.out | apply below_alloc | apply pw_below_drewN | apply below_drew1) | exact HB.out))) : w.heap.size ≤ gb332)); clear HO_1; clear HO_7; clear HO_12; clear HO_14; clear HO_15; clear HL331_2; clear HR331_2; clear HB; have HO_1 := n0_; have HO_7 := n1_; have HO_12 := n2_; have HO_14 := n3_; have HO_15 := n4_; have HL331_2 := n5_; have HR331_2 := n6_; have HB := n7_; have BK332 := n8_; have GW332 := n9_; have GE332 := n10_; clear n0_ n1_ n2_ n3_ n4_ n5_ n6_ n7_ n8_ n9_ n10_; clear hb hbox hg; have hcz50_0 : w49.cell? ⟨gb332, 0, none⟩ = some (.string (⟨#[]⟩ : ByteArray)) := (blk_cell BK332.out 0).trans rfl; have hcz50_1 : w49.cell? ⟨gb332, 1, none⟩ = some (.int .i64 0) := (blk_cell BK332.out 1).trans rfl; have hcz50_2 : w49.cell? ⟨gb332, 2, none⟩ = some (.slice none 0 0) := (blk_cell BK332.out 2).trans rfl; have hfz50_0 := blk_frozen BK332.out 0; have hfz50_1 := blk_frozen BK332.out 1; have hfz50_2 := blk_frozen BK332.out 2))
                           have n0_ : Aside0 (Kd.V k25 25 (((w49.setCell ⟨gb332, 0, none⟩ (.string ((rd_T40 x12_3 x16_4).f0))).setCell ⟨gb332, 1, none⟩ (.int .i64 0)).setCell ⟨gb332, 2, none⟩ (.slice none 0 0)) w.heap.size (fun k_ => (P1_ k_ ∨ w.heap.size ≤ k_) ∧ some k_ ≠ (u7 : Value).ownBlock ∧ some k_ ≠ (.slice (some ad331) x12_3.length co40 : Value).ownBlock ∧ some k_ ≠ (.slice Ao48 t328.length co48 : Value).ownBlock ∧ some k_ ≠ (u15 : Value).ownBlock ∧ k_ ≠ gb332) (.slice A1 l1.length c1) l1) := ⟨by (with_reducible repeat (first | apply Kd.V_alloc | apply Kd.V_drewN | apply Kd.V_drew)); exact Kd.V_mono (Kd.V_far (p := ⟨gb332, 2, none⟩) (Kd.V_far (p := ⟨gb332, 1, none⟩) (Kd.V_far (p := ⟨gb332, 0, none⟩) (Kd.V_mono HO_1.out (fun k_ hk => (⟨hk, hk.2⟩ : _ ∧ k_ ≠ gb332))) (fun _ hk => hk.2) (.string ((rd_T40 x12_3 x16_4).f0))) (fun _ hk => hk.2) (.int .i64 0)) (fun _ hk => hk.2) (.slice none 0 0)) (fun _ hk => ⟨hk.1.1.1, ⟨hk.1.1.2.1, ⟨hk.1.1.2.2.1, ⟨hk.1.1.2.2.2.1, ⟨hk.1.1.2.2.2.2, hk.1.2⟩⟩⟩⟩⟩)⟩
                           have n1_ : Aside0 (Kd.N k40 40 (((w49.setCell ⟨gb332, 0, none⟩ (.string ((rd_T40 x12_3 x16_4).f0))).setCell ⟨gb332, 1, none⟩ (.int .i64 0)).setCell ⟨gb332, 2, none⟩ (.slice none 0 0)) w.heap.size (fun k_ => (P1_ k_ ∨ w.heap.size ≤ k_) ∧ some k_ ≠ (.slice (some ad331) x12_3.length co40 : Value).ownBlock ∧ some k_ ≠ (.slice Ao48 t328.length co48 : Value).ownBlock ∧ some k_ ≠ (u15 : Value).ownBlock ∧ k_ ≠ gb332) u7 x7_2) := ⟨by (with_reducible repeat (first | apply Kd.N_alloc | apply Kd.N_drewN | apply Kd.N_drew)); exact Kd.N_mono (Kd.N_far (p := ⟨gb332, 2, none⟩) (Kd.N_far (p := ⟨gb332, 1, none⟩) (Kd.N_far (p := ⟨gb332, 0, none⟩) (Kd.N_mono HO_7.out (fun k_ hk => (⟨hk, hk.2⟩ : _ ∧ k_ ≠ gb332))) (fun _ hk => hk.2) (.string ((rd_T40 x12_3 x16_4).f0))) (fun _ hk => hk.2) (.int .i64 0)) (fun _ hk => hk.2) (.slice none 0 0)) (fun _ hk => ⟨hk.1.1.1, ⟨hk.1.1.2.1, ⟨hk.1.1.2.2.1, ⟨hk.1.1.2.2.2, hk.1.2⟩⟩⟩⟩)⟩
                           have n2_ : Aside0 (Kd.N k40 40 (((w49.setCell ⟨gb332, 0, none⟩ (.string ((rd_T40 x12_3 x16_4).f0))).setCell ⟨gb332, 1, none⟩ (.int .i64 0)).setCell ⟨gb332, 2, none⟩ (.slice none 0 0)) w.heap.size (fun k_ => (P1_ k_ ∨ w.heap.size ≤ k_) ∧ some k_ ≠ (u7 : Value).ownBlock ∧ some k_ ≠ (.slice Ao48 t328.length co48 : Value).ownBlock ∧ some k_ ≠ (u15 : Value).ownBlock ∧ k_ ≠ gb332) (.slice (some ad331) x12_3.length co40) x12_3) := ⟨by (with_reducible repeat (first | apply Kd.N_alloc | apply Kd.N_drewN | apply Kd.N_drew)); exact Kd.N_mono (Kd.N_far (p := ⟨gb332, 2, none⟩) (Kd.N_far (p := ⟨gb332, 1, none⟩) (Kd.N_far (p := ⟨gb332, 0, none⟩) (Kd.N_mono HO_12.out (fun k_ hk => (⟨hk, hk.2⟩ : _ ∧ k_ ≠ gb332))) (fun _ hk => hk.2) (.string ((rd_T40 x12_3 x16_4).f0))) (fun _ hk => hk.2) (.int .i64 0)) (fun _ hk => hk.2) (.slice none 0 0)) (fun _ hk => ⟨hk.1.1.1, ⟨hk.1.1.2.1, ⟨hk.1.1.2.2.1, ⟨hk.1.1.2.2.2, hk.1.2⟩⟩⟩⟩)⟩
                           have n3_ : Aside0 (Kd.N k40 40 (((w49.setCell ⟨gb332, 0, none⟩ (.string ((rd_T40 x12_3 x16_4).f0))).setCell ⟨gb332, 1, none⟩ (.int .i64 0)).setCell ⟨gb332, 2, none⟩ (.slice none 0 0)) w.heap.size (fun k_ => (P1_ k_ ∨ w.heap.size ≤ k_) ∧ some k_ ≠ (u7 : Value).ownBlock ∧ some k_ ≠ (.slice (some ad331) x12_3.length co40 : Value).ownBlock ∧ some k_ ≠ (u15 : Value).ownBlock ∧ k_ ≠ gb332) (.slice Ao48 t328.length co48) t328) := ⟨by (with_reducible repeat (first | apply Kd.N_alloc | apply Kd.N_drewN | apply Kd.N_drew)); exact Kd.N_mono (Kd.N_far (p := ⟨gb332, 2, none⟩) (Kd.N_far (p := ⟨gb332, 1, none⟩) (Kd.N_far (p := ⟨gb332, 0, none⟩) (Kd.N_mono HO_14.out (fun k_ hk => (⟨hk, hk.2⟩ : _ ∧ k_ ≠ gb332))) (fun _ hk => hk.2) (.string ((rd_T40 x12_3 x16_4).f0))) (fun _ hk => hk.2) (.int .i64 0)) (fun _ hk => hk.2) (.slice none 0 0)) (fun _ hk => ⟨hk.1.1.1, ⟨hk.1.1.2.1, ⟨hk.1.1.2.2.1, ⟨hk.1.1.2.2.2, hk.1.2⟩⟩⟩⟩)⟩
                           have n4_ : Aside0 (Kd.N k40 40 (((w49.setCell ⟨gb332, 0, none⟩ (.string ((rd_T40 x12_3 x16_4).f0))).setCell ⟨gb332, 1, none⟩ (.int .i64 0)).setCell ⟨gb332, 2, none⟩ (.slice none 0 0)) w.heap.size (fun k_ => (P1_ k_ ∨ w.heap.size ≤ k_) ∧ some k_ ≠ (u7 : Value).ownBlock ∧ some k_ ≠ (.slice (some ad331) x12_3.length co40 : Value).ownBlock ∧ some k_ ≠ (.slice Ao48 t328.length co48 : Value).ownBlock ∧ k_ ≠ gb332) u15 x15_5) := ⟨by (with_reducible repeat (first | apply Kd.N_alloc | apply Kd.N_drewN | apply Kd.N_drew)); exact Kd.N_mono (Kd.N_far (p := ⟨gb332, 2, none⟩) (Kd.N_far (p := ⟨gb332, 1, none⟩) (Kd.N_far (p := ⟨gb332, 0, none⟩) (Kd.N_mono HO_15.out (fun k_ hk => (⟨hk, hk.2⟩ : _ ∧ k_ ≠ gb332))) (fun _ hk => hk.2) (.string ((rd_T40 x12_3 x16_4).f0))) (fun _ hk => hk.2) (.int .i64 0)) (fun _ hk => hk.2) (.slice none 0 0)) (fun _ hk => ⟨hk.1.1.1, ⟨hk.1.1.2.1, ⟨hk.1.1.2.2.1, ⟨hk.1.1.2.2.2, hk.1.2⟩⟩⟩⟩)⟩
                           have n5_ : Aside0 (Kd.V k40 40 (((w49.setCell ⟨gb332, 0, none⟩ (.string ((rd_T40 x12_3 x16_4).f0))).setCell ⟨gb332, 1, none⟩ (.int .i64 0)).setCell ⟨gb332, 2, none⟩ (.slice none 0 0)) w.heap.size (fun k_ => (P1_ k_ ∨ w.heap.size ≤ k_) ∧ some k_ ≠ (u7 : Value).ownBlock ∧ some k_ ≠ (.slice (some ad331) x12_3.length co40 : Value).ownBlock ∧ some k_ ≠ (.slice Ao48 t328.length co48 : Value).ownBlock ∧ some k_ ≠ (u15 : Value).ownBlock ∧ k_ ≠ gb332) (.slice A331_2 ((rd_T40 x12_3 x16_4).f2).length c331_2) ((rd_T40 x12_3 x16_4).f2)) := ⟨by (with_reducible repeat (first | apply Kd.V_alloc | apply Kd.V_drewN | apply Kd.V_drew)); exact Kd.V_mono (Kd.V_far (p := ⟨gb332, 2, none⟩) (Kd.V_far (p := ⟨gb332, 1, none⟩) (Kd.V_far (p := ⟨gb332, 0, none⟩) (Kd.V_mono HL331_2.out (fun k_ hk => (⟨hk, hk.2⟩ : _ ∧ k_ ≠ gb332))) (fun _ hk => hk.2) (.string ((rd_T40 x12_3 x16_4).f0))) (fun _ hk => hk.2) (.int .i64 0)) (fun _ hk => hk.2) (.slice none 0 0)) (fun _ hk => ⟨hk.1.1.1.1, ⟨hk.1.1.1.2.1, ⟨hk.1.1.2, ⟨hk.1.1.1.2.2.1, ⟨hk.1.1.1.2.2.2, hk.1.2⟩⟩⟩⟩⟩)⟩
                           have n6_ : Aside0 ((((w49.setCell ⟨gb332, 0, none⟩ (.string ((rd_T40 x12_3 x16_4).f0))).setCell ⟨gb332, 1, none⟩ (.int .i64 0)).setCell ⟨gb332, 2, none⟩ (.slice none 0 0)).heap[gb332]? = some (.cells #[.string ((rd_T40 x12_3 x16_4).f0), .int .i64 0, .slice none 0 0] 40 (0, 0))) := ⟨by (with_reducible repeat (first | refine blk_drewN ?_ _ | refine blk_drew ?_ | refine blk_alloc ?_ _)); refine blk_put (cs := #[.string ((rd_T40 x12_3 x16_4).f0), .int .i64 0, .slice none 0 0]) ?_ 2 _ rfl; (with_reducible repeat (first | refine blk_drewN ?_ _ | refine blk_drew ?_ | refine blk_alloc ?_ _)); refine blk_put (cs := #[.string ((rd_T40 x12_3 x16_4).f0), .int .i64 0, .slice none 0 0]) ?_ 1 _ rfl; (with_reducible repeat (first | refine blk_drewN ?_ _ | refine blk_drew ?_ | refine blk_alloc ?_ _)); refine blk_put (cs := #[.string (⟨#[]⟩ : ByteArray), .int .i64 0, .slice none 0 0]) ?_ 0 _ rfl; (with_reducible repeat (first | refine blk_drewN ?_ _ | refine blk_drew ?_ | refine blk_alloc ?_ _)); exact BK332.out⟩
                           have n7_ : Aside0 (Below w.heap.size w (((w49.setCell ⟨gb332, 0, none⟩ (.string ((rd_T40 x12_3 x16_4).f0))).setCell ⟨gb332, 1, none⟩ (.int .i64 0)).setCell ⟨gb332, 2, none⟩ (.slice none 0 0))) := ⟨by repeat ((with_reducible first | exact HB.out | apply below_alloc | apply pw_below_drewN | apply below_drew1 | refine below_set ?_ GE332.out))⟩
                           (try clear HO_1)
                           (try clear HO_7)
                           (try clear HO_12)
                           (try clear HO_14)
                           (try clear HO_15)
                           (try clear HL331_2)
                           (try clear BK332)
                           (try clear HB)
                           generalize (((w49.setCell ⟨gb332, 0, none⟩ (.string ((rd_T40 x12_3 x16_4).f0))).setCell ⟨gb332, 1, none⟩ (.int .i64 0)).setCell ⟨gb332, 2, none⟩ (.slice none 0 0)) = w51 at n0_ n1_ n2_ n3_ n4_ n5_ n6_ n7_ ⊢
                           have HO_1 := n0_
                           have HO_7 := n1_
                           have HO_12 := n2_
                           have HO_14 := n3_
                           have HO_15 := n4_
                           have HL331_2 := n5_
                           have BK332 := n6_
                           have HB := n7_
                           clear n0_ n1_ n2_ n3_ n4_ n5_ n6_ n7_
                           have n0_ := Aside0.mk (Kd.V_drew HO_1.out)
                           have n1_ := Aside0.mk (Kd.N_drew HO_7.out)
                           have n2_ := Aside0.mk (Kd.N_drew HO_12.out)
                           have n3_ := Aside0.mk (Kd.N_drew HO_14.out)
                           have n4_ := Aside0.mk (Kd.N_drew HO_15.out)
                           have n5_ := Aside0.mk (Kd.V_drew HL331_2.out)
                           have n6_ := Aside0.mk (blk_drew BK332.out)
                           have n7_ := Aside0.mk (below_drew1 HB.out)
                           clear HO_1
                           clear HO_7
                           clear HO_12
                           clear HO_14
                           clear HO_15
                           clear HL331_2
                           clear BK332
                           clear HB
                           have HO_1 := n0_
                           have HO_7 := n1_
                           have HO_12 := n2_
                           have HO_14 := n3_
                           have HO_15 := n4_
                           have HL331_2 := n5_
                           have BK332 := n6_
                           have HB := n7_
                           clear n0_ n1_ n2_ n3_ n4_ n5_ n6_ n7_
                           have p333 : 0 ≤ (x16_4 : Int) := of_decide_eq_true (by first | (with_reducible assumption) | assumption)
                           have q333 : x16_4 < (x12_3.length : Int) := of_decide_eq_true (by first | (with_reducible assumption) | assumption)
                           obtain ⟨ad333, A333_2, c333_2, e333, hx333_0, hx333_1, hx333_2, hl333_2, hi333_2⟩ := at_T40 (Kd.N_reads' HO_12.out).2.2 x16_4 p333 q333
                           obtain rfl : ad331 = ad333 := (by injection e333)
                           obtain ⟨ce333, hce333, hMe333, hcc333⟩ := Kd.N_get HO_12.out z40 x16_4 p333 (by first | exact q333 | exact of_decide_eq_true (by first | (with_reducible assumption) | assumption) | (have e_ := (Kd.N_reads' HO_12.out).1; omega))
                           obtain ⟨ua333_2, uc333_2, rfl, ul333_2, ge333_2⟩ := k40_openF hMe333
                           have hv333_2 := hcc333 2 _ rfl
                           rw [add_field _ _ 2 (by omega)] at hv333_2
                           replace hv333_2 := Option.some.inj (hv333_2.symm.trans hx333_2)
                           injection hv333_2 with hva_ hvn_ hvc_
                           rw [hva_] at ge333_2
                           rw [hvc_] at ul333_2
                           have HL333_2 := Aside0.mk (show Kd.V k40 40 _ w.heap.size _ _ ((rd_T40 x12_3 x16_4).f2) from Kd.V_mk ul333_2 ge333_2)
                           clear hva_ hvn_ hvc_ ge333_2 ul333_2
                           clear hcc333 hce333
                           have HR333_2 := Aside0.mk hi333_2
                           have HC333_2 := Aside0.mk hl333_2
                           clear hi333_2 hl333_2
                           replace p333 := eq_true p333
                           replace q333 := eq_true q333
                           refine start_ (n := 10) (S := fun w' => w'.cell? ⟨gb332, 0, none⟩ = some (.string ((rd_T40 x12_3 x16_4).f0)) ∧ w'.cell? ⟨gb332, 1, none⟩ = some (.int .i64 0) ∧ w'.cell? ⟨gb332, 2, none⟩ = some (.slice none 0 0) ∧ w'.cell? (ad331.add ((x16_4).toNat * 3)) = some (.string ((rd_T40 x12_3 x16_4).f0)) ∧ w'.cell? ⟨(ad331.add ((x16_4).toNat * 3)).block, (ad331.add ((x16_4).toNat * 3)).off + 1, none⟩ = some (.int .i64 ((rd_T40 x12_3 x16_4).f1)) ∧ w'.cell? ⟨(ad331.add ((x16_4).toNat * 3)).block, (ad331.add ((x16_4).toNat * 3)).off + 2, none⟩ = some (.slice A333_2 ((rd_T40 x12_3 x16_4).f2).length c333_2)) (ds := [7, 9]) #[false, false, false, false, false, false, false, false, false, false] (by kernel_rfl) rfl rfl ⟨(blk_cell BK332.out 0).trans rfl, (blk_cell BK332.out 1).trans rfl, (blk_cell BK332.out 2).trans rfl, hx333_0, hx333_1, hx333_2⟩ (fun hHeld => ?_); refine with_tabW selvageref09_Values.tab38 selvageref09_Values.bits38 (fun HT_ HW_ => ?_)
                           generalize w51.drew = w52 at HO_1 HO_7 HO_12 HO_14 HO_15 HL331_2 BK332 HB HL333_2 HR333_2 hx333_0 hx333_1 hx333_2 hHeld ⊢
                           refine pure_ (i := 0) (N := some 142) (v := ?_) (a' := ?_) #[true, false, false, false, false, false, false, false, false, false] rfl rfl (any_of HT_.out (by kernel_rfl)) (fun _ _ _ h => h) (Or.inl ⟨by rfl, ?_⟩) ?_ ?_
                           rotate_left
                           ·
                            intro w'
                            go_simp
                            with_reducible rfl
                           rotate_left
                           ·
                            simp only [Act.put, List.setIfInBounds_toArray, List.set_cons_zero, List.set_cons_succ, i64_w, i32_w]
                            rfl
                           refine pure_ (i := 2) (N := some 144) (v := ?_) (a' := ?_) #[true, false, true, false, false, false, false, false, false, false] rfl rfl (any_of HT_.out (by kernel_rfl)) (fun _ _ _ h => h) (Or.inl ⟨by rfl, ?_⟩) ?_ ?_
                           rotate_left
                           ·
                            intro w'
                            go_simp
                            with_reducible rfl
                           rotate_left
                           ·
                            simp only [Act.put, List.setIfInBounds_toArray, List.set_cons_zero, List.set_cons_succ, i64_w, i32_w]
                            rfl
                           refine pure_ (i := 3) (N := some 145) (v := ?_) (a' := ?_) #[true, false, true, true, false, false, false, false, false, false] rfl rfl (any_of HT_.out (by kernel_rfl)) (fun _ _ _ h => h) (Or.inl ⟨by rfl, ?_⟩) ?_ ?_
                           rotate_left
                           ·
                            intro w'
                            go_simp
                            with_reducible rfl
                           rotate_left
                           ·
                            simp only [Act.put, List.setIfInBounds_toArray, List.set_cons_zero, List.set_cons_succ, i64_w, i32_w]
                            rfl
                           refine pure_ (i := 4) (N := some 146) (v := ?_) (a' := ?_) #[true, false, true, true, true, false, false, false, false, false] rfl rfl (any_of HT_.out (by kernel_rfl)) (fun _ _ _ h => h) (Or.inl ⟨by rfl, ?_⟩) ?_ ?_
                           rotate_left
                           ·
                            intro w'
                            go_simp
                            with_reducible rfl
                           rotate_left
                           ·
                            simp only [Act.put, List.setIfInBounds_toArray, List.set_cons_zero, List.set_cons_succ, i64_w, i32_w]
                            rfl
                           refine pure_ (i := 5) (N := some 147) (v := ?_) (a' := ?_) #[true, false, true, true, true, true, false, false, false, false] rfl rfl (any_of HT_.out (by kernel_rfl)) (fun _ _ _ h => h) (Or.inl ⟨by rfl, ?_⟩) ?_ ?_
                           rotate_left
                           ·
                            intro w'
                            go_simp
                            with_reducible rfl
                           rotate_left
                           ·
                            simp only [Act.put, List.setIfInBounds_toArray, List.set_cons_zero, List.set_cons_succ, i64_w, i32_w]
                            rfl
                           refine take_ (i := 1) (N := some 143) (v := ?_) (a' := ?_) #[true, true, true, true, true, true, false, false, false, false] rfl rfl (take_ofW HT_.out HW_.out (by kernel_rfl)) (fun _ _ _ h => h) (Or.inl ⟨by rfl, ?_⟩) hHeld ?_ ?_
                           rotate_left
                           ·
                            rintro w' ⟨s0, s1, s2, s3, s4, s5⟩
                            go_simp
                            with_reducible rfl
                           rotate_left
                           ·
                            simp only [Act.put, List.setIfInBounds_toArray, List.set_cons_zero, List.set_cons_succ, i64_w, i32_w]
                            rfl
                           refine take_ (i := 6) (N := some 148) (v := ?_) (a' := ?_) #[true, true, true, true, true, true, true, false, false, false] rfl rfl (take_ofW HT_.out HW_.out (by kernel_rfl)) (fun _ _ _ h => h) (Or.inl ⟨by rfl, ?_⟩) hHeld ?_ ?_
                           rotate_left
                           ·
                            rintro w' ⟨s0, s1, s2, s3, s4, s5⟩
                            go_simp
                            with_reducible rfl
                           rotate_left
                           ·
                            simp only [Act.put, List.setIfInBounds_toArray, List.set_cons_zero, List.set_cons_succ, i64_w, i32_w]
                            rfl
                           refine last_ (i := 7) (N := some 149) #[true, true, true, true, true, true, true, true, false, false] rfl rfl (one_of HT_.out (by kernel_rfl)) (by decide) (fun K hK => ?_)
                           refine Kd.N_append_rows_step k40 (w0 := w) w.heap.size (by rfl) (.tmp 143) (.tmp 148) 36 40 (.agg #[(.string ⟨#[]⟩), (.int .i64 0), (.slice none 0 0)]) 48 rfl Try.underlying36 info40 rfl (by decide) (by omega) (.slice none 0 0) ([] : List (S40)) ((rd_T40 x12_3 x16_4).f2) _ _ _ (fun k_ => (P1_ k_ ∨ w.heap.size ≤ k_) ∧ some k_ ≠ (u7 : Value).ownBlock ∧ some k_ ≠ (.slice (some ad331) x12_3.length co40 : Value).ownBlock ∧ some k_ ≠ (.slice Ao48 t328.length co48 : Value).ownBlock ∧ some k_ ≠ (u15 : Value).ownBlock ∧ k_ ≠ gb332) (fun k_ => ((fun k_ => (P1_ k_ ∨ w.heap.size ≤ k_) ∧ some k_ ≠ (u7 : Value).ownBlock ∧ some k_ ≠ (.slice (some ad331) x12_3.length co40 : Value).ownBlock ∧ some k_ ≠ (.slice Ao48 t328.length co48 : Value).ownBlock ∧ some k_ ≠ (u15 : Value).ownBlock ∧ k_ ≠ gb332)) k_ ∧ some k_ ≠ (.slice none 0 0 : Value).ownBlock) rfl rfl ?aO ?aR (fun _ hk => hk) ?aF ?aB ?aS ?aL ?_
                           (case aR => exact (by skip; exact Kd.V_F (Kd.V_mono (ok' := (fun k_ => ((fun k_ => (P1_ k_ ∨ w.heap.size ≤ k_) ∧ some k_ ≠ (u7 : Value).ownBlock ∧ some k_ ≠ (.slice (some ad331) x12_3.length co40 : Value).ownBlock ∧ some k_ ≠ (.slice Ao48 t328.length co48 : Value).ownBlock ∧ some k_ ≠ (u15 : Value).ownBlock ∧ k_ ≠ gb332)) k_ ∧ some k_ ≠ (.slice none 0 0 : Value).ownBlock)) (HL333_2.out) (fun k_ hk => ⟨⟨hk.1.1, ⟨hk.1.2.1, ⟨hk.2, ⟨hk.1.2.2.1, ⟨hk.1.2.2.2.1, hk.1.2.2.2.2⟩⟩⟩⟩⟩, (by simp [Value.ownBlock])⟩))))
                           (case aB => exact (by repeat ((with_reducible first | exact HB.out | apply below_alloc | apply pw_below_drewN | apply below_drew1 | refine below_set ?_ GE332.out))))
                           (case aF => exact (fun k_ hk => ⟨(.inr (Nat.le_trans (below_size (by repeat ((with_reducible first | exact HB.out | apply below_alloc | apply pw_below_drewN | apply below_drew1 | refine below_set ?_ GE332.out)))) hk)), Kd.fresh' (Kd.N_lt (by (with_reducible repeat (first | apply Kd.N_alloc | apply Kd.N_drewN | apply Kd.N_drew)); exact HO_7.out)) k_ hk, Kd.fresh' (Kd.N_lt (by (with_reducible repeat (first | apply Kd.N_alloc | apply Kd.N_drewN | apply Kd.N_drew)); exact HO_12.out)) k_ hk, Kd.fresh' (Kd.N_lt (by (with_reducible repeat (first | apply Kd.N_alloc | apply Kd.N_drewN | apply Kd.N_drew)); exact HO_14.out)) k_ hk, Kd.fresh' (Kd.N_lt (by (with_reducible repeat (first | apply Kd.N_alloc | apply Kd.N_drewN | apply Kd.N_drew)); exact HO_15.out)) k_ hk, Kd.freshB (g := gb332) (o := .cells #[.string ((rd_T40 x12_3 x16_4).f0), .int .i64 0, .slice none 0 0] 40 (0, 0)) (by (with_reducible repeat (first | refine blk_drewN ?_ _ | refine blk_drew ?_ | refine blk_alloc ?_ _)); exact BK332.out) k_ hk⟩))
                           (case aO => exact ((Kd.N_nil _ _ _ _ (fun k_ => (P1_ k_ ∨ w.heap.size ≤ k_) ∧ some k_ ≠ (u7 : Value).ownBlock ∧ some k_ ≠ (.slice (some ad331) x12_3.length co40 : Value).ownBlock ∧ some k_ ≠ (.slice Ao48 t328.length co48 : Value).ownBlock ∧ some k_ ≠ (u15 : Value).ownBlock ∧ k_ ≠ gb332))))
                           (case aS => exact (below_size (by repeat ((with_reducible first | exact HB.out | apply below_alloc | apply pw_below_drewN | apply below_drew1 | refine below_set ?_ GE332.out)))))
                           (case aL => have := LMc44.out; omega)
                           intro v335 w53 ho hb hg hat
                           rw [← Ny334.out] at ho
                           have n0_ := Aside0.mk (Kd.V_afterv (Kd.V_apart_nil (by (with_reducible repeat (first | apply Kd.V_alloc | apply Kd.V_drewN | apply Kd.V_drew)); exact HO_1.out)) hg hat)
                           have n1_ := Aside0.mk (Kd.N_afterv (Kd.N_apart_nil (by (with_reducible repeat (first | apply Kd.N_alloc | apply Kd.N_drewN | apply Kd.N_drew)); exact HO_7.out)) hg hat)
                           have n2_ := Aside0.mk (Kd.N_afterv (Kd.N_apart_nil (by (with_reducible repeat (first | apply Kd.N_alloc | apply Kd.N_drewN | apply Kd.N_drew)); exact HO_12.out)) hg hat)
                           have n3_ := Aside0.mk (Kd.N_afterv (Kd.N_apart_nil (by (with_reducible repeat (first | apply Kd.N_alloc | apply Kd.N_drewN | apply Kd.N_drew)); exact HO_14.out)) hg hat)
                           have n4_ := Aside0.mk (Kd.N_afterv (Kd.N_apart_nil (by (with_reducible repeat (first | apply Kd.N_alloc | apply Kd.N_drewN | apply Kd.N_drew)); exact HO_15.out)) hg hat)
                           have n5_ := Aside0.mk (Kd.V_afterv (Kd.V_apart_nil (by (with_reducible repeat (first | apply Kd.V_alloc | apply Kd.V_drewN | apply Kd.V_drew)); exact HL331_2.out)) hg hat)
                           have n6_ := Aside0.mk (blk_grown (g := gb332) (o := .cells #[.string ((rd_T40 x12_3 x16_4).f0), .int .i64 0, .slice none 0 0] 40 (0, 0)) (by (with_reducible repeat (first | refine blk_drewN ?_ _ | refine blk_drew ?_ | refine blk_alloc ?_ _)); exact BK332.out) hg (by simp [Value.ownBlock]))
                           have n7_ := Aside0.mk (Kd.V_afterv (Kd.V_apart_nil (by (with_reducible repeat (first | apply Kd.V_alloc | apply Kd.V_drewN | apply Kd.V_drew)); exact HL333_2.out)) hg hat)
                           have n8_ := Aside0.mk (hb)
                           have n9_ := Aside0.mk (ho)
                           clear HO_1
                           clear HO_7
                           clear HO_12
                           clear HO_14
                           clear HO_15
                           clear HL331_2
                           clear BK332
                           clear HL333_2
                           clear HB
                           have HO_1 := n0_
                           have HO_7 := n1_
                           have HO_12 := n2_
                           have HO_14 := n3_
                           have HO_15 := n4_
                           have HL331_2 := n5_
                           have BK332 := n6_
                           have HL333_2 := n7_
                           have HB := n8_
                           have HO336 := n9_
                           clear n0_ n1_ n2_ n3_ n4_ n5_ n6_ n7_ n8_ n9_
                           clear ho hb hg hat
                           obtain ⟨Ao54, co54, eo54⟩ := Kd.N_slice HO336.out
                           (subst eo54)
                           refine hK.out _ _ ?_
                           clear hK K
                           refine norm_ (a' := ?_) ?_ ?_
                           rotate_left
                           ·
                            show Act.put _ (some 149) _ = _
                            simp only [Act.put, List.setIfInBounds_toArray, List.set_cons_zero, List.set_cons_succ, i64_w, i32_w]
                            rfl
                           refine pure_ (i := 8) (N := some 150) (v := ?_) (a' := ?_) #[true, true, true, true, true, true, true, true, true, false] rfl rfl (any_of HT_.out (by kernel_rfl)) (fun _ _ _ h => h) (Or.inl ⟨by rfl, ?_⟩) ?_ ?_
                           rotate_left
                           ·
                            intro w'
                            go_simp
                            with_reducible rfl
                           rotate_left
                           ·
                            simp only [Act.put, List.setIfInBounds_toArray, List.set_cons_zero, List.set_cons_succ, i64_w, i32_w]
                            rfl
                           refine last_ (i := 9) (N := none) #[true, true, true, true, true, true, true, true, true, true] rfl rfl (one_of HT_.out (by kernel_rfl)) (by decide) (fun K hK => ?_)
                           have hs55 : w53.cell? ⟨gb332, 2, none⟩ = some (.slice none 0 0) := (blk_cell BK332.out 2).trans rfl
                           have hfs55 := blk_frozen BK332.out 2
                           refine skip_ (w1 := ?_) (by rfl) rfl ?_ ?_
                           rotate_left
                           ·
                            go_simp
                            rfl
                           refine hK.out _ _ ?_
                           clear hK K
                           refine done_ (done_of HT_.out (by kernel_rfl)) ?_
                           try go_wp2
                           have n0_ : Aside0 (Kd.V k25 25 (w53.setCell ⟨gb332, 2, none⟩ (.slice Ao54 y334.length co54)) w.heap.size (fun k_ => (P1_ k_ ∨ w.heap.size ≤ k_) ∧ some k_ ≠ (u7 : Value).ownBlock ∧ some k_ ≠ (.slice (some ad331) x12_3.length co40 : Value).ownBlock ∧ some k_ ≠ (.slice Ao48 t328.length co48 : Value).ownBlock ∧ some k_ ≠ (u15 : Value).ownBlock ∧ some k_ ≠ (.slice Ao54 y334.length co54 : Value).ownBlock ∧ k_ ≠ gb332) (.slice A1 l1.length c1) l1) := ⟨by (with_reducible repeat (first | apply Kd.V_alloc | apply Kd.V_drewN | apply Kd.V_drew)); exact Kd.V_mono (Kd.V_far (p := ⟨gb332, 2, none⟩) (Kd.V_mono HO_1.out (fun k_ hk => (⟨hk, hk.1.2.2.2.2.2⟩ : _ ∧ k_ ≠ gb332))) (fun _ hk => hk.2) (.slice Ao54 y334.length co54)) (fun _ hk => ⟨hk.1.1.1, ⟨hk.1.1.2.1, ⟨hk.1.1.2.2.1, ⟨hk.1.1.2.2.2.1, ⟨hk.1.1.2.2.2.2.1, ⟨hk.1.2, hk.1.1.2.2.2.2.2⟩⟩⟩⟩⟩⟩)⟩
                           have n1_ : Aside0 (Kd.N k40 40 (w53.setCell ⟨gb332, 2, none⟩ (.slice Ao54 y334.length co54)) w.heap.size (fun k_ => (P1_ k_ ∨ w.heap.size ≤ k_) ∧ some k_ ≠ (.slice (some ad331) x12_3.length co40 : Value).ownBlock ∧ some k_ ≠ (.slice Ao48 t328.length co48 : Value).ownBlock ∧ some k_ ≠ (u15 : Value).ownBlock ∧ some k_ ≠ (.slice Ao54 y334.length co54 : Value).ownBlock ∧ k_ ≠ gb332) u7 x7_2) := ⟨by (with_reducible repeat (first | apply Kd.N_alloc | apply Kd.N_drewN | apply Kd.N_drew)); exact Kd.N_mono (Kd.N_far (p := ⟨gb332, 2, none⟩) (Kd.N_mono HO_7.out (fun k_ hk => (⟨hk, hk.1.2.2.2.2⟩ : _ ∧ k_ ≠ gb332))) (fun _ hk => hk.2) (.slice Ao54 y334.length co54)) (fun _ hk => ⟨hk.1.1.1, ⟨hk.1.1.2.1, ⟨hk.1.1.2.2.1, ⟨hk.1.1.2.2.2.1, ⟨hk.1.2, hk.1.1.2.2.2.2⟩⟩⟩⟩⟩)⟩
                           have n2_ : Aside0 (Kd.N k40 40 (w53.setCell ⟨gb332, 2, none⟩ (.slice Ao54 y334.length co54)) w.heap.size (fun k_ => (P1_ k_ ∨ w.heap.size ≤ k_) ∧ some k_ ≠ (u7 : Value).ownBlock ∧ some k_ ≠ (.slice Ao48 t328.length co48 : Value).ownBlock ∧ some k_ ≠ (u15 : Value).ownBlock ∧ some k_ ≠ (.slice Ao54 y334.length co54 : Value).ownBlock ∧ k_ ≠ gb332) (.slice (some ad331) x12_3.length co40) x12_3) := ⟨by (with_reducible repeat (first | apply Kd.N_alloc | apply Kd.N_drewN | apply Kd.N_drew)); exact Kd.N_mono (Kd.N_far (p := ⟨gb332, 2, none⟩) (Kd.N_mono HO_12.out (fun k_ hk => (⟨hk, hk.1.2.2.2.2⟩ : _ ∧ k_ ≠ gb332))) (fun _ hk => hk.2) (.slice Ao54 y334.length co54)) (fun _ hk => ⟨hk.1.1.1, ⟨hk.1.1.2.1, ⟨hk.1.1.2.2.1, ⟨hk.1.1.2.2.2.1, ⟨hk.1.2, hk.1.1.2.2.2.2⟩⟩⟩⟩⟩)⟩
                           have n3_ : Aside0 (Kd.N k40 40 (w53.setCell ⟨gb332, 2, none⟩ (.slice Ao54 y334.length co54)) w.heap.size (fun k_ => (P1_ k_ ∨ w.heap.size ≤ k_) ∧ some k_ ≠ (u7 : Value).ownBlock ∧ some k_ ≠ (.slice (some ad331) x12_3.length co40 : Value).ownBlock ∧ some k_ ≠ (u15 : Value).ownBlock ∧ some k_ ≠ (.slice Ao54 y334.length co54 : Value).ownBlock ∧ k_ ≠ gb332) (.slice Ao48 t328.length co48) t328) := ⟨by (with_reducible repeat (first | apply Kd.N_alloc | apply Kd.N_drewN | apply Kd.N_drew)); exact Kd.N_mono (Kd.N_far (p := ⟨gb332, 2, none⟩) (Kd.N_mono HO_14.out (fun k_ hk => (⟨hk, hk.1.2.2.2.2⟩ : _ ∧ k_ ≠ gb332))) (fun _ hk => hk.2) (.slice Ao54 y334.length co54)) (fun _ hk => ⟨hk.1.1.1, ⟨hk.1.1.2.1, ⟨hk.1.1.2.2.1, ⟨hk.1.1.2.2.2.1, ⟨hk.1.2, hk.1.1.2.2.2.2⟩⟩⟩⟩⟩)⟩
                           have n4_ : Aside0 (Kd.N k40 40 (w53.setCell ⟨gb332, 2, none⟩ (.slice Ao54 y334.length co54)) w.heap.size (fun k_ => (P1_ k_ ∨ w.heap.size ≤ k_) ∧ some k_ ≠ (u7 : Value).ownBlock ∧ some k_ ≠ (.slice (some ad331) x12_3.length co40 : Value).ownBlock ∧ some k_ ≠ (.slice Ao48 t328.length co48 : Value).ownBlock ∧ some k_ ≠ (.slice Ao54 y334.length co54 : Value).ownBlock ∧ k_ ≠ gb332) u15 x15_5) := ⟨by (with_reducible repeat (first | apply Kd.N_alloc | apply Kd.N_drewN | apply Kd.N_drew)); exact Kd.N_mono (Kd.N_far (p := ⟨gb332, 2, none⟩) (Kd.N_mono HO_15.out (fun k_ hk => (⟨hk, hk.1.2.2.2.2⟩ : _ ∧ k_ ≠ gb332))) (fun _ hk => hk.2) (.slice Ao54 y334.length co54)) (fun _ hk => ⟨hk.1.1.1, ⟨hk.1.1.2.1, ⟨hk.1.1.2.2.1, ⟨hk.1.1.2.2.2.1, ⟨hk.1.2, hk.1.1.2.2.2.2⟩⟩⟩⟩⟩)⟩
                           have n5_ : Aside0 (Kd.V k40 40 (w53.setCell ⟨gb332, 2, none⟩ (.slice Ao54 y334.length co54)) w.heap.size (fun k_ => (P1_ k_ ∨ w.heap.size ≤ k_) ∧ some k_ ≠ (u7 : Value).ownBlock ∧ some k_ ≠ (.slice (some ad331) x12_3.length co40 : Value).ownBlock ∧ some k_ ≠ (.slice Ao48 t328.length co48 : Value).ownBlock ∧ some k_ ≠ (u15 : Value).ownBlock ∧ some k_ ≠ (.slice Ao54 y334.length co54 : Value).ownBlock ∧ k_ ≠ gb332) (.slice A331_2 ((rd_T40 x12_3 x16_4).f2).length c331_2) ((rd_T40 x12_3 x16_4).f2)) := ⟨by (with_reducible repeat (first | apply Kd.V_alloc | apply Kd.V_drewN | apply Kd.V_drew)); exact Kd.V_mono (Kd.V_far (p := ⟨gb332, 2, none⟩) (Kd.V_mono HL331_2.out (fun k_ hk => (⟨hk, hk.1.2.2.2.2.2⟩ : _ ∧ k_ ≠ gb332))) (fun _ hk => hk.2) (.slice Ao54 y334.length co54)) (fun _ hk => ⟨hk.1.1.1, ⟨hk.1.1.2.1, ⟨hk.1.1.2.2.1, ⟨hk.1.1.2.2.2.1, ⟨hk.1.1.2.2.2.2.1, ⟨hk.1.2, hk.1.1.2.2.2.2.2⟩⟩⟩⟩⟩⟩)⟩
                           have n6_ : Aside0 (Kd.V k40 40 (w53.setCell ⟨gb332, 2, none⟩ (.slice Ao54 y334.length co54)) w.heap.size (fun k_ => (P1_ k_ ∨ w.heap.size ≤ k_) ∧ some k_ ≠ (u7 : Value).ownBlock ∧ some k_ ≠ (.slice (some ad331) x12_3.length co40 : Value).ownBlock ∧ some k_ ≠ (.slice Ao48 t328.length co48 : Value).ownBlock ∧ some k_ ≠ (u15 : Value).ownBlock ∧ some k_ ≠ (.slice Ao54 y334.length co54 : Value).ownBlock ∧ k_ ≠ gb332) (.slice A333_2 ((rd_T40 x12_3 x16_4).f2).length c333_2) ((rd_T40 x12_3 x16_4).f2)) := ⟨by (with_reducible repeat (first | apply Kd.V_alloc | apply Kd.V_drewN | apply Kd.V_drew)); exact Kd.V_mono (Kd.V_far (p := ⟨gb332, 2, none⟩) (Kd.V_mono HL333_2.out (fun k_ hk => (⟨hk, hk.1.1.2.2.2.2⟩ : _ ∧ k_ ≠ gb332))) (fun _ hk => hk.2) (.slice Ao54 y334.length co54)) (fun _ hk => ⟨hk.1.1.1.1, ⟨hk.1.1.1.2.1, ⟨hk.1.1.2, ⟨hk.1.1.1.2.2.1, ⟨hk.1.1.1.2.2.2.1, ⟨hk.1.2, hk.1.1.1.2.2.2.2⟩⟩⟩⟩⟩⟩)⟩
                           have n7_ : Aside0 (Kd.N k40 40 (w53.setCell ⟨gb332, 2, none⟩ (.slice Ao54 y334.length co54)) w.heap.size (fun k_ => (P1_ k_ ∨ w.heap.size ≤ k_) ∧ some k_ ≠ (u7 : Value).ownBlock ∧ some k_ ≠ (.slice (some ad331) x12_3.length co40 : Value).ownBlock ∧ some k_ ≠ (.slice Ao48 t328.length co48 : Value).ownBlock ∧ some k_ ≠ (u15 : Value).ownBlock ∧ k_ ≠ gb332) (.slice Ao54 y334.length co54) y334) := ⟨by (with_reducible repeat (first | apply Kd.N_alloc | apply Kd.N_drewN | apply Kd.N_drew)); exact Kd.N_mono (Kd.N_far (p := ⟨gb332, 2, none⟩) (Kd.N_mono HO336.out (fun k_ hk => (⟨hk, hk.2.2.2.2.2⟩ : _ ∧ k_ ≠ gb332))) (fun _ hk => hk.2) (.slice Ao54 y334.length co54)) (fun _ hk => ⟨hk.1.1, ⟨hk.1.2.1, ⟨hk.1.2.2.1, ⟨hk.1.2.2.2.1, ⟨hk.1.2.2.2.2.1, hk.1.2.2.2.2.2⟩⟩⟩⟩⟩)⟩
                           have n8_ : Aside0 ((w53.setCell ⟨gb332, 2, none⟩ (.slice Ao54 y334.length co54)).heap[gb332]? = some (.cells #[.string ((rd_T40 x12_3 x16_4).f0), .int .i64 0, .slice Ao54 y334.length co54] 40 (0, 0))) := ⟨by (with_reducible repeat (first | refine blk_drewN ?_ _ | refine blk_drew ?_ | refine blk_alloc ?_ _)); refine blk_put (cs := #[.string ((rd_T40 x12_3 x16_4).f0), .int .i64 0, .slice none 0 0]) ?_ 2 _ rfl; (with_reducible repeat (first | refine blk_drewN ?_ _ | refine blk_drew ?_ | refine blk_alloc ?_ _)); exact BK332.out⟩
                           have n9_ : Aside0 (Below w.heap.size w (w53.setCell ⟨gb332, 2, none⟩ (.slice Ao54 y334.length co54))) := ⟨by repeat ((with_reducible first | exact HB.out | apply below_alloc | apply pw_below_drewN | apply below_drew1 | refine below_set ?_ GE332.out))⟩
                           (try clear HO_1)
                           (try clear HO_7)
                           (try clear HO_12)
                           (try clear HO_14)
                           (try clear HO_15)
                           (try clear HL331_2)
                           (try clear HL333_2)
                           (try clear HO336)
                           (try clear BK332)
                           (try clear HB)
                           generalize (w53.setCell ⟨gb332, 2, none⟩ (.slice Ao54 y334.length co54)) = w56 at n0_ n1_ n2_ n3_ n4_ n5_ n6_ n7_ n8_ n9_ ⊢
                           have HO_1 := n0_
                           have HO_7 := n1_
                           have HO_12 := n2_
                           have HO_14 := n3_
                           have HO_15 := n4_
                           have HL331_2 := n5_
                           have HL333_2 := n6_
                           have HO336 := n7_
                           have BK332 := n8_
                           have HB := n9_
                           clear n0_ n1_ n2_ n3_ n4_ n5_ n6_ n7_ n8_ n9_
                           have n0_ := Aside0.mk (Kd.V_drew HO_1.out)
                           have n1_ := Aside0.mk (Kd.N_drew HO_7.out)
                           have n2_ := Aside0.mk (Kd.N_drew HO_12.out)
                           have n3_ := Aside0.mk (Kd.N_drew HO_14.out)
                           have n4_ := Aside0.mk (Kd.N_drew HO_15.out)
                           have n5_ := Aside0.mk (Kd.V_drew HL331_2.out)
                           have n6_ := Aside0.mk (Kd.V_drew HL333_2.out)
                           have n7_ := Aside0.mk (Kd.N_drew HO336.out)
                           have n8_ := Aside0.mk (blk_drew BK332.out)
                           have n9_ := Aside0.mk (below_drew1 HB.out)
                           clear HO_1
                           clear HO_7
                           clear HO_12
                           clear HO_14
                           clear HO_15
                           clear HL331_2
                           clear HL333_2
                           clear HO336
                           clear BK332
                           clear HB
                           have HO_1 := n0_
                           have HO_7 := n1_
                           have HO_12 := n2_
                           have HO_14 := n3_
                           have HO_15 := n4_
                           have HL331_2 := n5_
                           have HL333_2 := n6_
                           have HO336 := n7_
                           have BK332 := n8_
                           have HB := n9_
                           clear n0_ n1_ n2_ n3_ n4_ n5_ n6_ n7_ n8_ n9_
                           have p337 : 0 ≤ (x17_5 : Int) := of_decide_eq_true (by first | (with_reducible assumption) | assumption)
                           have q337 : x17_5 < (t328.length : Int) := of_decide_eq_true (by first | (with_reducible assumption) | assumption)
                           obtain ⟨ad337, A337_2, c337_2, e337, hx337_0, hx337_1, hx337_2, hl337_2, hi337_2⟩ := at_T40 (Kd.N_reads' HO_14.out).2.2 x17_5 p337 q337
                           cases e337
                           obtain ⟨ce337, hce337, hMe337, hcc337⟩ := Kd.N_get HO_14.out z40 x17_5 p337 (by first | exact q337 | exact of_decide_eq_true (by first | (with_reducible assumption) | assumption) | (have e_ := (Kd.N_reads' HO_14.out).1; omega))
                           obtain ⟨ua337_2, uc337_2, rfl, ul337_2, ge337_2⟩ := k40_openF hMe337
                           have hv337_2 := hcc337 2 _ rfl
                           rw [add_field _ _ 2 (by omega)] at hv337_2
                           replace hv337_2 := Option.some.inj (hv337_2.symm.trans hx337_2)
                           injection hv337_2 with hva_ hvn_ hvc_
                           rw [hva_] at ge337_2
                           rw [hvc_] at ul337_2
                           have HL337_2 := Aside0.mk (show Kd.V k40 40 _ w.heap.size _ _ ((rd_T40 t328 x17_5).f2) from Kd.V_mk ul337_2 ge337_2)
                           clear hva_ hvn_ hvc_ ge337_2 ul337_2
                           clear hcc337 hce337
                           have HR337_2 := Aside0.mk hi337_2
                           have HC337_2 := Aside0.mk hl337_2
                           clear hi337_2 hl337_2
                           replace p337 := eq_true p337
                           replace q337 := eq_true q337
                           refine start_ (n := 10) (S := fun w' => w'.cell? ⟨gb332, 0, none⟩ = some (.string ((rd_T40 x12_3 x16_4).f0)) ∧ w'.cell? ⟨gb332, 1, none⟩ = some (.int .i64 0) ∧ w'.cell? ⟨gb332, 2, none⟩ = some (.slice Ao54 y334.length co54) ∧ w'.cell? (ad337.add ((x17_5).toNat * 3)) = some (.string ((rd_T40 t328 x17_5).f0)) ∧ w'.cell? ⟨(ad337.add ((x17_5).toNat * 3)).block, (ad337.add ((x17_5).toNat * 3)).off + 1, none⟩ = some (.int .i64 ((rd_T40 t328 x17_5).f1)) ∧ w'.cell? ⟨(ad337.add ((x17_5).toNat * 3)).block, (ad337.add ((x17_5).toNat * 3)).off + 2, none⟩ = some (.slice A337_2 ((rd_T40 t328 x17_5).f2).length c337_2)) (ds := [7, 9]) #[false, false, false, false, false, false, false, false, false, false] (by kernel_rfl) rfl rfl ⟨(blk_cell BK332.out 0).trans rfl, (blk_cell BK332.out 1).trans rfl, (blk_cell BK332.out 2).trans rfl, hx337_0, hx337_1, hx337_2⟩ (fun hHeld => ?_); refine with_tabW selvageref09_Values.tab39 selvageref09_Values.bits39 (fun HT_ HW_ => ?_)
                           generalize w56.drew = w57 at HO_1 HO_7 HO_12 HO_14 HO_15 HL331_2 HL333_2 HO336 BK332 HB HL337_2 HR337_2 hx337_0 hx337_1 hx337_2 hHeld ⊢
                           refine pure_ (i := 0) (N := some 151) (v := ?_) (a' := ?_) #[true, false, false, false, false, false, false, false, false, false] rfl rfl (any_of HT_.out (by kernel_rfl)) (fun _ _ _ h => h) (Or.inl ⟨by rfl, ?_⟩) ?_ ?_
                           rotate_left
                           ·
                            intro w'
                            go_simp
                            with_reducible rfl
                           rotate_left
                           ·
                            simp only [Act.put, List.setIfInBounds_toArray, List.set_cons_zero, List.set_cons_succ, i64_w, i32_w]
                            rfl
                           refine pure_ (i := 2) (N := some 153) (v := ?_) (a' := ?_) #[true, false, true, false, false, false, false, false, false, false] rfl rfl (any_of HT_.out (by kernel_rfl)) (fun _ _ _ h => h) (Or.inl ⟨by rfl, ?_⟩) ?_ ?_
                           rotate_left
                           ·
                            intro w'
                            go_simp
                            with_reducible rfl
                           rotate_left
                           ·
                            simp only [Act.put, List.setIfInBounds_toArray, List.set_cons_zero, List.set_cons_succ, i64_w, i32_w]
                            rfl
                           refine pure_ (i := 3) (N := some 154) (v := ?_) (a' := ?_) #[true, false, true, true, false, false, false, false, false, false] rfl rfl (any_of HT_.out (by kernel_rfl)) (fun _ _ _ h => h) (Or.inl ⟨by rfl, ?_⟩) ?_ ?_
                           rotate_left
                           ·
                            intro w'
                            go_simp
                            with_reducible rfl
                           rotate_left
                           ·
                            simp only [Act.put, List.setIfInBounds_toArray, List.set_cons_zero, List.set_cons_succ, i64_w, i32_w]
                            rfl
                           refine pure_ (i := 4) (N := some 155) (v := ?_) (a' := ?_) #[true, false, true, true, true, false, false, false, false, false] rfl rfl (any_of HT_.out (by kernel_rfl)) (fun _ _ _ h => h) (Or.inl ⟨by rfl, ?_⟩) ?_ ?_
                           rotate_left
                           ·
                            intro w'
                            go_simp
                            with_reducible rfl
                           rotate_left
                           ·
                            simp only [Act.put, List.setIfInBounds_toArray, List.set_cons_zero, List.set_cons_succ, i64_w, i32_w]
                            rfl
                           refine take_ (i := 1) (N := some 152) (v := ?_) (a' := ?_) #[true, true, true, true, true, false, false, false, false, false] rfl rfl (take_ofW HT_.out HW_.out (by kernel_rfl)) (fun _ _ _ h => h) (Or.inl ⟨by rfl, ?_⟩) hHeld ?_ ?_
                           rotate_left
                           ·
                            rintro w' ⟨s0, s1, s2, s3, s4, s5⟩
                            go_simp
                            with_reducible rfl
                           rotate_left
                           ·
                            simp only [Act.put, List.setIfInBounds_toArray, List.set_cons_zero, List.set_cons_succ, i64_w, i32_w]
                            rfl
                           refine take_ (i := 5) (N := some 156) (v := ?_) (a' := ?_) #[true, true, true, true, true, true, false, false, false, false] rfl rfl (take_ofW HT_.out HW_.out (by kernel_rfl)) (fun _ _ _ h => h) (Or.inl ⟨by rfl, ?_⟩) hHeld ?_ ?_
                           rotate_left
                           ·
                            rintro w' ⟨s0, s1, s2, s3, s4, s5⟩
                            go_simp
                            with_reducible rfl
                           rotate_left
                           ·
                            simp only [Act.put, List.setIfInBounds_toArray, List.set_cons_zero, List.set_cons_succ, i64_w, i32_w]
                            rfl
                           refine one_ (i := 6) (N := some 157) #[true, true, true, true, true, true, true, false, false, false] rfl rfl (one_of HT_.out (by kernel_rfl)) (by decide) (fun K hK => ?_)
                           refine value_ (w1 := ?_) (v := ?_) (by rfl) rfl ?_ ?_
                           rotate_left 2
                           ·
                            go_simp
                            constructor
                            ·
                             rfl
                            ·
                             rfl
                           refine hK.out _ _ ⟨(blk_cell (blk_alloc BK332.out _) 0).trans rfl, (blk_cell (blk_alloc BK332.out _) 1).trans rfl, (blk_cell (blk_alloc BK332.out _) 2).trans rfl, (World.cell?_alloc_lt _ _ _ (World.block_lt_of_cell? _ _ (hHeld.2.2.2.1))).trans (hHeld.2.2.2.1), (World.cell?_alloc_lt _ _ _ (World.block_lt_of_cell? _ _ (hHeld.2.2.2.2.1))).trans (hHeld.2.2.2.2.1), (World.cell?_alloc_lt _ _ _ (World.block_lt_of_cell? _ _ (hHeld.2.2.2.2.2))).trans (hHeld.2.2.2.2.2)⟩ (fun hHeld => ?_)
                           clear hK K
                           refine norm_ (a' := ?_) ?_ ?_
                           rotate_left
                           ·
                            show Act.put _ (some 157) _ = _
                            simp only [Act.put, List.setIfInBounds_toArray, List.set_cons_zero, List.set_cons_succ, i64_w, i32_w]
                            rfl
                           refine last_ (i := 7) (N := some 158) #[true, true, true, true, true, true, true, true, false, false] rfl rfl (one_of HT_.out (by kernel_rfl)) (by decide) (fun K hK => ?_)
                           refine Kd.N_append_step k40 (w0 := w) w.heap.size (by rfl) (.tmp 152) (.tmp 157) 36 40 (.agg #[(.string ⟨#[]⟩), (.int .i64 0), (.slice none 0 0)]) 48 rfl Try.underlying36 info40 rfl (by decide) (by omega) (.slice Ao54 y334.length co54) y334 (⟨(rd_T40 t328 x17_5).f0, (rd_T40 t328 x17_5).f1, (rd_T40 t328 x17_5).f2⟩ : S40) [.string ((rd_T40 t328 x17_5).f0), .int .i64 ((rd_T40 t328 x17_5).f1), .slice A337_2 ((rd_T40 t328 x17_5).f2).length c337_2] (fun k_ => (P1_ k_ ∨ w.heap.size ≤ k_) ∧ some k_ ≠ (u7 : Value).ownBlock ∧ some k_ ≠ (.slice (some ad331) x12_3.length co40 : Value).ownBlock ∧ some k_ ≠ (.slice (some ad337) t328.length co48 : Value).ownBlock ∧ some k_ ≠ (u15 : Value).ownBlock ∧ k_ ≠ gb332) (fun k_ => ((fun k_ => (P1_ k_ ∨ w.heap.size ≤ k_) ∧ some k_ ≠ (u7 : Value).ownBlock ∧ some k_ ≠ (.slice (some ad331) x12_3.length co40 : Value).ownBlock ∧ some k_ ≠ (.slice (some ad337) t328.length co48 : Value).ownBlock ∧ some k_ ≠ (u15 : Value).ownBlock ∧ k_ ≠ gb332)) k_ ∧ some k_ ≠ (.slice Ao54 y334.length co54 : Value).ownBlock) rfl rfl ?aP (fun _ hk => hk) ?aF ?aO ?aB ?aS ?aL ?_
                           (case aP => exact (k40_mkF _ _ (⟨(rd_T40 t328 x17_5).f0, (rd_T40 t328 x17_5).f1, (rd_T40 t328 x17_5).f2⟩ : S40) (Kd.V_reads' (Kd.V_mono (ok' := (fun k_ => ((fun k_ => (P1_ k_ ∨ w.heap.size ≤ k_) ∧ some k_ ≠ (u7 : Value).ownBlock ∧ some k_ ≠ (.slice (some ad331) x12_3.length co40 : Value).ownBlock ∧ some k_ ≠ (.slice (some ad337) t328.length co48 : Value).ownBlock ∧ some k_ ≠ (u15 : Value).ownBlock ∧ k_ ≠ gb332)) k_ ∧ some k_ ≠ (.slice Ao54 y334.length co54 : Value).ownBlock)) (HL337_2.out) (fun k_ hk => ⟨⟨hk.1.1, ⟨hk.1.2.1, ⟨hk.1.2.2.1, ⟨hk.2, ⟨hk.1.2.2.2.1, hk.1.2.2.2.2.2⟩⟩⟩⟩⟩, hk.1.2.2.2.2.1⟩))).2.1 (Kd.V_F (Kd.V_mono (ok' := (fun k_ => ((fun k_ => (P1_ k_ ∨ w.heap.size ≤ k_) ∧ some k_ ≠ (u7 : Value).ownBlock ∧ some k_ ≠ (.slice (some ad331) x12_3.length co40 : Value).ownBlock ∧ some k_ ≠ (.slice (some ad337) t328.length co48 : Value).ownBlock ∧ some k_ ≠ (u15 : Value).ownBlock ∧ k_ ≠ gb332)) k_ ∧ some k_ ≠ (.slice Ao54 y334.length co54 : Value).ownBlock)) (HL337_2.out) (fun k_ hk => ⟨⟨hk.1.1, ⟨hk.1.2.1, ⟨hk.1.2.2.1, ⟨hk.2, ⟨hk.1.2.2.2.1, hk.1.2.2.2.2.2⟩⟩⟩⟩⟩, hk.1.2.2.2.2.1⟩)))))
                           (case aB => exact (by repeat ((with_reducible first | exact HB.out | apply below_alloc | apply pw_below_drewN | apply below_drew1 | refine below_set ?_ GE332.out))))
                           (case aF => exact (fun k_ hk => ⟨(.inr (Nat.le_trans (below_size (by repeat ((with_reducible first | exact HB.out | apply below_alloc | apply pw_below_drewN | apply below_drew1 | refine below_set ?_ GE332.out)))) hk)), Kd.fresh' (Kd.N_lt (by (with_reducible repeat (first | apply Kd.N_alloc | apply Kd.N_drewN | apply Kd.N_drew)); exact HO_7.out)) k_ hk, Kd.fresh' (Kd.N_lt (by (with_reducible repeat (first | apply Kd.N_alloc | apply Kd.N_drewN | apply Kd.N_drew)); exact HO_12.out)) k_ hk, Kd.fresh' (Kd.N_lt (by (with_reducible repeat (first | apply Kd.N_alloc | apply Kd.N_drewN | apply Kd.N_drew)); exact HO_14.out)) k_ hk, Kd.fresh' (Kd.N_lt (by (with_reducible repeat (first | apply Kd.N_alloc | apply Kd.N_drewN | apply Kd.N_drew)); exact HO_15.out)) k_ hk, Kd.freshB (g := gb332) (o := .cells #[.string ((rd_T40 x12_3 x16_4).f0), .int .i64 0, .slice Ao54 y334.length co54] 40 (0, 0)) (by (with_reducible repeat (first | refine blk_drewN ?_ _ | refine blk_drew ?_ | refine blk_alloc ?_ _)); exact BK332.out) k_ hk⟩))
                           (case aO => exact (by (with_reducible repeat (first | apply Kd.N_alloc | apply Kd.N_drewN | apply Kd.N_drew)); exact HO336.out))
                           (case aS => exact (below_size (by repeat ((with_reducible first | exact HB.out | apply below_alloc | apply pw_below_drewN | apply below_drew1 | refine below_set ?_ GE332.out)))))
                           (case aL => have := LMc46.out; omega)
                           intro v339 w58 ho hb hg hat
                           rw [← Ny338.out] at ho
                           have n0_ := Aside0.mk (Kd.V_afterv (ok := (fun k_ => (P1_ k_ ∨ w.heap.size ≤ k_) ∧ some k_ ≠ (u7 : Value).ownBlock ∧ some k_ ≠ (.slice (some ad331) x12_3.length co40 : Value).ownBlock ∧ some k_ ≠ (.slice (some ad337) t328.length co48 : Value).ownBlock ∧ some k_ ≠ (u15 : Value).ownBlock ∧ k_ ≠ gb332)) (by (with_reducible repeat (first | apply Kd.V_alloc | apply Kd.V_drewN | apply Kd.V_drew)); exact Kd.V_mono HO_1.out (fun _ hk => ⟨⟨hk.1, ⟨hk.2.1, ⟨hk.2.2.1, ⟨hk.2.2.2.1, ⟨hk.2.2.2.2.1, hk.2.2.2.2.2.2⟩⟩⟩⟩⟩, hk.2.2.2.2.2.1⟩)) hg hat)
                           have n1_ := Aside0.mk (Kd.N_afterv (ok := (fun k_ => (P1_ k_ ∨ w.heap.size ≤ k_) ∧ some k_ ≠ (.slice (some ad331) x12_3.length co40 : Value).ownBlock ∧ some k_ ≠ (.slice (some ad337) t328.length co48 : Value).ownBlock ∧ some k_ ≠ (u15 : Value).ownBlock ∧ k_ ≠ gb332)) (by (with_reducible repeat (first | apply Kd.N_alloc | apply Kd.N_drewN | apply Kd.N_drew)); exact Kd.N_mono HO_7.out (fun _ hk => ⟨⟨hk.1, ⟨hk.2.1, ⟨hk.2.2.1, ⟨hk.2.2.2.1, hk.2.2.2.2.2⟩⟩⟩⟩, hk.2.2.2.2.1⟩)) hg hat)
                           have n2_ := Aside0.mk (Kd.N_afterv (ok := (fun k_ => (P1_ k_ ∨ w.heap.size ≤ k_) ∧ some k_ ≠ (u7 : Value).ownBlock ∧ some k_ ≠ (.slice (some ad337) t328.length co48 : Value).ownBlock ∧ some k_ ≠ (u15 : Value).ownBlock ∧ k_ ≠ gb332)) (by (with_reducible repeat (first | apply Kd.N_alloc | apply Kd.N_drewN | apply Kd.N_drew)); exact Kd.N_mono HO_12.out (fun _ hk => ⟨⟨hk.1, ⟨hk.2.1, ⟨hk.2.2.1, ⟨hk.2.2.2.1, hk.2.2.2.2.2⟩⟩⟩⟩, hk.2.2.2.2.1⟩)) hg hat)
                           have n3_ := Aside0.mk (Kd.N_afterv (ok := (fun k_ => (P1_ k_ ∨ w.heap.size ≤ k_) ∧ some k_ ≠ (u7 : Value).ownBlock ∧ some k_ ≠ (.slice (some ad331) x12_3.length co40 : Value).ownBlock ∧ some k_ ≠ (u15 : Value).ownBlock ∧ k_ ≠ gb332)) (by (with_reducible repeat (first | apply Kd.N_alloc | apply Kd.N_drewN | apply Kd.N_drew)); exact Kd.N_mono HO_14.out (fun _ hk => ⟨⟨hk.1, ⟨hk.2.1, ⟨hk.2.2.1, ⟨hk.2.2.2.1, hk.2.2.2.2.2⟩⟩⟩⟩, hk.2.2.2.2.1⟩)) hg hat)
                           have n4_ := Aside0.mk (Kd.N_afterv (ok := (fun k_ => (P1_ k_ ∨ w.heap.size ≤ k_) ∧ some k_ ≠ (u7 : Value).ownBlock ∧ some k_ ≠ (.slice (some ad331) x12_3.length co40 : Value).ownBlock ∧ some k_ ≠ (.slice (some ad337) t328.length co48 : Value).ownBlock ∧ k_ ≠ gb332)) (by (with_reducible repeat (first | apply Kd.N_alloc | apply Kd.N_drewN | apply Kd.N_drew)); exact Kd.N_mono HO_15.out (fun _ hk => ⟨⟨hk.1, ⟨hk.2.1, ⟨hk.2.2.1, ⟨hk.2.2.2.1, hk.2.2.2.2.2⟩⟩⟩⟩, hk.2.2.2.2.1⟩)) hg hat)
                           have n5_ := Aside0.mk (Kd.V_afterv (ok := (fun k_ => (P1_ k_ ∨ w.heap.size ≤ k_) ∧ some k_ ≠ (u7 : Value).ownBlock ∧ some k_ ≠ (.slice (some ad331) x12_3.length co40 : Value).ownBlock ∧ some k_ ≠ (.slice (some ad337) t328.length co48 : Value).ownBlock ∧ some k_ ≠ (u15 : Value).ownBlock ∧ k_ ≠ gb332)) (by (with_reducible repeat (first | apply Kd.V_alloc | apply Kd.V_drewN | apply Kd.V_drew)); exact Kd.V_mono HL331_2.out (fun _ hk => ⟨⟨hk.1, ⟨hk.2.1, ⟨hk.2.2.1, ⟨hk.2.2.2.1, ⟨hk.2.2.2.2.1, hk.2.2.2.2.2.2⟩⟩⟩⟩⟩, hk.2.2.2.2.2.1⟩)) hg hat)
                           have n6_ := Aside0.mk (blk_grown (g := gb332) (o := .cells #[.string ((rd_T40 x12_3 x16_4).f0), .int .i64 0, .slice Ao54 y334.length co54] 40 (0, 0)) (by (with_reducible repeat (first | refine blk_drewN ?_ _ | refine blk_drew ?_ | refine blk_alloc ?_ _)); exact BK332.out) hg (Kd.N_away HO336.out (fun _ hk => hk.2.2.2.2.2)))
                           have n7_ := Aside0.mk (Kd.V_afterv (ok := (fun k_ => (P1_ k_ ∨ w.heap.size ≤ k_) ∧ some k_ ≠ (u7 : Value).ownBlock ∧ some k_ ≠ (.slice (some ad331) x12_3.length co40 : Value).ownBlock ∧ some k_ ≠ (.slice (some ad337) t328.length co48 : Value).ownBlock ∧ some k_ ≠ (u15 : Value).ownBlock ∧ k_ ≠ gb332)) (by (with_reducible repeat (first | apply Kd.V_alloc | apply Kd.V_drewN | apply Kd.V_drew)); exact Kd.V_mono HL333_2.out (fun _ hk => ⟨⟨hk.1, ⟨hk.2.1, ⟨hk.2.2.1, ⟨hk.2.2.2.1, ⟨hk.2.2.2.2.1, hk.2.2.2.2.2.2⟩⟩⟩⟩⟩, hk.2.2.2.2.2.1⟩)) hg hat)
                           have n8_ := Aside0.mk (Kd.V_afterv (ok := (fun k_ => (P1_ k_ ∨ w.heap.size ≤ k_) ∧ some k_ ≠ (u7 : Value).ownBlock ∧ some k_ ≠ (.slice (some ad331) x12_3.length co40 : Value).ownBlock ∧ some k_ ≠ (.slice (some ad337) t328.length co48 : Value).ownBlock ∧ some k_ ≠ (u15 : Value).ownBlock ∧ k_ ≠ gb332)) (by (with_reducible repeat (first | apply Kd.V_alloc | apply Kd.V_drewN | apply Kd.V_drew)); exact Kd.V_mono HL337_2.out (fun _ hk => ⟨⟨hk.1.1, ⟨hk.1.2.1, ⟨hk.1.2.2.1, ⟨hk.2, ⟨hk.1.2.2.2.1, hk.1.2.2.2.2.2⟩⟩⟩⟩⟩, hk.1.2.2.2.2.1⟩)) hg hat)
                           have n9_ := Aside0.mk (hb)
                           have n10_ := Aside0.mk (ho)
                           clear HO_1
                           clear HO_7
                           clear HO_12
                           clear HO_14
                           clear HO_15
                           clear HL331_2
                           clear BK332
                           clear HL333_2
                           clear HL337_2
                           clear HB
                           clear HO336
                           have HO_1 := n0_
                           have HO_7 := n1_
                           have HO_12 := n2_
                           have HO_14 := n3_
                           have HO_15 := n4_
                           have HL331_2 := n5_
                           have BK332 := n6_
                           have HL333_2 := n7_
                           have HL337_2 := n8_
                           have HB := n9_
                           have HO340 := n10_
                           clear n0_ n1_ n2_ n3_ n4_ n5_ n6_ n7_ n8_ n9_ n10_
                           clear ho hb hg hat
                           obtain ⟨Ao59, co59, eo59⟩ := Kd.N_slice HO340.out
                           (subst eo59)
                           refine hK.out _ _ ?_
                           clear hK K
                           refine norm_ (a' := ?_) ?_ ?_
                           rotate_left
                           ·
                            show Act.put _ (some 158) _ = _
                            simp only [Act.put, List.setIfInBounds_toArray, List.set_cons_zero, List.set_cons_succ, i64_w, i32_w]
                            rfl
                           refine pure_ (i := 8) (N := some 159) (v := ?_) (a' := ?_) #[true, true, true, true, true, true, true, true, true, false] rfl rfl (any_of HT_.out (by kernel_rfl)) (fun _ _ _ h => h) (Or.inl ⟨by rfl, ?_⟩) ?_ ?_
                           rotate_left
                           ·
                            intro w'
                            go_simp
                            with_reducible rfl
                           rotate_left
                           ·
                            simp only [Act.put, List.setIfInBounds_toArray, List.set_cons_zero, List.set_cons_succ, i64_w, i32_w]
                            rfl
                           refine last_ (i := 9) (N := none) #[true, true, true, true, true, true, true, true, true, true] rfl rfl (one_of HT_.out (by kernel_rfl)) (by decide) (fun K hK => ?_)
                           have hs60 : w58.cell? ⟨gb332, 2, none⟩ = some (.slice Ao54 y334.length co54) := (blk_cell BK332.out 2).trans rfl
                           have hfs60 := blk_frozen BK332.out 2
                           refine skip_ (w1 := ?_) (by rfl) rfl ?_ ?_
                           rotate_left
                           ·
                            go_simp
                            rfl
                           refine hK.out _ _ ?_
                           clear hK K
                           refine done_ (done_of HT_.out (by kernel_rfl)) ?_
                           have n0_ : Aside0 (Kd.V k25 25 (w58.setCell ⟨gb332, 2, none⟩ (.slice Ao59 y338.length co59)) w.heap.size (fun k_ => (P1_ k_ ∨ w.heap.size ≤ k_) ∧ some k_ ≠ (u7 : Value).ownBlock ∧ some k_ ≠ (.slice (some ad331) x12_3.length co40 : Value).ownBlock ∧ some k_ ≠ (.slice (some ad337) t328.length co48 : Value).ownBlock ∧ some k_ ≠ (u15 : Value).ownBlock ∧ some k_ ≠ (.slice Ao59 y338.length co59 : Value).ownBlock ∧ k_ ≠ gb332) (.slice A1 l1.length c1) l1) := ⟨by (with_reducible repeat (first | apply Kd.V_alloc | apply Kd.V_drewN | apply Kd.V_drew)); exact Kd.V_mono (Kd.V_far (p := ⟨gb332, 2, none⟩) (Kd.V_mono HO_1.out (fun k_ hk => (⟨hk, hk.1.2.2.2.2.2⟩ : _ ∧ k_ ≠ gb332))) (fun _ hk => hk.2) (.slice Ao59 y338.length co59)) (fun _ hk => ⟨hk.1.1.1, ⟨hk.1.1.2.1, ⟨hk.1.1.2.2.1, ⟨hk.1.1.2.2.2.1, ⟨hk.1.1.2.2.2.2.1, ⟨hk.1.2, hk.1.1.2.2.2.2.2⟩⟩⟩⟩⟩⟩)⟩
                           have n1_ : Aside0 (Kd.N k40 40 (w58.setCell ⟨gb332, 2, none⟩ (.slice Ao59 y338.length co59)) w.heap.size (fun k_ => (P1_ k_ ∨ w.heap.size ≤ k_) ∧ some k_ ≠ (.slice (some ad331) x12_3.length co40 : Value).ownBlock ∧ some k_ ≠ (.slice (some ad337) t328.length co48 : Value).ownBlock ∧ some k_ ≠ (u15 : Value).ownBlock ∧ some k_ ≠ (.slice Ao59 y338.length co59 : Value).ownBlock ∧ k_ ≠ gb332) u7 x7_2) := ⟨by (with_reducible repeat (first | apply Kd.N_alloc | apply Kd.N_drewN | apply Kd.N_drew)); exact Kd.N_mono (Kd.N_far (p := ⟨gb332, 2, none⟩) (Kd.N_mono HO_7.out (fun k_ hk => (⟨hk, hk.1.2.2.2.2⟩ : _ ∧ k_ ≠ gb332))) (fun _ hk => hk.2) (.slice Ao59 y338.length co59)) (fun _ hk => ⟨hk.1.1.1, ⟨hk.1.1.2.1, ⟨hk.1.1.2.2.1, ⟨hk.1.1.2.2.2.1, ⟨hk.1.2, hk.1.1.2.2.2.2⟩⟩⟩⟩⟩)⟩
                           have n2_ : Aside0 (Kd.N k40 40 (w58.setCell ⟨gb332, 2, none⟩ (.slice Ao59 y338.length co59)) w.heap.size (fun k_ => (P1_ k_ ∨ w.heap.size ≤ k_) ∧ some k_ ≠ (u7 : Value).ownBlock ∧ some k_ ≠ (.slice (some ad337) t328.length co48 : Value).ownBlock ∧ some k_ ≠ (u15 : Value).ownBlock ∧ some k_ ≠ (.slice Ao59 y338.length co59 : Value).ownBlock ∧ k_ ≠ gb332) (.slice (some ad331) x12_3.length co40) x12_3) := ⟨by (with_reducible repeat (first | apply Kd.N_alloc | apply Kd.N_drewN | apply Kd.N_drew)); exact Kd.N_mono (Kd.N_far (p := ⟨gb332, 2, none⟩) (Kd.N_mono HO_12.out (fun k_ hk => (⟨hk, hk.1.2.2.2.2⟩ : _ ∧ k_ ≠ gb332))) (fun _ hk => hk.2) (.slice Ao59 y338.length co59)) (fun _ hk => ⟨hk.1.1.1, ⟨hk.1.1.2.1, ⟨hk.1.1.2.2.1, ⟨hk.1.1.2.2.2.1, ⟨hk.1.2, hk.1.1.2.2.2.2⟩⟩⟩⟩⟩)⟩
                           have n3_ : Aside0 (Kd.N k40 40 (w58.setCell ⟨gb332, 2, none⟩ (.slice Ao59 y338.length co59)) w.heap.size (fun k_ => (P1_ k_ ∨ w.heap.size ≤ k_) ∧ some k_ ≠ (u7 : Value).ownBlock ∧ some k_ ≠ (.slice (some ad331) x12_3.length co40 : Value).ownBlock ∧ some k_ ≠ (u15 : Value).ownBlock ∧ some k_ ≠ (.slice Ao59 y338.length co59 : Value).ownBlock ∧ k_ ≠ gb332) (.slice (some ad337) t328.length co48) t328) := ⟨by (with_reducible repeat (first | apply Kd.N_alloc | apply Kd.N_drewN | apply Kd.N_drew)); exact Kd.N_mono (Kd.N_far (p := ⟨gb332, 2, none⟩) (Kd.N_mono HO_14.out (fun k_ hk => (⟨hk, hk.1.2.2.2.2⟩ : _ ∧ k_ ≠ gb332))) (fun _ hk => hk.2) (.slice Ao59 y338.length co59)) (fun _ hk => ⟨hk.1.1.1, ⟨hk.1.1.2.1, ⟨hk.1.1.2.2.1, ⟨hk.1.1.2.2.2.1, ⟨hk.1.2, hk.1.1.2.2.2.2⟩⟩⟩⟩⟩)⟩
                           have n4_ : Aside0 (Kd.N k40 40 (w58.setCell ⟨gb332, 2, none⟩ (.slice Ao59 y338.length co59)) w.heap.size (fun k_ => (P1_ k_ ∨ w.heap.size ≤ k_) ∧ some k_ ≠ (u7 : Value).ownBlock ∧ some k_ ≠ (.slice (some ad331) x12_3.length co40 : Value).ownBlock ∧ some k_ ≠ (.slice (some ad337) t328.length co48 : Value).ownBlock ∧ some k_ ≠ (.slice Ao59 y338.length co59 : Value).ownBlock ∧ k_ ≠ gb332) u15 x15_5) := ⟨by (with_reducible repeat (first | apply Kd.N_alloc | apply Kd.N_drewN | apply Kd.N_drew)); exact Kd.N_mono (Kd.N_far (p := ⟨gb332, 2, none⟩) (Kd.N_mono HO_15.out (fun k_ hk => (⟨hk, hk.1.2.2.2.2⟩ : _ ∧ k_ ≠ gb332))) (fun _ hk => hk.2) (.slice Ao59 y338.length co59)) (fun _ hk => ⟨hk.1.1.1, ⟨hk.1.1.2.1, ⟨hk.1.1.2.2.1, ⟨hk.1.1.2.2.2.1, ⟨hk.1.2, hk.1.1.2.2.2.2⟩⟩⟩⟩⟩)⟩
                           have n5_ : Aside0 (Kd.V k40 40 (w58.setCell ⟨gb332, 2, none⟩ (.slice Ao59 y338.length co59)) w.heap.size (fun k_ => (P1_ k_ ∨ w.heap.size ≤ k_) ∧ some k_ ≠ (u7 : Value).ownBlock ∧ some k_ ≠ (.slice (some ad331) x12_3.length co40 : Value).ownBlock ∧ some k_ ≠ (.slice (some ad337) t328.length co48 : Value).ownBlock ∧ some k_ ≠ (u15 : Value).ownBlock ∧ some k_ ≠ (.slice Ao59 y338.length co59 : Value).ownBlock ∧ k_ ≠ gb332) (.slice A331_2 ((rd_T40 x12_3 x16_4).f2).length c331_2) ((rd_T40 x12_3 x16_4).f2)) := ⟨by (with_reducible repeat (first | apply Kd.V_alloc | apply Kd.V_drewN | apply Kd.V_drew)); exact Kd.V_mono (Kd.V_far (p := ⟨gb332, 2, none⟩) (Kd.V_mono HL331_2.out (fun k_ hk => (⟨hk, hk.1.2.2.2.2.2⟩ : _ ∧ k_ ≠ gb332))) (fun _ hk => hk.2) (.slice Ao59 y338.length co59)) (fun _ hk => ⟨hk.1.1.1, ⟨hk.1.1.2.1, ⟨hk.1.1.2.2.1, ⟨hk.1.1.2.2.2.1, ⟨hk.1.1.2.2.2.2.1, ⟨hk.1.2, hk.1.1.2.2.2.2.2⟩⟩⟩⟩⟩⟩)⟩
                           have n6_ : Aside0 (Kd.V k40 40 (w58.setCell ⟨gb332, 2, none⟩ (.slice Ao59 y338.length co59)) w.heap.size (fun k_ => (P1_ k_ ∨ w.heap.size ≤ k_) ∧ some k_ ≠ (u7 : Value).ownBlock ∧ some k_ ≠ (.slice (some ad331) x12_3.length co40 : Value).ownBlock ∧ some k_ ≠ (.slice (some ad337) t328.length co48 : Value).ownBlock ∧ some k_ ≠ (u15 : Value).ownBlock ∧ some k_ ≠ (.slice Ao59 y338.length co59 : Value).ownBlock ∧ k_ ≠ gb332) (.slice A333_2 ((rd_T40 x12_3 x16_4).f2).length c333_2) ((rd_T40 x12_3 x16_4).f2)) := ⟨by (with_reducible repeat (first | apply Kd.V_alloc | apply Kd.V_drewN | apply Kd.V_drew)); exact Kd.V_mono (Kd.V_far (p := ⟨gb332, 2, none⟩) (Kd.V_mono HL333_2.out (fun k_ hk => (⟨hk, hk.1.2.2.2.2.2⟩ : _ ∧ k_ ≠ gb332))) (fun _ hk => hk.2) (.slice Ao59 y338.length co59)) (fun _ hk => ⟨hk.1.1.1, ⟨hk.1.1.2.1, ⟨hk.1.1.2.2.1, ⟨hk.1.1.2.2.2.1, ⟨hk.1.1.2.2.2.2.1, ⟨hk.1.2, hk.1.1.2.2.2.2.2⟩⟩⟩⟩⟩⟩)⟩
                           have n7_ : Aside0 (Kd.V k40 40 (w58.setCell ⟨gb332, 2, none⟩ (.slice Ao59 y338.length co59)) w.heap.size (fun k_ => (P1_ k_ ∨ w.heap.size ≤ k_) ∧ some k_ ≠ (u7 : Value).ownBlock ∧ some k_ ≠ (.slice (some ad331) x12_3.length co40 : Value).ownBlock ∧ some k_ ≠ (.slice (some ad337) t328.length co48 : Value).ownBlock ∧ some k_ ≠ (u15 : Value).ownBlock ∧ some k_ ≠ (.slice Ao59 y338.length co59 : Value).ownBlock ∧ k_ ≠ gb332) (.slice A337_2 ((rd_T40 t328 x17_5).f2).length c337_2) ((rd_T40 t328 x17_5).f2)) := ⟨by (with_reducible repeat (first | apply Kd.V_alloc | apply Kd.V_drewN | apply Kd.V_drew)); exact Kd.V_mono (Kd.V_far (p := ⟨gb332, 2, none⟩) (Kd.V_mono HL337_2.out (fun k_ hk => (⟨hk, hk.1.2.2.2.2.2⟩ : _ ∧ k_ ≠ gb332))) (fun _ hk => hk.2) (.slice Ao59 y338.length co59)) (fun _ hk => ⟨hk.1.1.1, ⟨hk.1.1.2.1, ⟨hk.1.1.2.2.1, ⟨hk.1.1.2.2.2.1, ⟨hk.1.1.2.2.2.2.1, ⟨hk.1.2, hk.1.1.2.2.2.2.2⟩⟩⟩⟩⟩⟩)⟩
                           have n8_ : Aside0 (Kd.N k40 40 (w58.setCell ⟨gb332, 2, none⟩ (.slice Ao59 y338.length co59)) w.heap.size (fun k_ => (P1_ k_ ∨ w.heap.size ≤ k_) ∧ some k_ ≠ (u7 : Value).ownBlock ∧ some k_ ≠ (.slice (some ad331) x12_3.length co40 : Value).ownBlock ∧ some k_ ≠ (.slice (some ad337) t328.length co48 : Value).ownBlock ∧ some k_ ≠ (u15 : Value).ownBlock ∧ k_ ≠ gb332) (.slice Ao59 y338.length co59) y338) := ⟨by (with_reducible repeat (first | apply Kd.N_alloc | apply Kd.N_drewN | apply Kd.N_drew)); exact Kd.N_mono (Kd.N_far (p := ⟨gb332, 2, none⟩) (Kd.N_mono HO340.out (fun k_ hk => (⟨hk, hk.2.2.2.2.2⟩ : _ ∧ k_ ≠ gb332))) (fun _ hk => hk.2) (.slice Ao59 y338.length co59)) (fun _ hk => ⟨hk.1.1, ⟨hk.1.2.1, ⟨hk.1.2.2.1, ⟨hk.1.2.2.2.1, ⟨hk.1.2.2.2.2.1, hk.1.2.2.2.2.2⟩⟩⟩⟩⟩)⟩
                           have n9_ : Aside0 ((w58.setCell ⟨gb332, 2, none⟩ (.slice Ao59 y338.length co59)).heap[gb332]? = some (.cells #[.string ((rd_T40 x12_3 x16_4).f0), .int .i64 0, .slice Ao59 y338.length co59] 40 (0, 0))) := ⟨by (with_reducible repeat (first | refine blk_drewN ?_ _ | refine blk_drew ?_ | refine blk_alloc ?_ _)); refine blk_put (cs := #[.string ((rd_T40 x12_3 x16_4).f0), .int .i64 0, .slice Ao54 y334.length co54]) ?_ 2 _ rfl; (with_reducible repeat (first | refine blk_drewN ?_ _ | refine blk_drew ?_ | refine blk_alloc ?_ _)); exact BK332.out⟩
                           have n10_ : Aside0 (Below w.heap.size w (w58.setCell ⟨gb332, 2, none⟩ (.slice Ao59 y338.length co59))) := ⟨by repeat ((with_reducible first | exact HB.out | apply below_alloc | apply pw_below_drewN | apply below_drew1 | refine below_set ?_ GE332.out))⟩
                           (try clear HO_1)
                           (try clear HO_7)
                           (try clear HO_12)
                           (try clear HO_14)
                           (try clear HO_15)
                           (try clear HL331_2)
                           (try clear HL333_2)
                           (try clear HL337_2)
                           (try clear HO340)
                           (try clear BK332)
                           (try clear HB)
                           generalize (w58.setCell ⟨gb332, 2, none⟩ (.slice Ao59 y338.length co59)) = w61 at n0_ n1_ n2_ n3_ n4_ n5_ n6_ n7_ n8_ n9_ n10_ ⊢
                           have HO_1 := n0_
                           have HO_7 := n1_
                           have HO_12 := n2_
                           have HO_14 := n3_
                           have HO_15 := n4_
                           have HL331_2 := n5_
                           have HL333_2 := n6_
                           have HL337_2 := n7_
                           have HO340 := n8_
                           have BK332 := n9_
                           have HB := n10_
                           clear n0_ n1_ n2_ n3_ n4_ n5_ n6_ n7_ n8_ n9_ n10_
                           have hcz62_0 : w61.cell? ⟨gb332, 0, none⟩ = some (.string ((rd_T40 x12_3 x16_4).f0)) := (blk_cell BK332.out 0).trans rfl
                           have hcz62_1 : w61.cell? ⟨gb332, 1, none⟩ = some (.int .i64 0) := (blk_cell BK332.out 1).trans rfl
                           have hcz62_2 : w61.cell? ⟨gb332, 2, none⟩ = some (.slice Ao59 y338.length co59) := (blk_cell BK332.out 2).trans rfl
                           have hfz62_0 := blk_frozen BK332.out 0
                           have hfz62_1 := blk_frozen BK332.out 1
                           have hfz62_2 := blk_frozen BK332.out 2
                           try go_wp2_with (first | ((with_reducible refine gate_builtin (b := .append) (xs := #[.tmp 160, .tmp 162]) rfl ?_); at_builtin; refine Kd.N_append k40 (w0 := w) w.heap.size rfl (.tmp 160) (.tmp 162) 36 40 (.agg #[(.string ⟨#[]⟩), (.int .i64 0), (.slice none 0 0)]) 48 rfl Try.underlying36 info40 rfl (by decide) (by omega) u15 x15_5 (⟨(rd_T40 x12_3 x16_4).f0, 0, y338⟩ : S40) [.string ((rd_T40 x12_3 x16_4).f0), .int .i64 0, .slice Ao59 y338.length co59] (fun k_ => (P1_ k_ ∨ w.heap.size ≤ k_) ∧ some k_ ≠ (u7 : Value).ownBlock ∧ some k_ ≠ (.slice (some ad331) x12_3.length co40 : Value).ownBlock ∧ some k_ ≠ (.slice (some ad337) t328.length co48 : Value).ownBlock ∧ k_ ≠ gb332) (fun k_ => ((fun k_ => (P1_ k_ ∨ w.heap.size ≤ k_) ∧ some k_ ≠ (u7 : Value).ownBlock ∧ some k_ ≠ (.slice (some ad331) x12_3.length co40 : Value).ownBlock ∧ some k_ ≠ (.slice (some ad337) t328.length co48 : Value).ownBlock ∧ k_ ≠ gb332)) k_ ∧ some k_ ≠ (u15 : Value).ownBlock) rfl rfl ?aP (fun _ hk => hk) ?aF ?aO ?aB ?aS ?aL ?_; (case aP => exact (k40_mkF _ _ (⟨(rd_T40 x12_3 x16_4).f0, 0, y338⟩ : S40) (Kd.N_reads' (Kd.N_mono (ok' := (fun k_ => ((fun k_ => (P1_ k_ ∨ w.heap.size ≤ k_) ∧ some k_ ≠ (u7 : Value).ownBlock ∧ some k_ ≠ (.slice (some ad331) x12_3.length co40 : Value).ownBlock ∧ some k_ ≠ (.slice (some ad337) t328.length co48 : Value).ownBlock ∧ k_ ≠ gb332)) k_ ∧ some k_ ≠ (u15 : Value).ownBlock)) (HO340.out) (fun k_ hk => ⟨⟨hk.1, ⟨hk.2.1, ⟨hk.2.2.1, ⟨hk.2.2.2.1, hk.2.2.2.2.2⟩⟩⟩⟩, hk.2.2.2.2.1⟩))).2.1 (Kd.N_F (Kd.N_mono (ok' := (fun k_ => ((fun k_ => (P1_ k_ ∨ w.heap.size ≤ k_) ∧ some k_ ≠ (u7 : Value).ownBlock ∧ some k_ ≠ (.slice (some ad331) x12_3.length co40 : Value).ownBlock ∧ some k_ ≠ (.slice (some ad337) t328.length co48 : Value).ownBlock ∧ k_ ≠ gb332)) k_ ∧ some k_ ≠ (u15 : Value).ownBlock)) (HO340.out) (fun k_ hk => ⟨⟨hk.1, ⟨hk.2.1, ⟨hk.2.2.1, ⟨hk.2.2.2.1, hk.2.2.2.2.2⟩⟩⟩⟩, hk.2.2.2.2.1⟩))))); (case aB => exact (by repeat (first | (with_reducible first | exact HB.out | apply below_alloc | apply pw_below_drewN | apply below_drew1 | refine below_set ?_ GE332.out) | exact HB.out))); (case aF => exact (fun k_ hk => ⟨(.inr (Nat.le_trans (below_size (by repeat (first | (with_reducible first | exact HB.out | apply below_alloc | apply pw_below_drewN | apply below_drew1 | refine below_set ?_ GE332.out) | exact HB.out))) hk)), Kd.fresh' (Kd.N_lt (by (with_reducible repeat (first | apply Kd.N_alloc | apply Kd.N_drewN | apply Kd.N_drew)); exact HO_7.out)) k_ hk, Kd.fresh' (Kd.N_lt (by (with_reducible repeat (first | apply Kd.N_alloc | apply Kd.N_drewN | apply Kd.N_drew)); exact HO_12.out)) k_ hk, Kd.fresh' (Kd.N_lt (by (with_reducible repeat (first | apply Kd.N_alloc | apply Kd.N_drewN | apply Kd.N_drew)); exact HO_14.out)) k_ hk, Kd.freshB (g := gb332) (o := .cells #[.string ((rd_T40 x12_3 x16_4).f0), .int .i64 0, .slice Ao59 y338.length co59] 40 (0, 0)) (by (with_reducible repeat (first | refine blk_drewN ?_ _ | refine blk_drew ?_ | refine blk_alloc ?_ _)); exact BK332.out) k_ hk⟩)); (case aO => exact (by (with_reducible repeat (first | apply Kd.N_alloc | apply Kd.N_drewN | apply Kd.N_drew)); exact Kd.N_mono HO_15.out (fun _ hk => ⟨hk.1, ⟨hk.2.1, ⟨hk.2.2.1, ⟨hk.2.2.2.1, hk.2.2.2.2.2⟩⟩⟩⟩))); (case aS => exact (below_size (by repeat (first | (with_reducible first | exact HB.out | apply below_alloc | apply pw_below_drewN | apply below_drew1 | refine below_set ?_ GE332.out) | exact HB.out)))); (case aL => have := LMc47.out; omega); intro v342 w63 ho hb hg hat; rw [← Ny341.out] at ho; have n0_ := Aside0.mk (Kd.V_afterv (ok := (fun k_ => (P1_ k_ ∨ w.heap.size ≤ k_) ∧ some k_ ≠ (u7 : Value).ownBlock ∧ some k_ ≠ (.slice (some ad331) x12_3.length co40 : Value).ownBlock ∧ some k_ ≠ (.slice (some ad337) t328.length co48 : Value).ownBlock ∧ some k_ ≠ (.slice Ao59 y338.length co59 : Value).ownBlock ∧ k_ ≠ gb332)) (by (with_reducible repeat (first | apply Kd.V_alloc | apply Kd.V_drewN | apply Kd.V_drew)); exact Kd.V_mono HO_1.out (fun _ hk => ⟨⟨hk.1, ⟨hk.2.1, ⟨hk.2.2.1, ⟨hk.2.2.2.1, ⟨hk.2.2.2.2.2.1, hk.2.2.2.2.2.2⟩⟩⟩⟩⟩, hk.2.2.2.2.1⟩)) hg hat); have n1_ := Aside0.mk (Kd.N_afterv (ok := (fun k_ => (P1_ k_ ∨ w.heap.size ≤ k_) ∧ some k_ ≠ (.slice (some ad331) x12_3.length co40 : Value).ownBlock ∧ some k_ ≠ (.slice (some ad337) t328.length co48 : Value).ownBlock ∧ some k_ ≠ (.slice Ao59 y338.length co59 : Value).ownBlock ∧ k_ ≠ gb332)) (by (with_reducible repeat (first | apply Kd.N_alloc | apply Kd.N_drewN | apply Kd.N_drew)); exact Kd.N_mono HO_7.out (fun _ hk => ⟨⟨hk.1, ⟨hk.2.1, ⟨hk.2.2.1, ⟨hk.2.2.2.2.1, hk.2.2.2.2.2⟩⟩⟩⟩, hk.2.2.2.1⟩)) hg hat); have n2_ := Aside0.mk (Kd.N_afterv (ok := (fun k_ => (P1_ k_ ∨ w.heap.size ≤ k_) ∧ some k_ ≠ (u7 : Value).ownBlock ∧ some k_ ≠ (.slice (some ad337) t328.length co48 : Value).ownBlock ∧ some k_ ≠ (.slice Ao59 y338.length co59 : Value).ownBlock ∧ k_ ≠ gb332)) (by (with_reducible repeat (first | apply Kd.N_alloc | apply Kd.N_drewN | apply Kd.N_drew)); exact Kd.N_mono HO_12.out (fun _ hk => ⟨⟨hk.1, ⟨hk.2.1, ⟨hk.2.2.1, ⟨hk.2.2.2.2.1, hk.2.2.2.2.2⟩⟩⟩⟩, hk.2.2.2.1⟩)) hg hat); have n3_ := Aside0.mk (Kd.N_afterv (ok := (fun k_ => (P1_ k_ ∨ w.heap.size ≤ k_) ∧ some k_ ≠ (u7 : Value).ownBlock ∧ some k_ ≠ (.slice (some ad331) x12_3.length co40 : Value).ownBlock ∧ some k_ ≠ (.slice Ao59 y338.length co59 : Value).ownBlock ∧ k_ ≠ gb332)) (by (with_reducible repeat (first | apply Kd.N_alloc | apply Kd.N_drewN | apply Kd.N_drew)); exact Kd.N_mono HO_14.out (fun _ hk => ⟨⟨hk.1, ⟨hk.2.1, ⟨hk.2.2.1, ⟨hk.2.2.2.2.1, hk.2.2.2.2.2⟩⟩⟩⟩, hk.2.2.2.1⟩)) hg hat); have n4_ := Aside0.mk (Kd.V_afterv (ok := (fun k_ => (P1_ k_ ∨ w.heap.size ≤ k_) ∧ some k_ ≠ (u7 : Value).ownBlock ∧ some k_ ≠ (.slice (some ad331) x12_3.length co40 : Value).ownBlock ∧ some k_ ≠ (.slice (some ad337) t328.length co48 : Value).ownBlock ∧ some k_ ≠ (.slice Ao59 y338.length co59 : Value).ownBlock ∧ k_ ≠ gb332)) (by (with_reducible repeat (first | apply Kd.V_alloc | apply Kd.V_drewN | apply Kd.V_drew)); exact Kd.V_mono HL331_2.out (fun _ hk => ⟨⟨hk.1, ⟨hk.2.1, ⟨hk.2.2.1, ⟨hk.2.2.2.1, ⟨hk.2.2.2.2.2.1, hk.2.2.2.2.2.2⟩⟩⟩⟩⟩, hk.2.2.2.2.1⟩)) hg hat); have n5_ := Aside0.mk (blk_grown (g := gb332) (o := .cells #[.string ((rd_T40 x12_3 x16_4).f0), .int .i64 0, .slice Ao59 y338.length co59] 40 (0, 0)) (by (with_reducible repeat (first | refine blk_drewN ?_ _ | refine blk_drew ?_ | refine blk_alloc ?_ _)); exact BK332.out) hg (Kd.N_away HO_15.out (fun _ hk => hk.2.2.2.2.2))); have n6_ := Aside0.mk (Kd.V_afterv (ok := (fun k_ => (P1_ k_ ∨ w.heap.size ≤ k_) ∧ some k_ ≠ (u7 : Value).ownBlock ∧ some k_ ≠ (.slice (some ad331) x12_3.length co40 : Value).ownBlock ∧ some k_ ≠ (.slice (some ad337) t328.length co48 : Value).ownBlock ∧ some k_ ≠ (.slice Ao59 y338.length co59 : Value).ownBlock ∧ k_ ≠ gb332)) (by (with_reducible repeat (first | apply Kd.V_alloc | apply Kd.V_drewN | apply Kd.V_drew)); exact Kd.V_mono HL333_2.out (fun _ hk => ⟨⟨hk.1, ⟨hk.2.1, ⟨hk.2.2.1, ⟨hk.2.2.2.1, ⟨hk.2.2.2.2.2.1, hk.2.2.2.2.2.2⟩⟩⟩⟩⟩, hk.2.2.2.2.1⟩)) hg hat); have n7_ := Aside0.mk (Kd.V_afterv (ok := (fun k_ => (P1_ k_ ∨ w.heap.size ≤ k_) ∧ some k_ ≠ (u7 : Value).ownBlock ∧ some k_ ≠ (.slice (some ad331) x12_3.length co40 : Value).ownBlock ∧ some k_ ≠ (.slice (some ad337) t328.length co48 : Value).ownBlock ∧ some k_ ≠ (.slice Ao59 y338.length co59 : Value).ownBlock ∧ k_ ≠ gb332)) (by (with_reducible repeat (first | apply Kd.V_alloc | apply Kd.V_drewN | apply Kd.V_drew)); exact Kd.V_mono HL337_2.out (fun _ hk => ⟨⟨hk.1, ⟨hk.2.1, ⟨hk.2.2.1, ⟨hk.2.2.2.1, ⟨hk.2.2.2.2.2.1, hk.2.2.2.2.2.2⟩⟩⟩⟩⟩, hk.2.2.2.2.1⟩)) hg hat); have n8_ := Aside0.mk (hb); have n9_ := Aside0.mk (ho); clear HO_1; clear HO_7; clear HO_12; clear HO_14; clear HL331_2; clear BK332; clear HL333_2; clear HL337_2; clear HB; clear HO_15; clear HO340; have HO_1 := n0_; have HO_7 := n1_; have HO_12 := n2_; have HO_14 := n3_; have HL331_2 := n4_; have BK332 := n5_; have HL333_2 := n6_; have HL337_2 := n7_; have HB := n8_; have HO343 := n9_; clear n0_ n1_ n2_ n3_ n4_ n5_ n6_ n7_ n8_ n9_; clear ho hb hg hat))
                           go_roundg k5
                           case measure => have := HK1.out; have := HK2.out; have := HK3.out; have := HK4.out; have := HK5.out; omega
                           case rel => exact ⟨(y341), (wrap64 (x17_5 + 1)), (by first | rfl | (simp; done) | (simp [*]; done)), H', ⟨by have := HK1.out; have := HK2.out; have := HK3.out; have := HK4.out; have := HK5.out; omega⟩, ⟨by (with_reducible repeat (first | apply Kd.V_alloc | apply Kd.V_drewN | apply Kd.V_drew)); exact Kd.V_mono HO_1.out (fun _ hk => ⟨hk.1.1, ⟨hk.1.2.1, ⟨hk.1.2.2.1, ⟨hk.1.2.2.2.1, hk.2⟩⟩⟩⟩)⟩, ⟨by (with_reducible repeat (first | apply Kd.N_alloc | apply Kd.N_drewN | apply Kd.N_drew)); exact Kd.N_mono HO_7.out (fun _ hk => ⟨hk.1.1, ⟨hk.1.2.1, ⟨hk.1.2.2.1, hk.2⟩⟩⟩)⟩, ⟨by (with_reducible repeat (first | apply Kd.N_alloc | apply Kd.N_drewN | apply Kd.N_drew)); exact Kd.N_mono HO_12.out (fun _ hk => ⟨hk.1.1, ⟨hk.1.2.1, ⟨hk.1.2.2.1, hk.2⟩⟩⟩)⟩, ⟨by (with_reducible repeat (first | apply Kd.N_alloc | apply Kd.N_drewN | apply Kd.N_drew)); exact Kd.N_mono HO_14.out (fun _ hk => ⟨hk.1.1, ⟨hk.1.2.1, ⟨hk.1.2.2.1, hk.2⟩⟩⟩)⟩, ⟨by (with_reducible repeat (first | apply Kd.N_alloc | apply Kd.N_drewN | apply Kd.N_drew)); exact Kd.N_mono HO343.out (fun _ hk => ⟨hk.1, ⟨hk.2.1, ⟨hk.2.2.1, hk.2.2.2.1⟩⟩⟩)⟩, ⟨by repeat ((with_reducible first | exact HB.out | apply below_alloc | apply pw_below_drewN | apply below_drew1 | refine below_set ?_ GE332.out))⟩⟩
                          ·
                           rw [if_neg c47] at H
                           exact absurd H (by simp)
                         ·
                          rw [if_neg c46] at H
                          exact absurd H (by simp)
                        ·
                         rw [if_neg c45] at H
                         exact absurd H (by simp)
                       ·
                        rw [if_neg c44] at H
                        exact absurd H (by simp)
                      ·
                       rw [if_neg c43] at H
                       exact absurd H (by simp)
                     ·
                      rw [if_neg c42] at H
                      exact absurd H (by simp)
                    ·
                     rw [if_neg c41] at H
                     have c41b0 : decide (x17_5 < (t328.length : Int)) = false := decide_eq_false c41
                     clear c41
                     have H' := Aside0.mk H
                     clear H
                     obtain ⟨Ao64, co64, eo64⟩ := Kd.N_slice HO_14.out
                     subst eo64
                     go_wp2
                     go_roundg k5
                     case measure => have := HK1.out; have := HK2.out; have := HK3.out; have := HK4.out; have := HK5.out; omega
                     case rel => exact ⟨(x15_5), (wrap64 (x16_4 + 1)), (by first | rfl | (simp; done) | (simp [*]; done)), H', ⟨by have := HK1.out; have := HK2.out; have := HK3.out; have := HK4.out; have := HK5.out; omega⟩, ⟨by (with_reducible repeat (first | apply Kd.V_alloc | apply Kd.V_drewN | apply Kd.V_drew)); exact HO_1.out⟩, ⟨by (with_reducible repeat (first | apply Kd.N_alloc | apply Kd.N_drewN | apply Kd.N_drew)); exact HO_7.out⟩, ⟨by (with_reducible repeat (first | apply Kd.N_alloc | apply Kd.N_drewN | apply Kd.N_drew)); exact HO_12.out⟩, ⟨by (with_reducible repeat (first | apply Kd.N_alloc | apply Kd.N_drewN | apply Kd.N_drew)); exact HO_14.out⟩, ⟨by (with_reducible repeat (first | apply Kd.N_alloc | apply Kd.N_drewN | apply Kd.N_drew)); exact HO_15.out⟩, ⟨by repeat ((with_reducible first | exact HB.out | apply below_alloc | apply pw_below_drewN | apply below_drew1))⟩⟩
                 ·
                  rw [if_neg c39] at H
                  have c39b0 : decide (x16_4 < (x12_3.length : Int)) = false := decide_eq_false c39
                  clear c39
                  have H' := Aside0.mk H
                  clear H
                  obtain ⟨Ao65, co65, eo65⟩ := Kd.N_slice HO_12.out
                  subst eo65
                  go_wp2
                  go_roundg k4
                  case measure => have := HK1.out; have := HK2.out; have := HK3.out; have := HK4.out; omega
                  case rel => exact ⟨(x15_4), (wrap64 (x13_3 + 1)), (by first | rfl | (simp; done) | (simp [*]; done)), H', ⟨by have := HK1.out; have := HK2.out; have := HK3.out; have := HK4.out; omega⟩, ⟨by (with_reducible repeat (first | apply Kd.V_alloc | apply Kd.V_drewN | apply Kd.V_drew)); exact Kd.V_mono HO_1.out (fun _ hk => ⟨hk.1, ⟨hk.2.1, hk.2.2.2.2⟩⟩)⟩, ⟨by (with_reducible repeat (first | apply Kd.N_alloc | apply Kd.N_drewN | apply Kd.N_drew)); exact Kd.N_mono HO_7.out (fun _ hk => ⟨hk.1, hk.2.2.2⟩)⟩, ⟨by (with_reducible repeat (first | apply Kd.N_alloc | apply Kd.N_drewN | apply Kd.N_drew)); exact Kd.N_mono HO_15.out (fun _ hk => ⟨hk.1, hk.2.1⟩)⟩, ⟨by repeat ((with_reducible first | exact HB.out | apply below_alloc | apply pw_below_drewN | apply below_drew1))⟩⟩
              ·
               rw [if_neg c33] at H
               have c33b0 : decide (x13_3 < ((rd_T61 l0 x11_2).f3)) = false := decide_eq_false c33
               clear c33
               by_cases c66 : x7_2.length + x12_3.length < 2932031007402
               ·
                rw [if_pos c66] at H
                have LMc66 := Aside0.mk c66
                clear c66
                obtain ⟨y321, hy321⟩ : ∃ y_ : List (S40), y_ = (x7_2 ++ x12_3) := ⟨_, rfl⟩
                replace H : (selvageref09_Values.l3 k3 l0 l1 x5_1 y321 (wrap64 (x11_2 + 1))) = some r := by first | (rw [hy321]; with_reducible exact H) | (have H2_ := (Option.bind_some _ _).symm.trans H; rw [hy321]; with_reducible exact H2_) | (have H2_ := (Option.bind_some _ _).symm.trans H; with_reducible exact H2_) | with_reducible exact H | (rw [hy321]; exact H) | exact H
                have Ny321 := Aside0.mk hy321
                clear hy321
                have H' := Aside0.mk H
                clear H
                have p320 : 0 ≤ (x11_2 : Int) := of_decide_eq_true (by first | (with_reducible assumption) | assumption)
                have q320 : x11_2 < (l0.length : Int) := of_decide_eq_true (by first | (with_reducible assumption) | assumption)
                obtain ⟨ad320, e320, hx320_0, hx320_1, hx320_2, hx320_3, hx320_4⟩ := at_T61 HR0.out x11_2 p320 q320
                obtain rfl : ad315 = ad320 := (by injection e320)
                replace hx320_0 := (HB.out.cell (World.block_lt_of_cell? w _ hx320_0)).trans hx320_0
                replace hx320_1 := (HB.out.cell (World.block_lt_of_cell? w _ hx320_1)).trans hx320_1
                replace hx320_2 := (HB.out.cell (World.block_lt_of_cell? w _ hx320_2)).trans hx320_2
                replace hx320_3 := (HB.out.cell (World.block_lt_of_cell? w _ hx320_3)).trans hx320_3
                replace hx320_4 := (HB.out.cell (World.block_lt_of_cell? w _ hx320_4)).trans hx320_4
                replace p320 := eq_true p320
                replace q320 := eq_true q320
                obtain ⟨Ao68, co68, eo68⟩ := Kd.N_slice HO_12.out
                subst eo68
                go_wp2_with (first | ((with_reducible refine gate_builtin (b := .append) (xs := #[.tmp 165, .tmp 166]) rfl ?_); at_builtin; refine Kd.N_append_rows k40 (w0 := w) w.heap.size rfl (.tmp 165) (.tmp 166) 36 40 (.agg #[(.string ⟨#[]⟩), (.int .i64 0), (.slice none 0 0)]) 48 rfl Try.underlying36 info40 rfl (by decide) (by omega) u7 x7_2 x12_3 _ _ _ (fun k_ => (P1_ k_ ∨ w.heap.size ≤ k_)) (fun k_ => ((fun k_ => (P1_ k_ ∨ w.heap.size ≤ k_))) k_ ∧ some k_ ≠ (u7 : Value).ownBlock) rfl rfl ?aO ?aR (fun _ hk => hk) ?aF ?aB ?aS ?aL ?_; (case aR => exact (by skip; exact Kd.N_F (Kd.N_mono (ok' := (fun k_ => ((fun k_ => (P1_ k_ ∨ w.heap.size ≤ k_))) k_ ∧ some k_ ≠ (u7 : Value).ownBlock)) (HO_12.out) (fun k_ hk => ⟨hk.1, hk.2⟩)))); (case aB => exact (by repeat (first | (with_reducible first | exact HB.out | apply below_alloc | apply pw_below_drewN | apply below_drew1) | exact HB.out))); (case aF => exact (fun k_ hk => (.inr (Nat.le_trans (below_size (by repeat (first | (with_reducible first | exact HB.out | apply below_alloc | apply pw_below_drewN | apply below_drew1) | exact HB.out))) hk)))); (case aO => exact (by (with_reducible repeat (first | apply Kd.N_alloc | apply Kd.N_drewN | apply Kd.N_drew)); exact Kd.N_mono HO_7.out (fun _ hk => hk.1))); (case aS => exact (below_size (by repeat (first | (with_reducible first | exact HB.out | apply below_alloc | apply pw_below_drewN | apply below_drew1) | exact HB.out)))); (case aL => have := LMc66.out; omega); intro v322 w67 ho hb hg hat; rw [← Ny321.out] at ho; have n0_ := Aside0.mk (Kd.V_afterv (ok := (fun k_ => (P1_ k_ ∨ w.heap.size ≤ k_) ∧ some k_ ≠ (.slice Ao68 x12_3.length co68 : Value).ownBlock)) (by (with_reducible repeat (first | apply Kd.V_alloc | apply Kd.V_drewN | apply Kd.V_drew)); exact Kd.V_mono HO_1.out (fun _ hk => ⟨⟨hk.1, hk.2.2⟩, hk.2.1⟩)) hg hat); have n1_ := Aside0.mk (Kd.N_afterv (ok := (fun k_ => (P1_ k_ ∨ w.heap.size ≤ k_))) (by (with_reducible repeat (first | apply Kd.N_alloc | apply Kd.N_drewN | apply Kd.N_drew)); exact HO_12.out) hg hat); have n2_ := Aside0.mk (hb); have n3_ := Aside0.mk (ho); clear HO_1; clear HO_12; clear HB; clear HO_7; have HO_1 := n0_; have HO_12 := n1_; have HB := n2_; have HO323 := n3_; clear n0_ n1_ n2_ n3_; clear ho hb hg hat))
                go_roundg k3
                case measure => have := HK1.out; have := HK2.out; have := HK3.out; omega
                case rel => exact ⟨(y321), (wrap64 (x11_2 + 1)), (by first | rfl | (simp; done) | (simp [*]; done)), H', ⟨by have := HK1.out; have := HK2.out; have := HK3.out; omega⟩, ⟨by (with_reducible repeat (first | apply Kd.V_alloc | apply Kd.V_drewN | apply Kd.V_drew)); exact Kd.V_mono HO_1.out (fun _ hk => ⟨hk.1.1, hk.2⟩)⟩, ⟨by (with_reducible repeat (first | apply Kd.N_alloc | apply Kd.N_drewN | apply Kd.N_drew)); exact HO323.out⟩, ⟨by repeat ((with_reducible first | exact HB.out | apply below_alloc | apply pw_below_drewN | apply below_drew1))⟩⟩
               ·
                rw [if_neg c66] at H
                exact absurd H (by simp)
             ·
              rw [if_neg c32] at H
              exact absurd H (by simp)
            ·
             rw [if_neg c31] at H
             exact absurd H (by simp)
         ·
          rw [if_neg c28] at H
          have c28b0 : (((rd_T61 l0 x11_2).f1).toList == x5_1.toList) = false := beq_eq_false_iff_ne.mpr c28
          have c28b1 : (((rd_T61 l0 x11_2).f1).toList != x5_1.toList) = true := bne_iff_ne.mpr c28
          have H' := Aside0.mk H
          clear H
          have p315 : 0 ≤ (x11_2 : Int) := of_decide_eq_true (by first | (with_reducible assumption) | assumption)
          have q315 : x11_2 < (l0.length : Int) := of_decide_eq_true (by first | (with_reducible assumption) | assumption)
          obtain ⟨ad315, e315, hx315_0, hx315_1, hx315_2, hx315_3, hx315_4⟩ := at_T61 HR0.out x11_2 p315 q315
          cases e315
          replace hx315_0 := (HB.out.cell (World.block_lt_of_cell? w _ hx315_0)).trans hx315_0
          replace hx315_1 := (HB.out.cell (World.block_lt_of_cell? w _ hx315_1)).trans hx315_1
          replace hx315_2 := (HB.out.cell (World.block_lt_of_cell? w _ hx315_2)).trans hx315_2
          replace hx315_3 := (HB.out.cell (World.block_lt_of_cell? w _ hx315_3)).trans hx315_3
          replace hx315_4 := (HB.out.cell (World.block_lt_of_cell? w _ hx315_4)).trans hx315_4
          replace p315 := eq_true p315
          replace q315 := eq_true q315
          go_wp2
          go_roundg k2
          case measure => have := HK1.out; have := HK2.out; omega
          case rel => exact ⟨(x7_2), (wrap64 (x11_2 + 1)), (by first | rfl | (simp; done) | (simp [*]; done)), H', ⟨by have := HK1.out; have := HK2.out; omega⟩, ⟨by (with_reducible repeat (first | apply Kd.V_alloc | apply Kd.V_drewN | apply Kd.V_drew)); exact HO_1.out⟩, ⟨by (with_reducible repeat (first | apply Kd.N_alloc | apply Kd.N_drewN | apply Kd.N_drew)); exact HO_7.out⟩, ⟨by repeat ((with_reducible first | exact HB.out | apply below_alloc | apply pw_below_drewN | apply below_drew1))⟩⟩
        ·
         rw [if_neg c27] at H
         exact absurd H (by simp)
       ·
        rw [if_neg c26] at H
        have c26b0 : decide (x11_2 < (l0.length : Int)) = false := decide_eq_false c26
        clear c26
        obtain rfl := Option.some.inj H
        go_wp2
        go_ret
        exact ⟨_, by first | rfl | (simp [errW_none, errW_some] <;> rfl) | (simp [*, errW_none, errW_some] <;> rfl), by (with_reducible repeat (first | apply Kd.N_alloc | apply Kd.N_drewN | apply Kd.N_drew)); exact HO_7.out, by repeat ((with_reducible first | exact HB.out | apply below_alloc | apply pw_below_drewN | apply below_drew1))⟩
end Go.Proofs.Ytikhkcnbabpneaa.P