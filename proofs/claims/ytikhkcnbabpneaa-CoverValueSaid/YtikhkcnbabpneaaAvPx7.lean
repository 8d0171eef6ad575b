/- cover.plain walked by hand, under the name that the printed texts ask for. -/
import Derived.Test.YtikhkcnbabpneaaAvPx0
namespace Go.Proofs.Ytikhkcnbabpneaa.P
open Go.RowKit Go.Proofs.YtikhkcnbabpneaaW.PrintWords Go.Proofs.YtikhkcnbabpneaaW.PrintLast Go.Proofs.YtikhkcnbabpneaaW.PrintMore
set_option linter.unusedVariables false
set_option linter.unusedSimpArgs false
def textB (f0 : Int) (f1 : ByteArray) : Bool := f1.toList == ([] : List UInt8) || f0 == 4 || f0 == 5
def plainB (f0 : Int) (f1 : ByteArray) (f2 : Int) (f4 : List ByteArray) (f5 : List S25) : Bool :=
 (decide (f1.toList = []) || f0 == 4 || f0 == 5) && decide (f4.length = 0) && (f2 == 0 || f0 == 1) && (decide (f5.length = 0) || f0 == 5)
def cover_plain.f (f0 : Int) (f1 : ByteArray) (f2 f3 : Int) (f4 : List ByteArray) (f5 : List S25) : Option Bool := some (plainB f0 f1 f2 f4 f5)
theorem plainB_text (f0 : Int) (f1 : ByteArray) (f2 : Int) (f4 : List ByteArray) (f5 : List S25) : plainB f0 f1 f2 f4 f5 = (textB f0 f1 && ((f4.length : Int) == 0) && (f2 == 0 || f0 == 1) && (((f5.length : Int) == 0) || f0 == 5)) := by
 have h1 : decide (f1.toList = []) = (f1.toList == ([] : List UInt8)) := by cases h : f1.toList <;> simp
 have h4 : decide (f4.length = 0) = ((f4.length : Int) == 0) := by rw [Bool.eq_iff_iff]; simp
 have h5 : decide (f5.length = 0) = ((f5.length : Int) == 0) := by rw [Bool.eq_iff_iff]; simp
 unfold plainB textB
 rw [h1, h4, h5]
set_option maxHeartbeats 8000000 in
set_option maxRecDepth 100000 in
theorem cover_plain.calls (a0_0 : Int) (a0_1 : ByteArray) (a0_2 : Int) (a0_3 : Int) (A0_4 : Option Addr) (c0_4 : Nat) (l0_4 : List ByteArray) (A0_5 : Option Addr) (c0_5 : Nat) (l0_5 : List (S25)) (r : Bool) (w : World) (hr0_4 : Kd.C Kd.string w A0_4 l0_4.length l0_4) (hc0_4 : l0_4.length ≤ c0_4) (hr0_5 : Kd.C k25 w A0_5 l0_5.length l0_5) (hc0_5 : l0_5.length ≤ c0_5) (h : cover_plain.f a0_0 a0_1 a0_2 a0_3 l0_4 l0_5 = some r) :
 Calls Try.prog 42 #[.agg #[.int .i64 a0_0, .string a0_1, .int .i64 a0_2, .int .i64 a0_3, .slice A0_4 l0_4.length c0_4, .slice A0_5 l0_5.length c0_5]] w fun e w' => e = .returned (.bool r) ∧ Below w.heap.size w w' := by
 have hr := Option.some.inj h
 rw [plainB_text] at hr
 have HR := Aside0.mk hr
 clear h hr hr0_4 hc0_4 hr0_5 hc0_5
 generalize l0_4.length = n4 at *
 generalize l0_5.length = n5 at *
 have HW := Aside0.mk (below_alloc (Below.refl w.heap.size w) (.cells #[.int .i64 a0_0, .string a0_1, .int .i64 a0_2, .int .i64 a0_3, .slice A0_4 n4 c0_4, .slice A0_5 n5 c0_5] 25))
 go_enter Try.func42, Try.ntmps42
 go_upto_region 1 with (fail)
 go_cut [0, 3] (fun v0 v3 wc => v3 = .bool (textB a0_0 a0_1) ∧ w.alloc (.cells #[.int .i64 a0_0, .string a0_1, .int .i64 a0_2, .int .i64 a0_3, .slice A0_4 n4 c0_4, .slice A0_5 n5 c0_5] 25) = wc)
 case first =>
  have ht : textB a0_0 a0_1 = (a0_1.toList == ([] : List UInt8) || a0_0 == 4 || a0_0 == 5) := rfl
  have HT := Aside0.mk ht
  clear ht HR HW
  cases e0 : (a0_1.toList == ([] : List UInt8)) with
  | true =>
   have HB := Aside0.mk (show textB a0_0 a0_1 = true by rw [HT.out, e0]; rfl)
   go_wp2
   go_meet
   exact ⟨by rw [HB.out], rfl⟩
  | false =>
   cases e4 : (a0_0 == 4) with
   | true =>
    have HB := Aside0.mk (show textB a0_0 a0_1 = true by rw [HT.out, e0, e4]; rfl)
    go_wp2
    go_meet
    exact ⟨by rw [HB.out], rfl⟩
   | false =>
    have HB := Aside0.mk (show textB a0_0 a0_1 = (a0_0 == 5) by rw [HT.out, e0, e4]; rfl)
    go_wp2
    go_meet
    exact ⟨by rw [HB.out], rfl⟩
 case rest =>
  obtain ⟨rfl, rfl⟩ := hcut
  cases et : textB a0_0 a0_1 with
  | false =>
   have HB := Aside0.mk (show r = false by rw [← HR.out, et]; rfl)
   go_wp2
   go_ret
   exact ⟨by rw [HB.out]; rfl, HW.out⟩
  | true =>
   cases e4 : ((n4 : Int) == 0) with
   | false =>
    have HB := Aside0.mk (show r = false by rw [← HR.out, e4, Bool.and_false]; rfl)
    go_wp2
    go_ret
    exact ⟨by rw [HB.out]; rfl, HW.out⟩
   | true =>
    have key : ∀ b : Bool, (a0_2 == 0 || a0_0 == 1) = b → r = (b && (((n5 : Int) == 0) || a0_0 == 5)) := by
     intro b hb
     rw [← HR.out, et, e4, hb]; rfl
    have HKEY := Aside0.mk key
    clear key
    cases e2 : (a0_2 == 0) with
    | false =>
     cases e1 : (a0_0 == 1) with
     | false =>
      have HB := Aside0.mk (show r = false by rw [HKEY.out false (by rw [e2, e1]; rfl)]; rfl)
      go_wp2
      go_ret
      exact ⟨by rw [HB.out]; rfl, HW.out⟩
     | true =>
      have HE := Aside0.mk (HKEY.out true (by rw [e2, e1]; rfl))
      cases e5 : ((n5 : Int) == 0) with
      | true =>
       have HB := Aside0.mk (show r = true by rw [HE.out, e5]; rfl)
       go_wp2
       go_ret
       exact ⟨by rw [HB.out]; rfl, HW.out⟩
      | false =>
       have HB := Aside0.mk (show r = (a0_0 == 5) by rw [HE.out, e5]; rfl)
       go_wp2
       go_ret
       exact ⟨by rw [HB.out]; rfl, HW.out⟩
    | true =>
     have HE := Aside0.mk (HKEY.out true (by rw [e2]; rfl))
     cases e5 : ((n5 : Int) == 0) with
     | true =>
      have HB := Aside0.mk (show r = true by rw [HE.out, e5]; rfl)
      go_wp2
      go_ret
      exact ⟨by rw [HB.out]; rfl, HW.out⟩
     | false =>
      have HB := Aside0.mk (show r = (a0_0 == 5) by rw [HE.out, e5]; rfl)
      go_wp2
      go_ret
      exact ⟨by rw [HB.out]; rfl, HW.out⟩
end Go.Proofs.Ytikhkcnbabpneaa.P