/- tl2: lives. -/
import Derived.Test.YtcnbgamalhfkmaaU0
namespace Go.Proofs.Ytcnbgamalhfkmaa.P
open Go.RowKit Go.Proofs.YtcnbgamalhfkmaaW.PrintWords Go.Proofs.YtcnbgamalhfkmaaW.PrintLast Go.Proofs.YtcnbgamalhfkmaaW.PrintMore
set_option linter.unusedVariables false
set_option linter.unusedSimpArgs false
open Go.WideShapes Go.Maps Go.Shelf
theorem zero64 : in64 0 := by unfold in64; omega
theorem lvs5 (x : PTx) (h : ofE lv5 0 = some x) : StepOK lv5 x := by
  have h' : some (⟨0, 0, [0], [[(0, 6)]], false, false, []⟩ : PTx) = some x := h
  injection h' with e; subst e
  exact ⟨by simp, by decide, by decide, fun n hn => by have : n = 0 := by simpa [keysM] using hn
                                                       subst this; exact ⟨rfl, zero64⟩, fun n hn => by have : n = 0 := by simpa using hn
                                                                                                       subst this; rfl, by decide, fun h => (by cases h), ⟨by decide, by decide⟩⟩
theorem lvs6 (x : PTx) (h : ofE lv6 0 = some x) : StepOK lv6 x := by
  have h' : some (⟨0, 0, [0], [[(0, 6)]], true, false, []⟩ : PTx) = some x := h
  injection h' with e; subst e
  exact ⟨by simp, by decide, by decide, fun n hn => by have : n = 0 := by simpa [keysM] using hn
                                                       subst this; exact ⟨rfl, zero64⟩, fun n hn => by have : n = 0 := by simpa using hn
                                                                                                       subst this; rfl, by decide, fun h => (by cases h), ⟨by decide, by decide⟩⟩
theorem lvs7 (x : PTx) (h : ofE lv7 0 = some x) : StepOK lv7 x := by
  have h' : some (⟨0, 1, [0], [[(0, 6)]], true, true, [0]⟩ : PTx) = some x := h
  injection h' with e; subst e
  exact ⟨by simp, by decide, by decide, fun n hn => by have : n = 0 := by simpa [keysM] using hn
                                                       subst this; exact ⟨rfl, zero64⟩, fun n hn => by have : n = 0 := by simpa using hn
                                                                                                       subst this; rfl, by decide, fun h => ⟨0, [], rfl, rfl, zero64, by decide⟩, ⟨by decide, by decide⟩⟩
theorem lvr3 (x : PTx) (h : openE lv3 0 = some x) : x.parts ≠ [] ∧ x.parts.length ≤ 100000 ∧ x.reads.length ≤ 100000 := by
  have h' : some lv0 = some x := h
  injection h' with e; subst e
  exact ⟨by simp [lv0], by decide, by decide⟩
theorem lvr8 (x : PTx) (h : openE lv8 1 = some x) : x.parts ≠ [] ∧ x.parts.length ≤ 100000 ∧ x.reads.length ≤ 100000 := by
  have h' : some lv0 = some x := h
  injection h' with e; subst e
  exact ⟨by simp [lv0], by decide, by decide⟩
theorem lvw4 (x : PTx) (h : openE lv4 0 = some x) : x.parts ≠ [] ∧ x.parts.length ≤ 100000 ∧ ∀ p ∈ x.parts, p.length ≤ 100000 := by
  have h' : some (⟨0, 0, [0], [[]], false, false, []⟩ : PTx) = some x := h
  injection h' with e; subst e
  exact ⟨by simp, by decide, fun p hp => by have : p = [] := by simpa using hp
                                            subst this; decide⟩
set_option maxHeartbeats 8000000 in
set_option maxRecDepth 100000 in
theorem lives2_calls (w : World) : Calls Try.prog 17 #[] w fun e w' => e = .returned (.bool true) ∧ Below w.heap.size w w' := by
  have hn := new_calls w
  have H0 := Aside0.mk (Lone.new w)
  go_enter Try.func17, Try.ntmps17
  go_wp2_with fail
  refine hn.mono ?_; rintro e w' ⟨rfl, rfl⟩
  clear hn
  generalize w.alloc (.cells #[.int .i64 0, .slice none 0 0, .pointer none, .pointer none, .pointer none, .pointer none, .pointer none, .pointer none, .pointer none, .pointer none] 77) = W0 at *
  have c1 := H0.out.make 5 lva1 (by decide)
  go_wp2_with fail
  refine c1.mono ?_; rintro e W1 ⟨rfl, H1⟩
  clear c1 H0
  have c2 := H1.out.begin 1 lva2
  go_wp2_with fail
  refine c2.mono ?_; rintro e W2 ⟨rfl, H2⟩
  clear c2 H1
  have c3 := H2.out.begin 0 lva3
  go_wp2_with fail
  refine c3.mono ?_; rintro e W3 ⟨rfl, H3⟩
  clear c3 H2
  have c4 := H3.out.read 0 0 lva4 zero64 lvr3
  go_wp2_with fail
  refine c4.mono ?_; rintro e W4 ⟨rfl, H4⟩
  clear c4 H3
  have c5 := H4.out.write 0 0 6 lva5 zero64 (by unfold in64; omega) lvw4
  go_wp2_with fail
  refine c5.mono ?_; rintro e W5 ⟨rfl, H5⟩
  clear c5 H4
  have c6 := H5.out.step 0 lva6 lvs5
  go_wp2_with fail
  refine c6.mono ?_; rintro e W6 ⟨rfl, H6⟩
  clear c6 H5
  have c7 := H6.out.step 0 lva7 lvs6
  go_wp2_with fail
  refine c7.mono ?_; rintro e W7 ⟨rfl, H7⟩
  clear c7 H6
  have c8 := H7.out.step 0 lva8 lvs7
  go_wp2_with fail
  refine c8.mono ?_; rintro e W8 ⟨rfl, H8⟩
  clear c8 H7
  have c9 := H8.out.value 0 lva9
  go_wp2_with fail
  refine c9.mono ?_; rintro e W9 ⟨rfl, rfl⟩
  clear c9
  have cA := H8.out.read 1 0 lvaA zero64 lvr8
  go_wp2_with fail
  refine cA.mono ?_; rintro e WA ⟨rfl, HA⟩
  clear cA H8
  have cB := HA.out.active 0 lvaB
  go_wp2_with fail
  refine cB.mono ?_; rintro e WB ⟨rfl, rfl⟩
  clear cB
  go_wp2
  go_ret
  obtain ⟨_, _, _, _, hb⟩ := HA.out
  exact ⟨rfl, hb⟩
end Go.Proofs.Ytcnbgamalhfkmaa.P
