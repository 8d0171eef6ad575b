/- tl2: maps of ints in memory; rows of flat elements. -/
import Derived.Test.YtcnbgamalhfkmaaProg
import Derived.Below
import Derived.Deep.Draws
import Derived.Deep.AppendLies
import Derived.Maps.AppendAt
import Derived.OwnWalk
import Derived.Laws.BytesArg
import Derived.Laws.MakeOwn
import Derived.Laws.OwnMore
import Derived.Deep.OwnRows
import Derived.Tactics
import Derived.Lib.ConvBytes
import Derived.Laws.Slices
import Derived.WalkKit
import Derived.KernelRfl
import Derived.RowKit3
import Derived.Deep.LoopGhost
import Derived.Deep.QuietTactic
import Derived.BigQuiet
import Derived.WideLaws
import Derived.Deep.DeepCutAuto
import Derived.Deep.CutBlock
import Derived.Deep.RegionHeld3
import Derived.Laws.Rows
import Derived.Lib.AppendStr
import Derived.ArgAppend
import Derived.Laws.IdiomCopy
import Derived.OrdersHeld
import Derived.Laws.BitsLemmas
import Derived.RowKit
import Derived.Test.YtcnbgamalhfkmaaWWords
import Derived.Test.YtcnbgamalhfkmaaWLast
import Derived.Test.YtcnbgamalhfkmaaWTab
import Derived.Test.YtcnbgamalhfkmaaWFour
import Derived.Test.YtcnbgamalhfkmaaWQPut
import Derived.Test.YtcnbgamalhfkmaaWApart
import Derived.Test.YtcnbgamalhfkmaaWArr
import Derived.Test.YtcnbgamalhfkmaaWZeros
import Derived.Test.YtcnbgamalhfkmaaWFoot
import Derived.Test.YtcnbgamalhfkmaaWKept
import Derived.Test.YtcnbgamalhfkmaaWShare
import Derived.Test.YtcnbgamalhfkmaaWN
import Derived.Test.YtcnbgamalhfkmaaWFootNe
import Derived.Test.YtcnbgamalhfkmaaWAt
import Derived.Test.YtcnbgamalhfkmaaWEqStruct
import Derived.Test.YtcnbgamalhfkmaaWRepsOne
import Derived.Test.YtcnbgamalhfkmaaWInv
import Derived.Test.YtcnbgamalhfkmaaWInvWords
import Derived.Test.YtcnbgamalhfkmaaWGuard
import Derived.Test.YtcnbgamalhfkmaaWNEv
import Derived.Test.YtcnbgamalhfkmaaWMore
import Derived.Maps.OwnSet
import Derived.Shelf.Abstract
import Derived.StillTailTactics
import Derived.Deep.RegionLawGrows
import Derived.WalkSpells
import Derived.Test.YtcnbgamalhfkmaaM0
namespace Go.Proofs.Ytcnbgamalhfkmaa.P
open Go.RowKit Go.Proofs.YtcnbgamalhfkmaaW.PrintWords Go.Proofs.YtcnbgamalhfkmaaW.PrintLast Go.Proofs.YtcnbgamalhfkmaaW.PrintMore
set_option linter.unusedVariables false
set_option linter.unusedSimpArgs false
open Go.WideShapes Go.Maps

/-! maps -/
def keyL (k : Int) : Lit := .int .i64 k
def toD (m : Mp) : DataW Unit := .map (m.map fun e => (keyL e.1, .lit (keyL e.2)))
theorem before_key (a b : Int) : (keyL a).before (keyL b) = decide (a < b) := rfl
theorem same_key (a b : Int) : (keyL a).sameKey (keyL b) = (a == b) := by
  unfold keyL Lit.sameKey
  by_cases h : a = b <;> simp [h]
theorem insert_toD (x : Int × Int) : ∀ m : Mp, DataW.insert (keyL x.1, (.lit (keyL x.2) : DataW Unit)) (m.map fun e => (keyL e.1, .lit (keyL e.2))) = (insM x m).map fun e => (keyL e.1, .lit (keyL e.2))
  | [] => rfl
  | y :: r => by
    simp only [List.map_cons, DataW.insert, insM, before_key, decide_eq_true_eq]
    split
    · rfl
    · rw [insert_toD x r]; rfl
theorem put_toD (m : Mp) (k v : Int) : (toD m).put (keyL k) (.lit (keyL v)) = toD (putM m k v) := by
  unfold toD DataW.put putM
  simp only
  rw [← insert_toD (k, v), List.filter_map]
  congr 2
  refine congrArg _ (List.filter_congr fun p hp => ?_)
  simp [same_key, bne]
theorem find_toD (m : Mp) (k : Int) : (m.map fun e => (keyL e.1, (.lit (keyL e.2) : DataW Unit))).find? (fun p => p.1.sameKey (keyL k)) = (m.find? fun p => p.1 == k).map fun e => (keyL e.1, .lit (keyL e.2)) := by
  rw [List.find?_map]
  congr 2
  funext p
  simp [same_key]
theorem at_toD (m : Mp) (k : Int) : (toD m).atKey (keyL k) (.lit (keyL 0)) = .lit (keyL ((getM m k).getD 0)) := by
  unfold toD DataW.atKey getM
  simp only
  rw [find_toD]
  cases m.find? fun p => p.1 == k <;> rfl
theorem has_toD (m : Mp) (k : Int) : Maps.has (toD m) (keyL k) = (getM m k).isSome := by
  unfold toD getM
  rw [Maps.has_eq, List.any_map]
  cases h : m.find? fun p => p.1 == k with
  | none =>
    rw [List.find?_eq_none] at h
    simp only [Option.map_none, Option.isSome_none, List.any_eq_false, Function.comp, same_key]
    exact h
  | some p =>
    simp only [Option.map_some, Option.isSome_some, List.any_eq_true, Function.comp, same_key]
    exact ⟨p, List.mem_of_find?_eq_some h, by simpa using List.find?_some h⟩
/-- Block b is the map m. -/
def MapAt (w : World) (b : Nat) (m : Mp) : Prop := w.ownsMap Try.prog 3 (plainElem Try.prog 3) b m.length (toD m)
theorem MapAt.of {w : World} {b n : Nat} {m : Mp} (h : w.ownsMap Try.prog 3 (plainElem Try.prog 3) b n (toD m)) : MapAt w b m := by
  obtain ⟨es, clock, hb, F, hs, hD⟩ := h
  refine ⟨es, clock, hb, F, ?_, hD⟩
  have h1 : (toD m : DataW Unit) = .map ((es.toList.map (WideElems.rg Try.prog 3 (plainElem Try.prog 3))).foldr DataW.insert []) := hD
  unfold toD at h1
  have h2 := congrArg List.length (DataW.map.inj h1)
  rw [List.length_map, length_sorted, List.length_map] at h2
  have h3 : es.toList.length = es.size := Array.length_toList
  omega
theorem MapAt.lt {w : World} {b : Nat} {m : Mp} (h : MapAt w b m) : b < w.heap.size := World.ownsMap.lt h
theorem MapAt.move {w w1 : World} {b : Nat} {m : Mp} (h : MapAt w b m) (hb : w1.heap[b]? = w.heap[b]?) : MapAt w1 b m := by
  obtain ⟨es, clock, hh, F, hs, hD⟩ := h
  exact ⟨es, clock, hb.trans hh, F, hs, hD⟩
theorem MapAt.made (w : World) : MapAt (w.alloc (.map #[] 0)) w.heap.size [] := World.ownsMap_made w _ _ _
theorem lawM : Go.Maps.Keyed Try.prog 3 := Go.Maps.int_keyed Try.underlying3
theorem zeroM (w : World) : (zeroValue 3).run Try.prog w = .ok (.int .i64 0) w := by kernel_rfl
def in64 (x : Int) : Prop := -9223372036854775808 ≤ x ∧ x ≤ 9223372036854775807
theorem in64_wf {x : Int} (h : in64 x) : (Lit.int .i64 x).wf = true := WalkArith.wf_i64 h
theorem key_in {x : Int} (h : in64 x) : keyOf Try.prog 3 (.int .i64 x) = some (keyL x) := Go.Maps.keyOf_int_mk Try.underlying3 (in64_wf h)
end Go.Proofs.Ytcnbgamalhfkmaa.P
