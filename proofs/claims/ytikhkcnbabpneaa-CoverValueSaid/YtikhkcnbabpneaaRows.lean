/-
  NARROWER THAN 'FOR EVERY INPUT', by the rows' own cells (each row's printed sentence says how): CoverValue: loops · CoverOrder: loops · CoverAny: loops.
  DERIVED. THE GIVEN ROWS OF THIS SEAT. 5 by the template 'for every input the law returns true; each argument reads behind the call as it read before'; 0 by the template 'total and deterministic' (their statements: YtikhkcnbabpneaaTotals.lean).
  GIVEN WITH THE SEED: the statements are not yours to turn. If you find one false, say at which input.
  Laid BY PROGRAM, IN A SANDBOX (cutbox-rows.mjs): the forced cells as the released guide's own fill.sh prints them over the translation c26e18b7c0cab69a… (all of the seat's roots in one cut). By AI agents, Wed Nov 11 2026. No macro, syntax, notation, axiom, sorry.
-/
import Derived.Test.YtikhkcnbabpneaaChecked
import GoSem.Claim
import GoSem.ClaimJoined
import GoSem.ClaimMapViews
import Derived.JoinedTies
import Derived.KernelRfl
namespace Go.Proofs.Ytikhkcnbabpneaa
/- THE CELL 'sum', in the pinned program and in every row, IS THE sha256 OF THE DUMP (.gsa) THAT YtikhkcnbabpneaaProg.lean LOADS. Nothing in Lean hashes anything: it is a label: what it is worth is what the hold of that sum in a sandbox is worth. -/
noncomputable def Try.pinned : Pinned := { name := "ytikhkcnbabpneaa", sum := "c26e18b7c0cab69a5deb072e7369168695e4a6a2ae539795c9bf71a09e38dd4d", checked := Try.checked }
namespace Rows
def none {H : Type} : Left H := { results := [], args := [] }

/-- 'selvagelaw09.CoverMany': WHATEVER THE INPUT: true; the input reads as it did. -/
def coverManySpec : ChangeSpec := { name := "coverMany", fn := fun _ => fun
  | [d] => { results := [.lit (.bool true)], args := [d] }
  | _ => none }
def coverManyRow : OpenClaim := { program := "ytikhkcnbabpneaa", sum := "c26e18b7c0cab69a5deb072e7369168695e4a6a2ae539795c9bf71a09e38dd4d", func := "selvage/selvagelaw09.CoverMany", spec := "coverMany", unfollowed := true, recurses := true, apart := false }
def CoverManySaid : Prop := coverManyRow.holds Try.pinned (OpenSpec.ofChange coverManySpec)

/-- ITS FALSE NEIGHBOUR: 'it returns false'. Refute it at one input. -/
def coverManyWrong : ChangeSpec := { name := "coverMany", fn := fun _ => fun
  | [d] => { results := [.lit (.bool false)], args := [d] }
  | _ => none }
def CoverManyWrongFalsely : Prop := coverManyRow.holds Try.pinned (OpenSpec.ofChange coverManyWrong)

/-- 'selvagelaw09.CoverValue': WHATEVER THE INPUT: true; the input reads as it did. -/
def coverValueSpec : ChangeSpec := { name := "coverValue", fn := fun _ => fun
  | [d1, d2] => { results := [.lit (.bool true)], args := [d1, d2] }
  | _ => none }
def coverValueRow : OpenClaim := { program := "ytikhkcnbabpneaa", sum := "c26e18b7c0cab69a5deb072e7369168695e4a6a2ae539795c9bf71a09e38dd4d", func := "selvage/selvagelaw09.CoverValue", spec := "coverValue", unfollowed := true, recurses := true, loops := true, apart := false }
def CoverValueSaid : Prop := coverValueRow.holds Try.pinned (OpenSpec.ofChange coverValueSpec)

/-- ITS FALSE NEIGHBOUR: 'it returns false'. Refute it at one input. -/
def coverValueWrong : ChangeSpec := { name := "coverValue", fn := fun _ => fun
  | [d1, d2] => { results := [.lit (.bool false)], args := [d1, d2] }
  | _ => none }
def CoverValueWrongFalsely : Prop := coverValueRow.holds Try.pinned (OpenSpec.ofChange coverValueWrong)

/-- 'selvagelaw09.CoverOrder': WHATEVER THE INPUT: true; the input reads as it did. -/
def coverOrderSpec : ChangeSpec := { name := "coverOrder", fn := fun _ => fun
  | [d] => { results := [.lit (.bool true)], args := [d] }
  | _ => none }
def coverOrderRow : OpenClaim := { program := "ytikhkcnbabpneaa", sum := "c26e18b7c0cab69a5deb072e7369168695e4a6a2ae539795c9bf71a09e38dd4d", func := "selvage/selvagelaw09.CoverOrder", spec := "coverOrder", unfollowed := true, recurses := true, loops := true, apart := false }
def CoverOrderSaid : Prop := coverOrderRow.holds Try.pinned (OpenSpec.ofChange coverOrderSpec)

/-- ITS FALSE NEIGHBOUR: 'it returns false'. Refute it at one input. -/
def coverOrderWrong : ChangeSpec := { name := "coverOrder", fn := fun _ => fun
  | [d] => { results := [.lit (.bool false)], args := [d] }
  | _ => none }
def CoverOrderWrongFalsely : Prop := coverOrderRow.holds Try.pinned (OpenSpec.ofChange coverOrderWrong)

/-- 'selvagelaw09.CoverAny': WHATEVER THE INPUT: true; the input reads as it did. -/
def coverAnySpec : ChangeSpec := { name := "coverAny", fn := fun _ => fun
  | [d] => { results := [.lit (.bool true)], args := [d] }
  | _ => none }
def coverAnyRow : OpenClaim := { program := "ytikhkcnbabpneaa", sum := "c26e18b7c0cab69a5deb072e7369168695e4a6a2ae539795c9bf71a09e38dd4d", func := "selvage/selvagelaw09.CoverAny", spec := "coverAny", unfollowed := true, recurses := true, loops := true, apart := false }
def CoverAnySaid : Prop := coverAnyRow.holds Try.pinned (OpenSpec.ofChange coverAnySpec)

/-- ITS FALSE NEIGHBOUR: 'it returns false'. Refute it at one input. -/
def coverAnyWrong : ChangeSpec := { name := "coverAny", fn := fun _ => fun
  | [d] => { results := [.lit (.bool false)], args := [d] }
  | _ => none }
def CoverAnyWrongFalsely : Prop := coverAnyRow.holds Try.pinned (OpenSpec.ofChange coverAnyWrong)

/-- 'selvagelaw10.TreeMany': WHATEVER THE INPUT: true; the input reads as it did. -/
def treeManySpec : ChangeSpec := { name := "treeMany", fn := fun _ => fun
  | [d] => { results := [.lit (.bool true)], args := [d] }
  | _ => none }
def treeManyRow : OpenClaim := { program := "ytikhkcnbabpneaa", sum := "c26e18b7c0cab69a5deb072e7369168695e4a6a2ae539795c9bf71a09e38dd4d", func := "selvage/selvagelaw10.TreeMany", spec := "treeMany", unfollowed := true, recurses := true, apart := false }
def TreeManySaid : Prop := treeManyRow.holds Try.pinned (OpenSpec.ofChange treeManySpec)

/-- ITS FALSE NEIGHBOUR: 'it returns false'. Refute it at one input. -/
def treeManyWrong : ChangeSpec := { name := "treeMany", fn := fun _ => fun
  | [d] => { results := [.lit (.bool false)], args := [d] }
  | _ => none }
def TreeManyWrongFalsely : Prop := treeManyRow.holds Try.pinned (OpenSpec.ofChange treeManyWrong)

/- THE SECOND FORM. 'bulk': how many values and letters a reading holds, each counted each time it is reached (what is shared counts as often as it is met; a slice's spare places count too). A statement '..UptoSaid' is the law's where the arguments, and the package variables that the reading takes, are together of bulk at most 1048576: NARROWER than '..Said'. Prove '..Said' where nothing that the law and all that it calls make is longer than what came in: it says more and counts as full. Else prove '..UptoSaid'. A law counts once. -/
mutual
def uptoBulk {H : Type} : DataW H → Nat
  | .lit (.string bytes) => bytes.length + 1
  | .lit _ => 1
  | .nil => 1
  | .ptr d => uptoBulk d + 1
  | .slice elems spare => uptoBulkAll elems + uptoBulkAll spare + 1
  | .agg parts => uptoBulkAll parts + 1
  | .iface _ d => uptoBulk d + 1
  | .map entries => uptoBulkEntries entries + 1
  | .held _ => 1
def uptoBulkAll {H : Type} : List (DataW H) → Nat
  | [] => 0
  | d :: r => uptoBulk d + uptoBulkAll r
def uptoBulkEntries {H : Type} : List (Lit × DataW H) → Nat
  | [] => 0
  | x :: r => uptoBulkEntry x + uptoBulkEntries r
def uptoBulkEntry {H : Type} : Lit × DataW H → Nat
  | (.string bytes, d) => bytes.length + uptoBulk d + 1
  | (_, d) => uptoBulk d + 1
 end
def uptoSmall : (H : Type) → List (DataW H) → Bool := fun _ ds => decide (uptoBulkAll ds ≤ 1048576)
def OpenSpec.upto (s : _root_.Go.ChangeSpec) : _root_.Go.OpenSpec := { _root_.Go.OpenSpec.ofChange s with cond := some uptoSmall }

/-- 'selvagelaw09.CoverMany', WHERE WHAT IT READS IS OF BULK AT MOST 1048576: true; the input reads as it did. -/
def coverManyUptoRow : OpenClaim := { program := "ytikhkcnbabpneaa", sum := "c26e18b7c0cab69a5deb072e7369168695e4a6a2ae539795c9bf71a09e38dd4d", func := "selvage/selvagelaw09.CoverMany", spec := "coverMany", unfollowed := true, recurses := true, apart := false, narrowed := true }
def CoverManyUptoSaid : Prop := coverManyUptoRow.holds Try.pinned (OpenSpec.upto coverManySpec)

/-- 'selvagelaw09.CoverValue', WHERE WHAT IT READS IS OF BULK AT MOST 1048576: true; the input reads as it did. -/
def coverValueUptoRow : OpenClaim := { program := "ytikhkcnbabpneaa", sum := "c26e18b7c0cab69a5deb072e7369168695e4a6a2ae539795c9bf71a09e38dd4d", func := "selvage/selvagelaw09.CoverValue", spec := "coverValue", unfollowed := true, recurses := true, loops := true, apart := false, narrowed := true }
def CoverValueUptoSaid : Prop := coverValueUptoRow.holds Try.pinned (OpenSpec.upto coverValueSpec)

/-- 'selvagelaw09.CoverOrder', WHERE WHAT IT READS IS OF BULK AT MOST 1048576: true; the input reads as it did. -/
def coverOrderUptoRow : OpenClaim := { program := "ytikhkcnbabpneaa", sum := "c26e18b7c0cab69a5deb072e7369168695e4a6a2ae539795c9bf71a09e38dd4d", func := "selvage/selvagelaw09.CoverOrder", spec := "coverOrder", unfollowed := true, recurses := true, loops := true, apart := false, narrowed := true }
def CoverOrderUptoSaid : Prop := coverOrderUptoRow.holds Try.pinned (OpenSpec.upto coverOrderSpec)

/-- 'selvagelaw09.CoverAny', WHERE WHAT IT READS IS OF BULK AT MOST 1048576: true; the input reads as it did. -/
def coverAnyUptoRow : OpenClaim := { program := "ytikhkcnbabpneaa", sum := "c26e18b7c0cab69a5deb072e7369168695e4a6a2ae539795c9bf71a09e38dd4d", func := "selvage/selvagelaw09.CoverAny", spec := "coverAny", unfollowed := true, recurses := true, loops := true, apart := false, narrowed := true }
def CoverAnyUptoSaid : Prop := coverAnyUptoRow.holds Try.pinned (OpenSpec.upto coverAnySpec)

/-- 'selvagelaw10.TreeMany', WHERE WHAT IT READS IS OF BULK AT MOST 1048576: true; the input reads as it did. -/
def treeManyUptoRow : OpenClaim := { program := "ytikhkcnbabpneaa", sum := "c26e18b7c0cab69a5deb072e7369168695e4a6a2ae539795c9bf71a09e38dd4d", func := "selvage/selvagelaw10.TreeMany", spec := "treeMany", unfollowed := true, recurses := true, apart := false, narrowed := true }
def TreeManyUptoSaid : Prop := treeManyUptoRow.holds Try.pinned (OpenSpec.upto treeManySpec)

end Rows
end Go.Proofs.Ytikhkcnbabpneaa
