/-
  No cell of these rows narrows 'for every input' (looked for: loops, veiled, ifaces, maps, wideKeys, modest, calm, conditions, laid).
  DERIVED. THE GIVEN ROWS OF THIS SEAT. 7 by the template 'for every input the law returns true; each argument reads behind the call as it read before'; 0 by the template 'total and deterministic' (their statements: YtcnbgamalhfkmaaTotals.lean).
  GIVEN WITH THE SEED: the statements are not yours to turn. If you find one false, say at which input.
  Laid BY PROGRAM, IN A SANDBOX (cutbox-rows.mjs): the forced cells as the released guide's own fill.sh prints them over the translation 8dcbf46ad7b6fa04… (all of the seat's roots in one cut). By AI agents, Wed Nov 11 2026. No macro, syntax, notation, axiom, sorry.
-/
import Derived.Test.YtcnbgamalhfkmaaChecked
import GoSem.Claim
import GoSem.ClaimJoined
import GoSem.ClaimMapViews
import Derived.JoinedTies
import Derived.KernelRfl
namespace Go.Proofs.Ytcnbgamalhfkmaa
/- THE CELL 'sum', in the pinned program and in every row, IS THE sha256 OF THE DUMP (.gsa) THAT YtcnbgamalhfkmaaProg.lean LOADS. Nothing in Lean hashes anything: it is a label: what it is worth is what the hold of that sum in a sandbox is worth. -/
noncomputable def Try.pinned : Pinned := { name := "ytcnbgamalhfkmaa", sum := "8dcbf46ad7b6fa0441c61035a85031a326f95de5db595a6f9947a719c5641aaf", checked := Try.checked }
namespace Rows
def none {H : Type} : Left H := { results := [], args := [] }

/-- 'selvagelaw18.Tl2Parts': WHATEVER THE INPUT: true; the input reads as it did. -/
def tl2PartsSpec : ChangeSpec := { name := "tl2Parts", fn := fun _ => fun
  | [d1, d2, d3] => { results := [.lit (.bool true)], args := [d1, d2, d3] }
  | _ => none }
def tl2PartsRow : OpenClaim := { program := "ytcnbgamalhfkmaa", sum := "8dcbf46ad7b6fa0441c61035a85031a326f95de5db595a6f9947a719c5641aaf", func := "selvage/selvagelaw18.Tl2Parts", spec := "tl2Parts", unfollowed := true, recurses := true, apart := false }
def Tl2PartsSaid : Prop := tl2PartsRow.holds Try.pinned (OpenSpec.ofChange tl2PartsSpec)

/-- ITS FALSE NEIGHBOUR: 'it returns false'. Refute it at one input. -/
def tl2PartsWrong : ChangeSpec := { name := "tl2Parts", fn := fun _ => fun
  | [d1, d2, d3] => { results := [.lit (.bool false)], args := [d1, d2, d3] }
  | _ => none }
def Tl2PartsWrongFalsely : Prop := tl2PartsRow.holds Try.pinned (OpenSpec.ofChange tl2PartsWrong)

/-- 'selvagelaw18.Tl2Alone': WHATEVER THE INPUT: true; the input reads as it did. -/
def tl2AloneSpec : ChangeSpec := { name := "tl2Alone", fn := fun _ => fun
  | [d] => { results := [.lit (.bool true)], args := [d] }
  | _ => none }
def tl2AloneRow : OpenClaim := { program := "ytcnbgamalhfkmaa", sum := "8dcbf46ad7b6fa0441c61035a85031a326f95de5db595a6f9947a719c5641aaf", func := "selvage/selvagelaw18.Tl2Alone", spec := "tl2Alone", unfollowed := true, recurses := true, apart := false }
def Tl2AloneSaid : Prop := tl2AloneRow.holds Try.pinned (OpenSpec.ofChange tl2AloneSpec)

/-- ITS FALSE NEIGHBOUR: 'it returns false'. Refute it at one input. -/
def tl2AloneWrong : ChangeSpec := { name := "tl2Alone", fn := fun _ => fun
  | [d] => { results := [.lit (.bool false)], args := [d] }
  | _ => none }
def Tl2AloneWrongFalsely : Prop := tl2AloneRow.holds Try.pinned (OpenSpec.ofChange tl2AloneWrong)

/-- 'selvagelaw18.Tl2Serial': WHATEVER THE INPUT: true; the input reads as it did. -/
def tl2SerialSpec : ChangeSpec := { name := "tl2Serial", fn := fun _ => fun
  | [d1, d2, d3] => { results := [.lit (.bool true)], args := [d1, d2, d3] }
  | _ => none }
def tl2SerialRow : OpenClaim := { program := "ytcnbgamalhfkmaa", sum := "8dcbf46ad7b6fa0441c61035a85031a326f95de5db595a6f9947a719c5641aaf", func := "selvage/selvagelaw18.Tl2Serial", spec := "tl2Serial", unfollowed := true, recurses := true, apart := false }
def Tl2SerialSaid : Prop := tl2SerialRow.holds Try.pinned (OpenSpec.ofChange tl2SerialSpec)

/-- ITS FALSE NEIGHBOUR: 'it returns false'. Refute it at one input. -/
def tl2SerialWrong : ChangeSpec := { name := "tl2Serial", fn := fun _ => fun
  | [d1, d2, d3] => { results := [.lit (.bool false)], args := [d1, d2, d3] }
  | _ => none }
def Tl2SerialWrongFalsely : Prop := tl2SerialRow.holds Try.pinned (OpenSpec.ofChange tl2SerialWrong)

/-- 'selvagelaw18.Tl2Opaque': WHATEVER THE INPUT: true; the input reads as it did. -/
def tl2OpaqueSpec : ChangeSpec := { name := "tl2Opaque", fn := fun _ => fun
  | [d] => { results := [.lit (.bool true)], args := [d] }
  | _ => none }
def tl2OpaqueRow : OpenClaim := { program := "ytcnbgamalhfkmaa", sum := "8dcbf46ad7b6fa0441c61035a85031a326f95de5db595a6f9947a719c5641aaf", func := "selvage/selvagelaw18.Tl2Opaque", spec := "tl2Opaque", unfollowed := true, recurses := true, apart := false }
def Tl2OpaqueSaid : Prop := tl2OpaqueRow.holds Try.pinned (OpenSpec.ofChange tl2OpaqueSpec)

/-- ITS FALSE NEIGHBOUR: 'it returns false'. Refute it at one input. -/
def tl2OpaqueWrong : ChangeSpec := { name := "tl2Opaque", fn := fun _ => fun
  | [d] => { results := [.lit (.bool false)], args := [d] }
  | _ => none }
def Tl2OpaqueWrongFalsely : Prop := tl2OpaqueRow.holds Try.pinned (OpenSpec.ofChange tl2OpaqueWrong)

/-- 'selvagelaw18.Tl2Words': WHATEVER THE INPUT: true; the input reads as it did. -/
def tl2WordsSpec : ChangeSpec := { name := "tl2Words", fn := fun _ => fun
  | [d] => { results := [.lit (.bool true)], args := [d] }
  | _ => none }
def tl2WordsRow : OpenClaim := { program := "ytcnbgamalhfkmaa", sum := "8dcbf46ad7b6fa0441c61035a85031a326f95de5db595a6f9947a719c5641aaf", func := "selvage/selvagelaw18.Tl2Words", spec := "tl2Words", unfollowed := true, recurses := true, apart := false }
def Tl2WordsSaid : Prop := tl2WordsRow.holds Try.pinned (OpenSpec.ofChange tl2WordsSpec)

/-- ITS FALSE NEIGHBOUR: 'it returns false'. Refute it at one input. -/
def tl2WordsWrong : ChangeSpec := { name := "tl2Words", fn := fun _ => fun
  | [d] => { results := [.lit (.bool false)], args := [d] }
  | _ => none }
def Tl2WordsWrongFalsely : Prop := tl2WordsRow.holds Try.pinned (OpenSpec.ofChange tl2WordsWrong)

/-- 'selvagelaw18.Tl2Plays': WHATEVER THE INPUT: true; the input reads as it did. -/
def tl2PlaysSpec : ChangeSpec := { name := "tl2Plays", fn := fun _ => fun
  | [d] => { results := [.lit (.bool true)], args := [d] }
  | _ => none }
def tl2PlaysRow : OpenClaim := { program := "ytcnbgamalhfkmaa", sum := "8dcbf46ad7b6fa0441c61035a85031a326f95de5db595a6f9947a719c5641aaf", func := "selvage/selvagelaw18.Tl2Plays", spec := "tl2Plays", unfollowed := true, recurses := true, apart := false }
def Tl2PlaysSaid : Prop := tl2PlaysRow.holds Try.pinned (OpenSpec.ofChange tl2PlaysSpec)

/-- ITS FALSE NEIGHBOUR: 'it returns false'. Refute it at one input. -/
def tl2PlaysWrong : ChangeSpec := { name := "tl2Plays", fn := fun _ => fun
  | [d] => { results := [.lit (.bool false)], args := [d] }
  | _ => none }
def Tl2PlaysWrongFalsely : Prop := tl2PlaysRow.holds Try.pinned (OpenSpec.ofChange tl2PlaysWrong)

/-- 'selvagelaw18.Tl2Locks': WHATEVER THE INPUT: true; the input reads as it did. -/
def tl2LocksSpec : ChangeSpec := { name := "tl2Locks", fn := fun _ => fun
  | [d1, d2] => { results := [.lit (.bool true)], args := [d1, d2] }
  | _ => none }
def tl2LocksRow : OpenClaim := { program := "ytcnbgamalhfkmaa", sum := "8dcbf46ad7b6fa0441c61035a85031a326f95de5db595a6f9947a719c5641aaf", func := "selvage/selvagelaw18.Tl2Locks", spec := "tl2Locks", unfollowed := true, recurses := true, apart := false }
def Tl2LocksSaid : Prop := tl2LocksRow.holds Try.pinned (OpenSpec.ofChange tl2LocksSpec)

/-- ITS FALSE NEIGHBOUR: 'it returns false'. Refute it at one input. -/
def tl2LocksWrong : ChangeSpec := { name := "tl2Locks", fn := fun _ => fun
  | [d1, d2] => { results := [.lit (.bool false)], args := [d1, d2] }
  | _ => none }
def Tl2LocksWrongFalsely : Prop := tl2LocksRow.holds Try.pinned (OpenSpec.ofChange tl2LocksWrong)

/- THE SECOND FORM. 'bulk': how many values and letters a reading holds, each counted each time it is reached (what is shared counts as often as it is met; a slice's spare places count too). A statement '..UptoSaid' is the law's where the arguments, and the package variables that the reading takes, are together of bulk at most 1048576: NARROWER than '..Said'. Prove '..Said' where nothing that the law and all that it calls make is longer than what came in: it says more and counts as full. Else prove '..UptoSaid'. A law counts once. -/
mutual
def uptoBulk {H : Type} : DataW H → Nat
  | .lit (.string bytes) => bytes.length + 1
  | .lit _ => 1
  | .nil => 1
  | .ptr d => uptoBulk d + 1
  | .slice elems spare => uptoBulkAll elems + uptoBulkAll spare + 1
  | .agg parts => uptoBulkAll parts + 1
  | .iface _ d => uptoBulk d + 1
  | .map entries => uptoBulkEntries entries + 1
  | .held _ => 1
def uptoBulkAll {H : Type} : List (DataW H) → Nat
  | [] => 0
  | d :: r => uptoBulk d + uptoBulkAll r
def uptoBulkEntries {H : Type} : List (Lit × DataW H) → Nat
  | [] => 0
  | x :: r => uptoBulkEntry x + uptoBulkEntries r
def uptoBulkEntry {H : Type} : Lit × DataW H → Nat
  | (.string bytes, d) => bytes.length + uptoBulk d + 1
  | (_, d) => uptoBulk d + 1
 end
def uptoSmall : (H : Type) → List (DataW H) → Bool := fun _ ds => decide (uptoBulkAll ds ≤ 1048576)
def OpenSpec.upto (s : _root_.Go.ChangeSpec) : _root_.Go.OpenSpec := { _root_.Go.OpenSpec.ofChange s with cond := some uptoSmall }

/-- 'selvagelaw18.Tl2Parts', WHERE WHAT IT READS IS OF BULK AT MOST 1048576: true; the input reads as it did. -/
def tl2PartsUptoRow : OpenClaim := { program := "ytcnbgamalhfkmaa", sum := "8dcbf46ad7b6fa0441c61035a85031a326f95de5db595a6f9947a719c5641aaf", func := "selvage/selvagelaw18.Tl2Parts", spec := "tl2Parts", unfollowed := true, recurses := true, apart := false, narrowed := true }
def Tl2PartsUptoSaid : Prop := tl2PartsUptoRow.holds Try.pinned (OpenSpec.upto tl2PartsSpec)

/-- 'selvagelaw18.Tl2Alone', WHERE WHAT IT READS IS OF BULK AT MOST 1048576: true; the input reads as it did. -/
def tl2AloneUptoRow : OpenClaim := { program := "ytcnbgamalhfkmaa", sum := "8dcbf46ad7b6fa0441c61035a85031a326f95de5db595a6f9947a719c5641aaf", func := "selvage/selvagelaw18.Tl2Alone", spec := "tl2Alone", unfollowed := true, recurses := true, apart := false, narrowed := true }
def Tl2AloneUptoSaid : Prop := tl2AloneUptoRow.holds Try.pinned (OpenSpec.upto tl2AloneSpec)

/-- 'selvagelaw18.Tl2Serial', WHERE WHAT IT READS IS OF BULK AT MOST 1048576: true; the input reads as it did. -/
def tl2SerialUptoRow : OpenClaim := { program := "ytcnbgamalhfkmaa", sum := "8dcbf46ad7b6fa0441c61035a85031a326f95de5db595a6f9947a719c5641aaf", func := "selvage/selvagelaw18.Tl2Serial", spec := "tl2Serial", unfollowed := true, recurses := true, apart := false, narrowed := true }
def Tl2SerialUptoSaid : Prop := tl2SerialUptoRow.holds Try.pinned (OpenSpec.upto tl2SerialSpec)

/-- 'selvagelaw18.Tl2Opaque', WHERE WHAT IT READS IS OF BULK AT MOST 1048576: true; the input reads as it did. -/
def tl2OpaqueUptoRow : OpenClaim := { program := "ytcnbgamalhfkmaa", sum := "8dcbf46ad7b6fa0441c61035a85031a326f95de5db595a6f9947a719c5641aaf", func := "selvage/selvagelaw18.Tl2Opaque", spec := "tl2Opaque", unfollowed := true, recurses := true, apart := false, narrowed := true }
def Tl2OpaqueUptoSaid : Prop := tl2OpaqueUptoRow.holds Try.pinned (OpenSpec.upto tl2OpaqueSpec)

/-- 'selvagelaw18.Tl2Words', WHERE WHAT IT READS IS OF BULK AT MOST 1048576: true; the input reads as it did. -/
def tl2WordsUptoRow : OpenClaim := { program := "ytcnbgamalhfkmaa", sum := "8dcbf46ad7b6fa0441c61035a85031a326f95de5db595a6f9947a719c5641aaf", func := "selvage/selvagelaw18.Tl2Words", spec := "tl2Words", unfollowed := true, recurses := true, apart := false, narrowed := true }
def Tl2WordsUptoSaid : Prop := tl2WordsUptoRow.holds Try.pinned (OpenSpec.upto tl2WordsSpec)

/-- 'selvagelaw18.Tl2Plays', WHERE WHAT IT READS IS OF BULK AT MOST 1048576: true; the input reads as it did. -/
def tl2PlaysUptoRow : OpenClaim := { program := "ytcnbgamalhfkmaa", sum := "8dcbf46ad7b6fa0441c61035a85031a326f95de5db595a6f9947a719c5641aaf", func := "selvage/selvagelaw18.Tl2Plays", spec := "tl2Plays", unfollowed := true, recurses := true, apart := false, narrowed := true }
def Tl2PlaysUptoSaid : Prop := tl2PlaysUptoRow.holds Try.pinned (OpenSpec.upto tl2PlaysSpec)

/-- 'selvagelaw18.Tl2Locks', WHERE WHAT IT READS IS OF BULK AT MOST 1048576: true; the input reads as it did. -/
def tl2LocksUptoRow : OpenClaim := { program := "ytcnbgamalhfkmaa", sum := "8dcbf46ad7b6fa0441c61035a85031a326f95de5db595a6f9947a719c5641aaf", func := "selvage/selvagelaw18.Tl2Locks", spec := "tl2Locks", unfollowed := true, recurses := true, apart := false, narrowed := true }
def Tl2LocksUptoSaid : Prop := tl2LocksUptoRow.holds Try.pinned (OpenSpec.upto tl2LocksSpec)

end Rows
end Go.Proofs.Ytcnbgamalhfkmaa
