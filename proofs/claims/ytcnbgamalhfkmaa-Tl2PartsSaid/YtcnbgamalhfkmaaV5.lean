/- tl2: Parts, of a row of deeds. -/
import Derived.Test.YtcnbgamalhfkmaaV4
import Derived.Test.YtcnbgamalhfkmaaX0
namespace Go.Proofs.Ytcnbgamalhfkmaa.P
open Go.RowKit
theorem tl2Parts_law (w : World) (A : Option Addr) (c : Nat) (l : List PDeed) (from' : Int) (hf : in64 from') (keep : Bool) (hl : DeedsAt w A l) (hlc : l.length ≤ c) :
    Calls Try.prog 3 #[.slice A l.length c, .int .i64 from', .bool keep] w fun e w' => e = .returned (.bool true) ∧ Below w.heap.size w w' := by
  have h := tl2Parts_calls w A c (l.map fun d => (d.n, d.v)) from' hf keep (fun i hi => by
    obtain ⟨ad, e, ⟨_, _, h3, h4⟩, _, _, c2, c3⟩ := hl i (by simpa using hi)
    refine ⟨ad, e, ?_⟩
    rw [List.getElem_map]
    exact ⟨c2, c3, h3, h4⟩) (by simpa using hlc)
  rwa [List.length_map] at h
end Go.Proofs.Ytcnbgamalhfkmaa.P
