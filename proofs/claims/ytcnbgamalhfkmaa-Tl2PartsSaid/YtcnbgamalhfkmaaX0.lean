/- tl2: an argument that is a row of deeds reads as a list of them. -/
import Derived.Test.YtcnbgamalhfkmaaA1
import Derived.ChangeArms
import Derived.DataReads
import Derived.Deep.Slices
import Derived.IntWalk
namespace Go.Proofs.Ytcnbgamalhfkmaa.P
open Go.RowKit Go.Proofs.YtcnbgamalhfkmaaW.PrintWords Go.Proofs.YtcnbgamalhfkmaaW.PrintLast Go.Proofs.YtcnbgamalhfkmaaW.PrintMore
set_option linter.unusedVariables false
set_option linter.unusedSimpArgs false
open Go.WideShapes Go.Maps
structure PDeed where
  k : Int
  t : Int
  n : Int
  v : Int
def PDeed.ok (d : PDeed) : Prop := in64 d.k ∧ in64 d.t ∧ in64 d.n ∧ in64 d.v
/-- A row of deeds lies at A. -/
def DeedsAt (W : World) (A : Option Addr) (l : List PDeed) : Prop := ∀ i (h : i < l.length), ∃ ad, A = some ad ∧ PDeed.ok l[i] ∧
  W.cell? (ad.add (i * 4)) = some (.int .i64 l[i].k) ∧ W.cell? ((ad.add (i * 4)).add 1) = some (.int .i64 l[i].t) ∧ W.cell? ((ad.add (i * 4)).add 2) = some (.int .i64 l[i].n) ∧ W.cell? ((ad.add (i * 4)).add 3) = some (.int .i64 l[i].v)
theorem list_of {α : Type} {P : Nat → α → Prop} : ∀ (n : Nat), (∀ i, i < n → ∃ x, P i x) → ∃ l : List α, l.length = n ∧ ∀ i (h : i < l.length), P i l[i]
  | 0, _ => ⟨[], rfl, fun i h => by simp at h⟩
  | n + 1, h => by
    obtain ⟨l, hl, hp⟩ := list_of n (fun i hi => h i (by omega))
    obtain ⟨x, hx⟩ := h n (by omega)
    refine ⟨l ++ [x], by simp [hl], fun i hi => ?_⟩
    by_cases hlt : i < l.length
    · rw [List.getElem_append_left hlt]; exact hp i hlt
    · have : i = n := by simp at hi; omega
      subst this
      rw [List.getElem_append_right (by omega)]
      simpa using hx
theorem wf_in {n : Int} (h : (Lit.int .i64 n).wf = true) : in64 n := by
  unfold in64
  simp [Lit.wf, IntKind.min, IntKind.max, IntKind.signed, IntKind.bits] at h
  omega
theorem len_four {α : Type} {l : List α} (h : l.length = 4) : ∃ v0 v1 v2 v3, l = [v0, v1, v2, v3] := by
  rcases l with _ | ⟨v0, _ | ⟨v1, _ | ⟨v2, _ | ⟨v3, _ | ⟨v4, l⟩⟩⟩⟩⟩
  all_goals first | exact ⟨v0, v1, v2, v3, rfl⟩ | (simp at h)
variable {H : Type} {enc : TypeId × Value → H} {W : World} {base : Nat} {spare : Nat → Bool} {held : Bool}
theorem open_deeds {fuel : Nat} {cs : List Value} {x : DataW H × List MemPlace} (h : DataW.trod enc Try.prog W base spare held fuel 22 cs = some x) :
    ∃ A len cap, ∃ l : List PDeed, cs = [.slice A len cap] ∧ len ≤ cap ∧ l.length = len ∧ DeedsAt W A l := by
  rcases DataW.trod_slice Try.underlying22 h with ⟨rfl, rfl⟩ | ⟨a, len, cap, elems, rest, n, hfu, rfl, rfl, hb, hl, hm, hlen, hel, _, _⟩
  · exact ⟨none, 0, 0, [], rfl, Nat.le_refl _, rfl, fun i h => by simp at h⟩
  · have hsz : Try.prog.cellsOf 31 = 4 := by kernel_rfl
    have h3 : Try.prog.cellsOf 3 = 1 := by kernel_rfl
    obtain ⟨l, hll, hC⟩ := list_of (P := fun i (d : PDeed) => PDeed.ok d ∧ W.cell? (a.add (i * 4)) = some (.int .i64 d.k) ∧ W.cell? ((a.add (i * 4)).add 1) = some (.int .i64 d.t) ∧ W.cell? ((a.add (i * 4)).add 2) = some (.int .i64 d.n) ∧ W.cell? ((a.add (i * 4)).add 3) = some (.int .i64 d.v)) len (fun i hi => by
      have := hel i hi
      rw [List.getElem?_eq_getElem (by omega), Option.bind_eq_some_iff] at this
      obtain ⟨cs', hc, ht⟩ := this
      rw [hsz] at hc
      obtain ⟨_, hcl, hat⟩ := World.cells?_some hc
      obtain ⟨ys, m, hm2, _, _, hyl, hf⟩ := DataW.trod_struct Try.underlying31 ht
      obtain ⟨v0, v1, v2, v3, rfl⟩ : ∃ v0 v1 v2 v3, cs' = [v0, v1, v2, v3] := len_four hcl
      have hys : ∀ j, j < 4 → ∃ y, ys[j]? = some y := fun j hj => ⟨_, List.getElem?_eq_getElem (by rw [hyl]; exact hj)⟩
      obtain ⟨y0, e0⟩ := hys 0 (by omega)
      obtain ⟨y1, e1⟩ := hys 1 (by omega)
      obtain ⟨y2, e2⟩ := hys 2 (by omega)
      obtain ⟨y3, e3⟩ := hys 3 (by omega)
      have f0 : DataW.trod enc Try.prog W base spare held m 3 [v0] = some y0 := by
        have f := (hf 0 _ rfl).trans e0
        change DataW.trod enc Try.prog W base spare held m 3 (List.take (Try.prog.cellsOf 3) (List.drop 0 [v0, v1, v2, v3])) = some y0 at f
        rw [h3] at f
        exact f
      have f1 : DataW.trod enc Try.prog W base spare held m 3 [v1] = some y1 := by
        have f := (hf 1 _ rfl).trans e1
        change DataW.trod enc Try.prog W base spare held m 3 (List.take (Try.prog.cellsOf 3) (List.drop 1 [v0, v1, v2, v3])) = some y1 at f
        rw [h3] at f
        exact f
      have f2 : DataW.trod enc Try.prog W base spare held m 3 [v2] = some y2 := by
        have f := (hf 2 _ rfl).trans e2
        change DataW.trod enc Try.prog W base spare held m 3 (List.take (Try.prog.cellsOf 3) (List.drop 2 [v0, v1, v2, v3])) = some y2 at f
        rw [h3] at f
        exact f
      have f3 : DataW.trod enc Try.prog W base spare held m 3 [v3] = some y3 := by
        have f := (hf 3 _ rfl).trans e3
        change DataW.trod enc Try.prog W base spare held m 3 (List.take (Try.prog.cellsOf 3) (List.drop 3 [v0, v1, v2, v3])) = some y3 at f
        rw [h3] at f
        exact f
      obtain ⟨n0, g0, _, w0⟩ := DataW.trod_int Try.underlying3 f0
      obtain ⟨n1, g1, _, w1⟩ := DataW.trod_int Try.underlying3 f1
      obtain ⟨n2, g2, _, w2⟩ := DataW.trod_int Try.underlying3 f2
      obtain ⟨n3, g3, _, w3⟩ := DataW.trod_int Try.underlying3 f3
      injection g0 with g0 _
      injection g1 with g1 _
      injection g2 with g2 _
      injection g3 with g3 _
      subst g0 g1 g2 g3
      exact ⟨⟨n0, n1, n2, n3⟩, ⟨wf_in w0, wf_in w1, wf_in w2, wf_in w3⟩, hat 0 (by omega), hat 1 (by omega), hat 2 (by omega), hat 3 (by omega)⟩)
    exact ⟨some a, len, cap, l, rfl, hl, hll, fun i hi => ⟨a, rfl, (hC i hi).1, (hC i hi).2⟩⟩
end Go.Proofs.Ytcnbgamalhfkmaa.P
