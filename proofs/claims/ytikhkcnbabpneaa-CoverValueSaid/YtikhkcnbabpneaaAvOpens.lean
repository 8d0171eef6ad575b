/- An argument that is a row of nodes: it reads as a list of them. -/
import Derived.Test.YtikhkcnbabpneaaAvPx0
import Derived.ChangeArms
import Derived.DataReads
import Derived.Deep.Slices
namespace Go.Proofs.Ytikhkcnbabpneaa.P
open Go.RowKit Go.Proofs.YtikhkcnbabpneaaW.PrintWords Go.Proofs.YtikhkcnbabpneaaW.PrintLast Go.Proofs.YtikhkcnbabpneaaW.PrintMore
set_option linter.unusedVariables false
set_option linter.unusedSimpArgs false
theorem list_of {α : Type} {P : Nat → α → Prop} : ∀ (n : Nat), (∀ i, i < n → ∃ x, P i x) → ∃ l : List α, l.length = n ∧ ∀ i x, l[i]? = some x → P i x
 | 0, _ => ⟨[], rfl, fun i x h => by simp at h⟩
 | n + 1, h => by
  obtain ⟨l, hl, hp⟩ := list_of n (fun i hi => h i (by omega))
  obtain ⟨x, hx⟩ := h n (by omega)
  refine ⟨l ++ [x], by simp [hl], fun i y hy => ?_⟩
  by_cases hi : i < l.length
  ·
   rw [List.getElem?_append_left hi] at hy; exact hp i y hy
  ·
   rw [List.getElem?_append_right (by omega)] at hy
   by_cases h0 : i - l.length = 0
   ·
    rw [h0] at hy
    have : i = n := by omega
    subst this
    simp at hy; subst hy; exact hx
   ·
    have : ([x] : List α)[i - l.length]? = none := by simp; omega
    rw [this] at hy; cases hy
theorem C_of_elems {α : Type} {d : Kd α} {w : World} {a : Addr} {n : Nat} (hn : n ≤ 9223372036854775807) (h : ∀ i, i < n → ∃ x : α, ∃ cs, d.K w x cs ∧ cs.length = d.sz ∧ ∀ j, j < d.sz → w.cell? ((a.add (i * d.sz)).add j) = cs[j]?) :
 ∃ l : List α, l.length = n ∧ Kd.C d w (some a) l.length l := by
 obtain ⟨l, hl, hp⟩ := list_of n h
 refine ⟨l, hl, rfl, by omega, fun _ => ⟨a, rfl, fun j p hj => ?_⟩⟩
 obtain ⟨cs, hK, hcl, hc⟩ := hp j p hj
 refine ⟨cs, hcl, hK, fun i u hu => ?_⟩
 have hi : i < cs.length := (List.getElem?_eq_some_iff.1 hu).1
 rw [← Go.Deep.add_add, hc i (by omega)]
 exact hu
theorem len_six {α : Type} {l : List α} (h : l.length = 6) : ∃ v0 v1 v2 v3 v4 v5, l = [v0, v1, v2, v3, v4, v5] := by
 rcases l with _ | ⟨v0, _ | ⟨v1, _ | ⟨v2, _ | ⟨v3, _ | ⟨v4, _ | ⟨v5, _ | ⟨v6, l⟩⟩⟩⟩⟩⟩⟩
 all_goals first | exact ⟨v0, v1, v2, v3, v4, v5, rfl⟩ | (simp at h)
variable {H : Type} {enc : TypeId × Value → H} {W : World} {base : Nat} {spare : Nat → Bool} {held : Bool}
theorem open_strings {fuel : Nat} {cs : List Value} {x : DataW H × List MemPlace} (h : DataW.trod enc Try.prog W base spare held fuel 23 cs = some x) :
 ∃ A len cap, ∃ l : List ByteArray, cs = [.slice A len cap] ∧ len ≤ cap ∧ l.length = len ∧ Kd.C Kd.string W A l.length l := by
 rcases DataW.trod_slice Try.underlying23 h with ⟨rfl, rfl⟩ | ⟨a, len, cap, elems, rest, n, rfl, rfl, rfl, hb, hl, hm, hlen, hel, _, _⟩
 ·
  exact ⟨none, 0, 0, [], rfl, Nat.le_refl _, rfl, Kd.C_nil _ _⟩
 ·
  have hmx : maxLen ≤ 9223372036854775807 := by decide
  have hsz : Try.prog.cellsOf 9 = 1 := by kernel_rfl
  obtain ⟨l, hll, hC⟩ := C_of_elems (d := Kd.string) (w := W) (a := a) (n := len) (by omega) (fun i hi => by
   have := hel i hi
   rw [List.getElem?_eq_getElem (by omega), Option.bind_eq_some_iff] at this
   obtain ⟨cs', hc, ht⟩ := this
   rw [hsz] at hc
   obtain ⟨_, hcl, hat⟩ := World.cells?_some hc
   obtain ⟨s, rfl, _, _⟩ := DataW.trod_string Try.underlying9 ht
   exact ⟨s, [.string s], rfl, rfl, fun j hj => hat j hj⟩)
  exact ⟨some a, len, cap, l, rfl, hl, hll, hC⟩
theorem open_nodes : ∀ (fuel : Nat) (cs : List Value) (x : DataW H × List MemPlace), DataW.trod enc Try.prog W base spare held fuel 22 cs = some x →
 ∃ A len cap, ∃ l : List S25, cs = [.slice A len cap] ∧ len ≤ cap ∧ l.length = len ∧ Kd.C k25 W A l.length l := by
 intro fuel
 induction fuel using Nat.strongRecOn with
 | _ fuel ih =>
  intro cs x h
  rcases DataW.trod_slice Try.underlying22 h with ⟨rfl, rfl⟩ | ⟨a, len, cap, elems, rest, n, hfu, rfl, rfl, hb, hl, hm, hlen, hel, _, _⟩
  ·
   exact ⟨none, 0, 0, [], rfl, Nat.le_refl _, rfl, Kd.C_nil _ _⟩
  ·
   have hmx : maxLen ≤ 9223372036854775807 := by decide
   have hsz : Try.prog.cellsOf 25 = 6 := by kernel_rfl
   have h3 : Try.prog.cellsOf 3 = 1 := by kernel_rfl
   have h9 : Try.prog.cellsOf 9 = 1 := by kernel_rfl
   have h23 : Try.prog.cellsOf 23 = 1 := by kernel_rfl
   have h22 : Try.prog.cellsOf 22 = 1 := by kernel_rfl
   obtain ⟨l, hll, hC⟩ := C_of_elems (d := k25) (w := W) (a := a) (n := len) (by omega) (fun i hi => by
    have := hel i hi
    rw [List.getElem?_eq_getElem (by omega), Option.bind_eq_some_iff] at this
    obtain ⟨cs', hc, ht⟩ := this
    rw [hsz] at hc
    obtain ⟨_, hcl, hat⟩ := World.cells?_some hc
    obtain ⟨ys, m, hm2, _, _, hyl, hf⟩ := DataW.trod_struct Try.underlying25 ht
    obtain ⟨v0, v1, v2, v3, v4, v5, rfl⟩ : ∃ v0 v1 v2 v3 v4 v5, cs' = [v0, v1, v2, v3, v4, v5] := by
     exact len_six hcl
    have hys : ∀ j, j < 6 → ∃ y, ys[j]? = some y := fun j hj => ⟨_, List.getElem?_eq_getElem (by rw [hyl]; exact hj)⟩
    obtain ⟨y0, e0⟩ := hys 0 (by omega)
    obtain ⟨y1, e1⟩ := hys 1 (by omega)
    obtain ⟨y2, e2⟩ := hys 2 (by omega)
    obtain ⟨y3, e3⟩ := hys 3 (by omega)
    obtain ⟨y4, e4⟩ := hys 4 (by omega)
    obtain ⟨y5, e5⟩ := hys 5 (by omega)
    have f0 : DataW.trod enc Try.prog W base spare held m 3 [v0] = some y0 := by
     have f := (hf 0 _ rfl).trans e0
     change DataW.trod enc Try.prog W base spare held m 3 (List.take (Try.prog.cellsOf 3) (List.drop 0 [v0, v1, v2, v3, v4, v5])) = some y0 at f
     rw [h3] at f
     exact f
    have f1 : DataW.trod enc Try.prog W base spare held m 9 [v1] = some y1 := by
     have f := (hf 1 _ rfl).trans e1
     change DataW.trod enc Try.prog W base spare held m 9 (List.take (Try.prog.cellsOf 9) (List.drop 1 [v0, v1, v2, v3, v4, v5])) = some y1 at f
     rw [h9] at f
     exact f
    have f2 : DataW.trod enc Try.prog W base spare held m 3 [v2] = some y2 := by
     have f := (hf 2 _ rfl).trans e2
     change DataW.trod enc Try.prog W base spare held m 3 (List.take (Try.prog.cellsOf 3) (List.drop 2 [v0, v1, v2, v3, v4, v5])) = some y2 at f
     rw [h3] at f
     exact f
    have f3 : DataW.trod enc Try.prog W base spare held m 3 [v3] = some y3 := by
     have f := (hf 3 _ rfl).trans e3
     change DataW.trod enc Try.prog W base spare held m 3 (List.take (Try.prog.cellsOf 3) (List.drop 3 [v0, v1, v2, v3, v4, v5])) = some y3 at f
     rw [h3] at f
     exact f
    have f4 : DataW.trod enc Try.prog W base spare held m 23 [v4] = some y4 := by
     have f := (hf 4 _ rfl).trans e4
     change DataW.trod enc Try.prog W base spare held m 23 (List.take (Try.prog.cellsOf 23) (List.drop 4 [v0, v1, v2, v3, v4, v5])) = some y4 at f
     rw [h23] at f
     exact f
    have f5 : DataW.trod enc Try.prog W base spare held m 22 [v5] = some y5 := by
     have f := (hf 5 _ rfl).trans e5
     change DataW.trod enc Try.prog W base spare held m 22 (List.take (Try.prog.cellsOf 22) (List.drop 5 [v0, v1, v2, v3, v4, v5])) = some y5 at f
     rw [h22] at f
     exact f
    obtain ⟨n0, g0, _, _⟩ := DataW.trod_int Try.underlying3 f0
    obtain ⟨n1, g1, _, _⟩ := DataW.trod_string Try.underlying9 f1
    obtain ⟨n2, g2, _, _⟩ := DataW.trod_int Try.underlying3 f2
    obtain ⟨n3, g3, _, _⟩ := DataW.trod_int Try.underlying3 f3
    obtain ⟨A4, len4, cap4, l4, g4, b4, c4, C4⟩ := open_strings f4
    obtain ⟨A5, len5, cap5, l5, g5, b5, c5, C5⟩ := ih m (by omega) _ _ f5
    injection g0 with g0 _
    injection g1 with g1 _
    injection g2 with g2 _
    injection g3 with g3 _
    injection g4 with g4 _
    injection g5 with g5 _
    subst g0 g1 g2 g3 g4 g5 c4 c5
    exact ⟨⟨n0, n1, n2, n3, l4, l5⟩, _, k25_mk W ⟨n0, n1, n2, n3, l4, l5⟩ b4 C4 b5 C5, rfl, fun j hj => hat j hj⟩)
   exact ⟨some a, len, cap, l, rfl, hl, hll, hC⟩
end Go.Proofs.Ytikhkcnbabpneaa.P