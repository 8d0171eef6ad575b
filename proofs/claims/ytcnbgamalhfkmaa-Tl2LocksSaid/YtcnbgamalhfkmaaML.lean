/- tl2: an argument that is a row of deeds reads as a list of them. tl2: both engines beside blocks that are neither's. tl2: does: a deed, of both engines. -/
import Derived.Test.YtcnbgamalhfkmaaMA
import Derived.ChangeArms
import Derived.DataReads
import Derived.Deep.Slices
import Derived.IntWalk
import Derived.Test.YtcnbgamalhfkmaaMK
import Derived.Test.YtcnbgamalhfkmaaMJ
import Derived.Test.YtcnbgamalhfkmaaMI
import Derived.Test.YtcnbgamalhfkmaaMH
import Derived.Test.YtcnbgamalhfkmaaMF
import Derived.Test.YtcnbgamalhfkmaaMB
namespace Go.Proofs.Ytcnbgamalhfkmaa.P
open Go.RowKit Go.Proofs.YtcnbgamalhfkmaaW.PrintWords Go.Proofs.YtcnbgamalhfkmaaW.PrintLast Go.Proofs.YtcnbgamalhfkmaaW.PrintMore
set_option linter.unusedVariables false
set_option linter.unusedSimpArgs false
open Go.WideShapes Go.Maps
structure PDeed where
  k : Int
  t : Int
  n : Int
  v : Int
def PDeed.ok (d : PDeed) : Prop := in64 d.k ∧ in64 d.t ∧ in64 d.n ∧ in64 d.v
/-- A row of deeds lies at A. -/
def DeedsAt (W : World) (A : Option Addr) (l : List PDeed) : Prop := ∀ i (h : i < l.length), ∃ ad, A = some ad ∧ PDeed.ok l[i] ∧
  W.cell? (ad.add (i * 4)) = some (.int .i64 l[i].k) ∧ W.cell? ((ad.add (i * 4)).add 1) = some (.int .i64 l[i].t) ∧ W.cell? ((ad.add (i * 4)).add 2) = some (.int .i64 l[i].n) ∧ W.cell? ((ad.add (i * 4)).add 3) = some (.int .i64 l[i].v)
theorem list_of {α : Type} {P : Nat → α → Prop} : ∀ (n : Nat), (∀ i, i < n → ∃ x, P i x) → ∃ l : List α, l.length = n ∧ ∀ i (h : i < l.length), P i l[i]
  | 0, _ => ⟨[], rfl, fun i h => by simp at h⟩
  | n + 1, h => by
    obtain ⟨l, hl, hp⟩ := list_of n (fun i hi => h i (by omega))
    obtain ⟨x, hx⟩ := h n (by omega)
    refine ⟨l ++ [x], by simp [hl], fun i hi => ?_⟩
    by_cases hlt : i < l.length
    · rw [List.getElem_append_left hlt]; exact hp i hlt
    · have : i = n := by simp at hi; omega
      subst this
      rw [List.getElem_append_right (by omega)]
      simpa using hx
theorem wf_in {n : Int} (h : (Lit.int .i64 n).wf = true) : in64 n := by
  unfold in64
  simp [Lit.wf, IntKind.min, IntKind.max, IntKind.signed, IntKind.bits] at h
  omega
theorem len_four {α : Type} {l : List α} (h : l.length = 4) : ∃ v0 v1 v2 v3, l = [v0, v1, v2, v3] := by
  rcases l with _ | ⟨v0, _ | ⟨v1, _ | ⟨v2, _ | ⟨v3, _ | ⟨v4, l⟩⟩⟩⟩⟩
  all_goals first | exact ⟨v0, v1, v2, v3, rfl⟩ | (simp at h)
variable {H : Type} {enc : TypeId × Value → H} {W : World} {base : Nat} {spare : Nat → Bool} {held : Bool}
theorem open_deeds {fuel : Nat} {cs : List Value} {x : DataW H × List MemPlace} (h : DataW.trod enc Try.prog W base spare held fuel 22 cs = some x) :
    ∃ A len cap, ∃ l : List PDeed, cs = [.slice A len cap] ∧ len ≤ cap ∧ l.length = len ∧ DeedsAt W A l := by
  rcases DataW.trod_slice Try.underlying22 h with ⟨rfl, rfl⟩ | ⟨a, len, cap, elems, rest, n, hfu, rfl, rfl, hb, hl, hm, hlen, hel, _, _⟩
  · exact ⟨none, 0, 0, [], rfl, Nat.le_refl _, rfl, fun i h => by simp at h⟩
  · have hsz : Try.prog.cellsOf 31 = 4 := by kernel_rfl
    have h3 : Try.prog.cellsOf 3 = 1 := by kernel_rfl
    obtain ⟨l, hll, hC⟩ := list_of (P := fun i (d : PDeed) => PDeed.ok d ∧ W.cell? (a.add (i * 4)) = some (.int .i64 d.k) ∧ W.cell? ((a.add (i * 4)).add 1) = some (.int .i64 d.t) ∧ W.cell? ((a.add (i * 4)).add 2) = some (.int .i64 d.n) ∧ W.cell? ((a.add (i * 4)).add 3) = some (.int .i64 d.v)) len (fun i hi => by
      have := hel i hi
      rw [List.getElem?_eq_getElem (by omega), Option.bind_eq_some_iff] at this
      obtain ⟨cs', hc, ht⟩ := this
      rw [hsz] at hc
      obtain ⟨_, hcl, hat⟩ := World.cells?_some hc
      obtain ⟨ys, m, hm2, _, _, hyl, hf⟩ := DataW.trod_struct Try.underlying31 ht
      obtain ⟨v0, v1, v2, v3, rfl⟩ : ∃ v0 v1 v2 v3, cs' = [v0, v1, v2, v3] := len_four hcl
      have hys : ∀ j, j < 4 → ∃ y, ys[j]? = some y := fun j hj => ⟨_, List.getElem?_eq_getElem (by rw [hyl]; exact hj)⟩
      obtain ⟨y0, e0⟩ := hys 0 (by omega)
      obtain ⟨y1, e1⟩ := hys 1 (by omega)
      obtain ⟨y2, e2⟩ := hys 2 (by omega)
      obtain ⟨y3, e3⟩ := hys 3 (by omega)
      have f0 : DataW.trod enc Try.prog W base spare held m 3 [v0] = some y0 := by
        have f := (hf 0 _ rfl).trans e0
        change DataW.trod enc Try.prog W base spare held m 3 (List.take (Try.prog.cellsOf 3) (List.drop 0 [v0, v1, v2, v3])) = some y0 at f
        rw [h3] at f
        exact f
      have f1 : DataW.trod enc Try.prog W base spare held m 3 [v1] = some y1 := by
        have f := (hf 1 _ rfl).trans e1
        change DataW.trod enc Try.prog W base spare held m 3 (List.take (Try.prog.cellsOf 3) (List.drop 1 [v0, v1, v2, v3])) = some y1 at f
        rw [h3] at f
        exact f
      have f2 : DataW.trod enc Try.prog W base spare held m 3 [v2] = some y2 := by
        have f := (hf 2 _ rfl).trans e2
        change DataW.trod enc Try.prog W base spare held m 3 (List.take (Try.prog.cellsOf 3) (List.drop 2 [v0, v1, v2, v3])) = some y2 at f
        rw [h3] at f
        exact f
      have f3 : DataW.trod enc Try.prog W base spare held m 3 [v3] = some y3 := by
        have f := (hf 3 _ rfl).trans e3
        change DataW.trod enc Try.prog W base spare held m 3 (List.take (Try.prog.cellsOf 3) (List.drop 3 [v0, v1, v2, v3])) = some y3 at f
        rw [h3] at f
        exact f
      obtain ⟨n0, g0, _, w0⟩ := DataW.trod_int Try.underlying3 f0
      obtain ⟨n1, g1, _, w1⟩ := DataW.trod_int Try.underlying3 f1
      obtain ⟨n2, g2, _, w2⟩ := DataW.trod_int Try.underlying3 f2
      obtain ⟨n3, g3, _, w3⟩ := DataW.trod_int Try.underlying3 f3
      injection g0 with g0 _
      injection g1 with g1 _
      injection g2 with g2 _
      injection g3 with g3 _
      subst g0 g1 g2 g3
      exact ⟨⟨n0, n1, n2, n3⟩, ⟨wf_in w0, wf_in w1, wf_in w2, wf_in w3⟩, hat 0 (by omega), hat 1 (by omega), hat 2 (by omega), hat 3 (by omega)⟩)
    exact ⟨some a, len, cap, l, rfl, hl, hll, fun i hi => ⟨a, rfl, (hC i hi).1, (hC i hi).2⟩⟩
end Go.Proofs.Ytcnbgamalhfkmaa.P
namespace Go.Proofs.Ytcnbgamalhfkmaa.P
open Go.RowKit Go.Proofs.YtcnbgamalhfkmaaW.PrintWords Go.Proofs.YtcnbgamalhfkmaaW.PrintLast Go.Proofs.YtcnbgamalhfkmaaW.PrintMore
set_option linter.unusedVariables false
set_option linter.unusedSimpArgs false
open Go.WideShapes Go.Maps Go.Shelf
/-- Both engines, apart, made since w0; the blocks F are neither's. -/
def PairF (w0 : World) (F : Nat → Prop) (g a : Nat) (s : PEng) (r : REng) (W : World) : Prop := ∃ ρ cells vs σ V gt tc, EngAt W w0.heap.size ρ g s cells vs ∧ RefAt W w0.heap.size σ a r V gt tc ∧ (∀ k, ρ k ≠ 0 → σ k = 0) ∧ Below w0.heap.size w0 W ∧ ∀ k, F k → ρ k = 0 ∧ σ k = 0 ∧ k < W.heap.size
/-- The blocks F are as they were. -/
def KeptF (F : Nat → Prop) (W W' : World) : Prop := ∀ k, F k → W'.heap[k]? = W.heap[k]?
section
variable {w0 W W' : World} {F F' : Nat → Prop} {g a gt : Nat} {s s' : PEng} {r r' : REng}
theorem KeptF.refl (F : Nat → Prop) (W : World) : KeptF F W W := fun _ _ => rfl
theorem KeptF.trans {W1 W2 : World} (h : KeptF F W W1) (k : KeptF F W1 W2) : KeptF F W W2 := fun i hi => (k i hi).trans (h i hi)
theorem KeptF.mono (h : KeptF F' W W') (hF : ∀ k, F k → F' k) : KeptF F W W' := fun i hi => h i (hF i hi)
theorem Pair.toF (h : Pair w0 g a s r W) : PairF w0 (fun _ => False) g a s r W := by
  obtain ⟨ρ, cells, vs, σ, V, gt, tc, h1, h2, h3, h4⟩ := h
  exact ⟨ρ, cells, vs, σ, V, gt, tc, h1, h2, h3, h4, fun k hk => hk.elim⟩
theorem PairF.mono (h : PairF w0 F' g a s r W) (hF : ∀ k, F k → F' k) : PairF w0 F g a s r W := by
  obtain ⟨ρ, cells, vs, σ, V, gt, tc, h1, h2, h3, h4, h5⟩ := h
  exact ⟨ρ, cells, vs, σ, V, gt, tc, h1, h2, h3, h4, fun k hk => h5 k (hF k hk)⟩
theorem PairF.isBelow (h : PairF w0 F g a s r W) : Below w0.heap.size w0 W := by
  obtain ⟨ρ, cells, vs, σ, V, gt, tc, h1, h2, h3, h4, h5⟩ := h
  exact h4
theorem PairF.below (h : PairF w0 F g a s r W) (hb : Below W.heap.size W W') : PairF w0 F g a s r W' := by
  obtain ⟨ρ, cells, vs, σ, V, gt, tc, h1, h2, h3, h4, h5⟩ := h
  exact ⟨ρ, cells, vs, σ, V, gt, tc, h1.below hb, h2.below hb, h3, h4.trans (hb.mono h4.size), fun k hk => ⟨(h5 k hk).1, (h5 k hk).2.1, Nat.lt_of_lt_of_le (h5 k hk).2.2 hb.size⟩⟩
theorem KeptF.of_below (h : PairF w0 F g a s r W) (hb : Below W.heap.size W W') : KeptF F W W' := by
  obtain ⟨ρ, cells, vs, σ, V, gt, tc, h1, h2, h3, h4, h5⟩ := h
  exact fun k hk => hb.block k (h5 k hk).2.2
/-- New blocks are neither's. -/
theorem PairF.fresh (h : PairF w0 F g a s r W) (hb : Below W.heap.size W W') : PairF w0 (fun k => F k ∨ (W.heap.size ≤ k ∧ k < W'.heap.size)) g a s r W' := by
  obtain ⟨ρ, cells, vs, σ, V, gt, tc, h1, h2, h3, h4, h5⟩ := h
  refine ⟨ρ, cells, vs, σ, V, gt, tc, h1.below hb, h2.below hb, h3, h4.trans (hb.mono h4.size), fun k hk => ?_⟩
  rcases hk with hk | ⟨hk1, hk2⟩
  · exact ⟨(h5 k hk).1, (h5 k hk).2.1, Nat.lt_of_lt_of_le (h5 k hk).2.2 hb.size⟩
  · refine ⟨?_, ?_, hk2⟩
    · by_cases e : ρ k = 0
      · exact e
      · have := h1.own k e; omega
    · by_cases e : σ k = 0
      · exact e
      · have := h2.own k e; omega
/-- One of the blocks F is written. -/
theorem PairF.set (h : PairF w0 F g a s r W) {p : Addr} (hp : F p.block) (hp0 : w0.heap.size ≤ p.block) (v : Value) : PairF w0 F g a s r (W.setCell p v) := by
  obtain ⟨ρ, cells, vs, σ, V, gt, tc, h1, h2, h3, h4, h5⟩ := h
  have hk : Kept W (W.setCell p v) (fun k => k = p.block) := Kept.setCell (S := fun k => k = p.block) (Kept.refl W _) (.inl rfl) v
  exact ⟨ρ, cells, vs, σ, V, gt, tc, h1.kept hk (fun k e => by rw [e]; exact (h5 _ hp).1), h2.kept hk (fun k e => by rw [e]; exact (h5 _ hp).2.1), h3, h4.setCell hp0 v, fun k hk => by rw [setCell_size]; exact h5 k hk⟩
theorem PairF.turnE {ρ σ : Nat → Nat} {cells tc : Array Value} {vs V : Value} (h1 : EngAt W w0.heap.size ρ g s cells vs) (hR : RefAt W w0.heap.size σ a r V gt tc) (hap : ∀ k, ρ k ≠ 0 → σ k = 0) (hb : Below w0.heap.size w0 W) (hF : ∀ k, F k → ρ k = 0 ∧ σ k = 0 ∧ k < W.heap.size) (h : EngPost W w0.heap.size ρ g s' W') : PairF w0 F g a s' r W' ∧ KeptF F W W' := by
  obtain ⟨ρ', cells', vs', he, hd⟩ := h
  refine ⟨⟨ρ', cells', vs', σ, V, gt, tc, he, hR.kept hd.kept (fun k hk => hap k hk), fun k hk => ?_, hb.trans hd.below, fun k hk => ⟨?_, (hF k hk).2.1, Nat.lt_of_lt_of_le (hF k hk).2.2 hd.kept.1⟩⟩, fun k hk => hd.kept.2 k (hF k hk).2.2 (fun e => e (hF k hk).1)⟩
  · by_cases hl : k < W.heap.size
    · rw [hd.same k hl] at hk; exact hap k hk
    · by_cases e : σ k = 0
      · exact e
      · have := hR.own k e; omega
  · rw [hd.same k (hF k hk).2.2]; exact (hF k hk).1
theorem PairF.turnR {ρ σ : Nat → Nat} {cells tc : Array Value} {vs V : Value} (hE : EngAt W w0.heap.size ρ g s cells vs) (h1 : RefAt W w0.heap.size σ a r V gt tc) (hap : ∀ k, ρ k ≠ 0 → σ k = 0) (hb : Below w0.heap.size w0 W) (hF : ∀ k, F k → ρ k = 0 ∧ σ k = 0 ∧ k < W.heap.size) (h : RefPost W w0.heap.size σ a r' W') : PairF w0 F g a s r' W' ∧ KeptF F W W' := by
  obtain ⟨σ', V', gt', tc', he, hd⟩ := h
  have hap2 : ∀ k, σ k ≠ 0 → ρ k = 0 := fun k hk => by
    by_cases e : ρ k = 0
    · exact e
    · exact absurd (hap k e) hk
  refine ⟨⟨ρ, cells, vs, σ', V', gt', tc', hE.kept hd.kept (fun k hk => hap2 k hk), he, fun k hk => ?_, hb.trans hd.below, fun k hk => ⟨(hF k hk).1, ?_, Nat.lt_of_lt_of_le (hF k hk).2.2 hd.kept.1⟩⟩, fun k hk => hd.kept.2 k (hF k hk).2.2 (fun e => e (hF k hk).2.1)⟩
  · rw [hd.same k (hE.own k hk).2]; exact hap k hk
  · rw [hd.same k (hF k hk).2.2]; exact (hF k hk).2.1
theorem PairF.begin (h : PairF w0 F g a s r W) (t : Int) : Calls Try.prog 11 #[.pointer (some ⟨g, 0, none⟩), .int .i64 t] W fun e w' => e = .returned (.int .i64 (beginE s t).1) ∧ Aside0 (PairF w0 F g a ((beginE s t).2) r w') ∧ Aside0 (KeptF F W w') := by
  obtain ⟨ρ, cells, vs, σ, V, gt, tc, h1, h2, h3, h4, h5⟩ := h
  refine (begin_calls h1 t).mono ?_
  rintro e w' ⟨rfl, hp⟩
  exact ⟨rfl, ⟨(PairF.turnE h1 h2 h3 h4 h5 hp).1⟩, ⟨(PairF.turnE h1 h2 h3 h4 h5 hp).2⟩⟩
theorem PairF.read (h : PairF w0 F g a s r W) (t n : Int) (hn : in64 n) (hp : ∀ x, openE s t = some x → x.parts ≠ [] ∧ x.parts.length ≤ 100000 ∧ x.reads.length ≤ 100000) : Calls Try.prog 16 #[.pointer (some ⟨g, 0, none⟩), .int .i64 t, .int .i64 n] W fun e w' => e = .returned (.tuple #[.int .i64 (readE s t n).1, .int .i64 (readE s t n).2.1]) ∧ Aside0 (PairF w0 F g a ((readE s t n).2.2) r w') ∧ Aside0 (KeptF F W w') := by
  obtain ⟨ρ, cells, vs, σ, V, gt, tc, h1, h2, h3, h4, h5⟩ := h
  refine (read_calls h1 t n hn hp).mono ?_
  rintro e w' ⟨rfl, hp⟩
  exact ⟨rfl, ⟨(PairF.turnE h1 h2 h3 h4 h5 hp).1⟩, ⟨(PairF.turnE h1 h2 h3 h4 h5 hp).2⟩⟩
theorem PairF.write (h : PairF w0 F g a s r W) (t n v : Int) (hn : in64 n) (hv : in64 v) (hp : ∀ x, openE s t = some x → x.parts ≠ [] ∧ x.parts.length ≤ 100000 ∧ ∀ p ∈ x.parts, p.length ≤ 100000) : Calls Try.prog 13 #[.pointer (some ⟨g, 0, none⟩), .int .i64 t, .int .i64 n, .int .i64 v] W fun e w' => e = .returned (.int .i64 (writeE s t n v).1) ∧ Aside0 (PairF w0 F g a ((writeE s t n v).2) r w') ∧ Aside0 (KeptF F W w') := by
  obtain ⟨ρ, cells, vs, σ, V, gt, tc, h1, h2, h3, h4, h5⟩ := h
  refine (write_calls h1 t n v hn hv hp).mono ?_
  rintro e w' ⟨rfl, hp⟩
  exact ⟨rfl, ⟨(PairF.turnE h1 h2 h3 h4 h5 hp).1⟩, ⟨(PairF.turnE h1 h2 h3 h4 h5 hp).2⟩⟩
theorem PairF.step (h : PairF w0 F g a s r W) (t : Int) (hp : ∀ x, ofE s t = some x → StepOK s x) : Calls Try.prog 21 #[.pointer (some ⟨g, 0, none⟩), .int .i64 t] W fun e w' => e = .returned (.tuple #[.int .i64 (stepE s t).1, .int .i64 (stepE s t).2.1]) ∧ Aside0 (PairF w0 F g a ((stepE s t).2.2) r w') ∧ Aside0 (KeptF F W w') := by
  obtain ⟨ρ, cells, vs, σ, V, gt, tc, h1, h2, h3, h4, h5⟩ := h
  refine (step_calls h1 t hp).mono ?_
  rintro e w' ⟨rfl, hp⟩
  exact ⟨rfl, ⟨(PairF.turnE h1 h2 h3 h4 h5 hp).1⟩, ⟨(PairF.turnE h1 h2 h3 h4 h5 hp).2⟩⟩
theorem PairF.part (h : PairF w0 F g a s r W) (t : Int) (hp : ∀ x, openE s t = some x → x.parts.length ≤ 100000) : Calls Try.prog 12 #[.pointer (some ⟨g, 0, none⟩), .int .i64 t] W fun e w' => e = .returned (.int .i64 (partE s t).1) ∧ Aside0 (PairF w0 F g a ((partE s t).2) r w') ∧ Aside0 (KeptF F W w') := by
  obtain ⟨ρ, cells, vs, σ, V, gt, tc, h1, h2, h3, h4, h5⟩ := h
  refine (part_calls h1 t hp).mono ?_
  rintro e w' ⟨rfl, hp⟩
  exact ⟨rfl, ⟨(PairF.turnE h1 h2 h3 h4 h5 hp).1⟩, ⟨(PairF.turnE h1 h2 h3 h4 h5 hp).2⟩⟩
theorem PairF.join (h : PairF w0 F g a s r W) (t : Int) (hp : ∀ x, openE s t = some x → x.parts.length ≤ 100000 ∧ ∀ p ∈ x.parts, p.length ≤ 100000) : Calls Try.prog 14 #[.pointer (some ⟨g, 0, none⟩), .int .i64 t] W fun e w' => e = .returned (.int .i64 (shutE s t true).1) ∧ Aside0 (PairF w0 F g a ((shutE s t true).2) r w') ∧ Aside0 (KeptF F W w') := by
  obtain ⟨ρ, cells, vs, σ, V, gt, tc, h1, h2, h3, h4, h5⟩ := h
  refine (join_calls h1 t hp).mono ?_
  rintro e w' ⟨rfl, hp⟩
  exact ⟨rfl, ⟨(PairF.turnE h1 h2 h3 h4 h5 hp).1⟩, ⟨(PairF.turnE h1 h2 h3 h4 h5 hp).2⟩⟩
theorem PairF.undo (h : PairF w0 F g a s r W) (t : Int) (hp : ∀ x, openE s t = some x → x.parts.length ≤ 100000 ∧ ∀ p ∈ x.parts, p.length ≤ 100000) : Calls Try.prog 15 #[.pointer (some ⟨g, 0, none⟩), .int .i64 t] W fun e w' => e = .returned (.int .i64 (shutE s t false).1) ∧ Aside0 (PairF w0 F g a ((shutE s t false).2) r w') ∧ Aside0 (KeptF F W w') := by
  obtain ⟨ρ, cells, vs, σ, V, gt, tc, h1, h2, h3, h4, h5⟩ := h
  refine (undo_calls h1 t hp).mono ?_
  rintro e w' ⟨rfl, hp⟩
  exact ⟨rfl, ⟨(PairF.turnE h1 h2 h3 h4 h5 hp).1⟩, ⟨(PairF.turnE h1 h2 h3 h4 h5 hp).2⟩⟩
theorem PairF.abort (h : PairF w0 F g a s r W) (t : Int) (hv : s.vars.length ≤ 100000) : Calls Try.prog 20 #[.pointer (some ⟨g, 0, none⟩), .int .i64 t] W fun e w' => e = .returned (.int .i64 (abortE s t).1) ∧ Aside0 (PairF w0 F g a ((abortE s t).2) r w') ∧ Aside0 (KeptF F W w') := by
  obtain ⟨ρ, cells, vs, σ, V, gt, tc, h1, h2, h3, h4, h5⟩ := h
  refine (abort_calls h1 t hv).mono ?_
  rintro e w' ⟨rfl, hp⟩
  exact ⟨rfl, ⟨(PairF.turnE h1 h2 h3 h4 h5 hp).1⟩, ⟨(PairF.turnE h1 h2 h3 h4 h5 hp).2⟩⟩
theorem PairF.make (h : PairF w0 F g a s r W) (v : Int) (hl : s.vars.length ≤ 4000) : Calls Try.prog 37 #[.pointer (some ⟨g, 0, none⟩), .int .i64 v] W fun e w' => e = .returned (.tuple #[.int .i64 (makeE s v).1, .int .i64 (makeE s v).2.1]) ∧ Aside0 (PairF w0 F g a ((makeE s v).2.2) r w') ∧ Aside0 (KeptF F W w') := by
  obtain ⟨ρ, cells, vs, σ, V, gt, tc, h1, h2, h3, h4, h5⟩ := h
  refine (make_calls h1 hl v).mono ?_
  rintro e w' ⟨rfl, hp⟩
  exact ⟨rfl, ⟨(PairF.turnE h1 h2 h3 h4 h5 hp).1⟩, ⟨(PairF.turnE h1 h2 h3 h4 h5 hp).2⟩⟩
theorem PairF.rbegin (h : PairF w0 F g a s r W) (t : Int) : Calls Try.prog 46 #[.pointer (some ⟨a, 0, none⟩), .int .i64 t] W fun e w' => e = .returned (.int .i64 (beginR r t).1) ∧ Aside0 (PairF w0 F g a s ((beginR r t).2) w') ∧ Aside0 (KeptF F W w') := by
  obtain ⟨ρ, cells, vs, σ, V, gt, tc, h1, h2, h3, h4, h5⟩ := h
  refine (rbegin_calls h2 t).mono ?_
  rintro e w' ⟨rfl, hp⟩
  exact ⟨rfl, ⟨(PairF.turnR h1 h2 h3 h4 h5 hp).1⟩, ⟨(PairF.turnR h1 h2 h3 h4 h5 hp).2⟩⟩
theorem PairF.rread (h : PairF w0 F g a s r W) (t n : Int) (hp : openR r t = true → (txR r t).puts.length ≤ 100000 ∧ (txR r t).reads.length ≤ 100000) : Calls Try.prog 47 #[.pointer (some ⟨a, 0, none⟩), .int .i64 t, .int .i64 n] W fun e w' => e = .returned (.tuple #[.int .i64 (readR r t n).1, .int .i64 (readR r t n).2.1]) ∧ Aside0 (PairF w0 F g a s ((readR r t n).2.2) w') ∧ Aside0 (KeptF F W w') := by
  obtain ⟨ρ, cells, vs, σ, V, gt, tc, h1, h2, h3, h4, h5⟩ := h
  refine (rread_calls h2 t n hp).mono ?_
  rintro e w' ⟨rfl, hp⟩
  exact ⟨rfl, ⟨(PairF.turnR h1 h2 h3 h4 h5 hp).1⟩, ⟨(PairF.turnR h1 h2 h3 h4 h5 hp).2⟩⟩
theorem PairF.rwrite (h : PairF w0 F g a s r W) (t n v : Int) (hp : openR r t = true → (txR r t).puts.length ≤ 100000) : Calls Try.prog 48 #[.pointer (some ⟨a, 0, none⟩), .int .i64 t, .int .i64 n, .int .i64 v] W fun e w' => e = .returned (.int .i64 (writeR r t n v).1) ∧ Aside0 (PairF w0 F g a s ((writeR r t n v).2) w') ∧ Aside0 (KeptF F W w') := by
  obtain ⟨ρ, cells, vs, σ, V, gt, tc, h1, h2, h3, h4, h5⟩ := h
  refine (rwrite_calls h2 t n v hp).mono ?_
  rintro e w' ⟨rfl, hp⟩
  exact ⟨rfl, ⟨(PairF.turnR h1 h2 h3 h4 h5 hp).1⟩, ⟨(PairF.turnR h1 h2 h3 h4 h5 hp).2⟩⟩
theorem PairF.rstep (h : PairF w0 F g a s r W) (t : Int) (hp : hasR r t = true → RStepOK r (txR r t)) : Calls Try.prog 34 #[.pointer (some ⟨a, 0, none⟩), .int .i64 t] W fun e w' => e = .returned (.tuple #[.int .i64 (stepR r t).1, .int .i64 (stepR r t).2.1]) ∧ Aside0 (PairF w0 F g a s ((stepR r t).2.2) w') ∧ Aside0 (KeptF F W w') := by
  obtain ⟨ρ, cells, vs, σ, V, gt, tc, h1, h2, h3, h4, h5⟩ := h
  refine (rstep_calls h2 t hp).mono ?_
  rintro e w' ⟨rfl, hp⟩
  exact ⟨rfl, ⟨(PairF.turnR h1 h2 h3 h4 h5 hp).1⟩, ⟨(PairF.turnR h1 h2 h3 h4 h5 hp).2⟩⟩
theorem PairF.rpart (h : PairF w0 F g a s r W) (t : Int) (hp : openR r t = true → 0 ≤ (txR r t).parts ∧ (txR r t).parts ≤ 1000000) : Calls Try.prog 49 #[.pointer (some ⟨a, 0, none⟩), .int .i64 t] W fun e w' => e = .returned (.int .i64 (partR r t).1) ∧ Aside0 (PairF w0 F g a s ((partR r t).2) w') ∧ Aside0 (KeptF F W w') := by
  obtain ⟨ρ, cells, vs, σ, V, gt, tc, h1, h2, h3, h4, h5⟩ := h
  refine (rpart_calls h2 t hp).mono ?_
  rintro e w' ⟨rfl, hp⟩
  exact ⟨rfl, ⟨(PairF.turnR h1 h2 h3 h4 h5 hp).1⟩, ⟨(PairF.turnR h1 h2 h3 h4 h5 hp).2⟩⟩
theorem PairF.rshut (h : PairF w0 F g a s r W) (t : Int) (keep : Bool) (hp : openR r t = true → (txR r t).puts.length ≤ 100000 ∧ 1 ≤ (txR r t).parts ∧ (txR r t).parts ≤ 1000000) : Calls Try.prog 50 #[.pointer (some ⟨a, 0, none⟩), .int .i64 t, .bool keep] W fun e w' => e = .returned (.int .i64 (shutR r t keep).1) ∧ Aside0 (PairF w0 F g a s ((shutR r t keep).2) w') ∧ Aside0 (KeptF F W w') := by
  obtain ⟨ρ, cells, vs, σ, V, gt, tc, h1, h2, h3, h4, h5⟩ := h
  refine (rshut_calls h2 t keep hp).mono ?_
  rintro e w' ⟨rfl, hp⟩
  exact ⟨rfl, ⟨(PairF.turnR h1 h2 h3 h4 h5 hp).1⟩, ⟨(PairF.turnR h1 h2 h3 h4 h5 hp).2⟩⟩
theorem PairF.rabort (h : PairF w0 F g a s r W) (t : Int) (hv : r.vars.length ≤ 100000) : Calls Try.prog 33 #[.pointer (some ⟨a, 0, none⟩), .int .i64 t] W fun e w' => e = .returned (.int .i64 (abortR r t).1) ∧ Aside0 (PairF w0 F g a s ((abortR r t).2) w') ∧ Aside0 (KeptF F W w') := by
  obtain ⟨ρ, cells, vs, σ, V, gt, tc, h1, h2, h3, h4, h5⟩ := h
  refine (rabort_calls h2 t hv).mono ?_
  rintro e w' ⟨rfl, hp⟩
  exact ⟨rfl, ⟨(PairF.turnR h1 h2 h3 h4 h5 hp).1⟩, ⟨(PairF.turnR h1 h2 h3 h4 h5 hp).2⟩⟩
theorem PairF.rmake (h : PairF w0 F g a s r W) (v : Int) (hl : r.vars.length ≤ 4000) : Calls Try.prog 38 #[.pointer (some ⟨a, 0, none⟩), .int .i64 v] W fun e w' => e = .returned (.tuple #[.int .i64 (makeR r v).1, .int .i64 (makeR r v).2.1]) ∧ Aside0 (PairF w0 F g a s ((makeR r v).2.2) w') ∧ Aside0 (KeptF F W w') := by
  obtain ⟨ρ, cells, vs, σ, V, gt, tc, h1, h2, h3, h4, h5⟩ := h
  refine (rmake_calls h2 v hl).mono ?_
  rintro e w' ⟨rfl, hp⟩
  exact ⟨rfl, ⟨(PairF.turnR h1 h2 h3 h4 h5 hp).1⟩, ⟨(PairF.turnR h1 h2 h3 h4 h5 hp).2⟩⟩
theorem PairF.valid (h : PairF w0 F g a s r W) (t : Int) (hr : ∀ x, openE s t = some x → (∀ n ∈ x.reads, isE s n = true) ∧ x.reads.length ≤ 100000) : Calls Try.prog 51 #[.pointer (some ⟨g, 0, none⟩), .int .i64 t] W fun e w' => e = .returned (.int .i64 (validE s t)) ∧ Aside0 (PairF w0 F g a s r w') ∧ Aside0 (KeptF F W w') := by
  have h' := h
  obtain ⟨ρ, cells, vs, σ, V, gt, tc, h1, h2, h3, h4, h5⟩ := h'
  refine (Valid_calls h1 t hr).mono ?_
  rintro e w' ⟨rfl, hp⟩
  exact ⟨rfl, ⟨PairF.below h hp⟩, ⟨KeptF.of_below h hp⟩⟩
theorem PairF.rvalid (h : PairF w0 F g a s r W) (t : Int) (hr : openR r t = true → (∀ n ∈ (txR r t).reads, isR r n = true) ∧ (txR r t).reads.length ≤ 100000) : Calls Try.prog 52 #[.pointer (some ⟨a, 0, none⟩), .int .i64 t] W fun e w' => e = .returned (.int .i64 (validR r t)) ∧ Aside0 (PairF w0 F g a s r w') ∧ Aside0 (KeptF F W w') := by
  have h' := h
  obtain ⟨ρ, cells, vs, σ, V, gt, tc, h1, h2, h3, h4, h5⟩ := h'
  refine (rValid_calls h2 t hr).mono ?_
  rintro e w' ⟨rfl, hp⟩
  exact ⟨rfl, ⟨PairF.below h hp⟩, ⟨KeptF.of_below h hp⟩⟩
theorem PairF.active (h : PairF w0 F g a s r W) (t : Int) : Calls Try.prog 19 #[.pointer (some ⟨g, 0, none⟩), .int .i64 t] W fun e w' => e = .returned (.bool (ofE s t).isSome) ∧ W = w' := by
  have h' := h
  obtain ⟨ρ, cells, vs, σ, V, gt, tc, h1, h2, h3, h4, h5⟩ := h'
  refine (active_calls h1 t).mono ?_
  rintro e w' ⟨rfl, hp⟩
  exact ⟨rfl, hp⟩
theorem PairF.clock (h : PairF w0 F g a s r W) : Calls Try.prog 23 #[.pointer (some ⟨g, 0, none⟩)] W fun e w' => e = .returned (.int .i64 s.clock) ∧ W = w' := by
  have h' := h
  obtain ⟨ρ, cells, vs, σ, V, gt, tc, h1, h2, h3, h4, h5⟩ := h'
  refine (clock_calls h1).mono ?_
  rintro e w' ⟨rfl, hp⟩
  exact ⟨rfl, hp⟩
theorem PairF.start (h : PairF w0 F g a s r W) (t : Int) : Calls Try.prog 27 #[.pointer (some ⟨g, 0, none⟩), .int .i64 t] W fun e w' => e = .returned (.int .i64 (startE s t)) ∧ W = w' := by
  have h' := h
  obtain ⟨ρ, cells, vs, σ, V, gt, tc, h1, h2, h3, h4, h5⟩ := h'
  refine (start_calls h1 t).mono ?_
  rintro e w' ⟨rfl, hp⟩
  exact ⟨rfl, hp⟩
theorem PairF.value (h : PairF w0 F g a s r W) (n : Int) : Calls Try.prog 22 #[.pointer (some ⟨g, 0, none⟩), .int .i64 n] W fun e w' => e = .returned (.tuple #[.int .i64 (valueE s n).1, .int .i64 (valueE s n).2]) ∧ W = w' := by
  have h' := h
  obtain ⟨ρ, cells, vs, σ, V, gt, tc, h1, h2, h3, h4, h5⟩ := h'
  refine (value_calls h1 n).mono ?_
  rintro e w' ⟨rfl, hp⟩
  exact ⟨rfl, hp⟩
theorem PairF.newer (h : PairF w0 F g a s r W) (n than : Int) : Calls Try.prog 58 #[.pointer (some ⟨g, 0, none⟩), .int .i64 n, .int .i64 than] W fun e w' => e = .returned (.bool (newerE s n than)) ∧ W = w' := by
  have h' := h
  obtain ⟨ρ, cells, vs, σ, V, gt, tc, h1, h2, h3, h4, h5⟩ := h'
  refine (newer_calls h1 n than).mono ?_
  rintro e w' ⟨rfl, hp⟩
  exact ⟨rfl, hp⟩
end
end Go.Proofs.Ytcnbgamalhfkmaa.P
namespace Go.Proofs.Ytcnbgamalhfkmaa.P
open Go.RowKit Go.Proofs.YtcnbgamalhfkmaaW.PrintWords Go.Proofs.YtcnbgamalhfkmaaW.PrintLast Go.Proofs.YtcnbgamalhfkmaaW.PrintMore
set_option linter.unusedVariables false
set_option linter.unusedSimpArgs false
open Go.WideShapes Go.Maps Go.Shelf
def doE (s : PEng) (d : PDeed) : Int × Int × PEng :=
  if d.k = 0 then (0, (beginE s d.t).1, (beginE s d.t).2) else
  if d.k = 1 then readE s d.t d.n else
  if d.k = 2 then (0, (writeE s d.t d.n d.v).1, (writeE s d.t d.n d.v).2) else
  if d.k = 3 then stepE s d.t else
  if d.k = 4 then (0, (partE s d.t).1, (partE s d.t).2) else
  if d.k = 5 then (0, (shutE s d.t true).1, (shutE s d.t true).2) else
  if d.k = 6 then (0, (shutE s d.t false).1, (shutE s d.t false).2) else
  if d.k = 7 then (0, (abortE s d.t).1, (abortE s d.t).2) else
  if d.k = 8 then makeE s d.v else
  if d.k = 9 then (0, validE s d.t, s) else (0, 0, s)
def doR (s : REng) (d : PDeed) : Int × Int × REng :=
  if d.k = 0 then (0, (beginR s d.t).1, (beginR s d.t).2) else
  if d.k = 1 then readR s d.t d.n else
  if d.k = 2 then (0, (writeR s d.t d.n d.v).1, (writeR s d.t d.n d.v).2) else
  if d.k = 3 then stepR s d.t else
  if d.k = 4 then (0, (partR s d.t).1, (partR s d.t).2) else
  if d.k = 5 then (0, (shutR s d.t true).1, (shutR s d.t true).2) else
  if d.k = 6 then (0, (shutR s d.t false).1, (shutR s d.t false).2) else
  if d.k = 7 then (0, (abortR s d.t).1, (abortR s d.t).2) else
  if d.k = 8 then makeR s d.v else
  if d.k = 9 then (0, validR s d.t, s) else (0, 0, s)
/-- What a deed must be given. -/
structure DoOK (s : PEng) (r : REng) (d : PDeed) : Prop where
  ok : d.ok
  vl : s.vars.length ≤ 4000
  eo : ∀ x, openE s d.t = some x → x.parts ≠ [] ∧ x.parts.length ≤ 1000 ∧ (∀ p ∈ x.parts, p.length ≤ 1000) ∧ x.reads.length ≤ 1000 ∧ ∀ n ∈ x.reads, isE s n = true
  es : ∀ x, ofE s d.t = some x → StepOK s x
  rl : r.vars.length ≤ 4000
  ro : openR r d.t = true → (txR r d.t).puts.length ≤ 1000 ∧ 1 ≤ (txR r d.t).parts ∧ (txR r d.t).parts ≤ 1000 ∧ (txR r d.t).reads.length ≤ 1000 ∧ ∀ n ∈ (txR r d.t).reads, isR r n = true
  rs : hasR r d.t = true → RStepOK r (txR r d.t)
section
variable {w0 W W' : World} {F F' : Nat → Prop} {g a gt : Nat} {s s' : PEng} {r r' : REng}
/-- The five blocks that does makes. -/
theorem five (h : PairF w0 F g a s r W) (o0 o1 o2 o3 o4 : Obj) : ∃ W5, ((((W.alloc o0).alloc o1).alloc o2).alloc o3).alloc o4 = W5 ∧ PairF w0 (fun k => F k ∨ (W.heap.size ≤ k ∧ k < W.heap.size + 5)) g a s r W5 ∧ KeptF F W W5 ∧ w0.heap.size ≤ W.heap.size ∧
    W5.heap[W.heap.size]? = some o0 ∧ W5.heap[W.heap.size + 1]? = some o1 ∧ W5.heap[W.heap.size + 1 + 1]? = some o2 ∧ W5.heap[W.heap.size + 1 + 1 + 1]? = some o3 ∧ W5.heap[W.heap.size + 1 + 1 + 1 + 1]? = some o4 := by
  have hb : Below W.heap.size W (((((W.alloc o0).alloc o1).alloc o2).alloc o3).alloc o4) := below_alloc (below_alloc (below_alloc (below_alloc (below_alloc (Below.refl _ _) _) _) _) _) _
  have h1 := h.fresh hb
  refine ⟨_, rfl, by simpa using h1, KeptF.of_below h hb, h.isBelow.size, ?_, ?_, ?_, ?_, ?_⟩
  · exact blk_alloc (blk_alloc (blk_alloc (blk_alloc (blk_new W o0) o1) o2) o3) o4
  · have := blk_new (W.alloc o0) o1
    rw [World.size_alloc] at this
    exact blk_alloc (blk_alloc (blk_alloc this o2) o3) o4
  · have := blk_new ((W.alloc o0).alloc o1) o2
    rw [World.size_alloc, World.size_alloc] at this
    exact blk_alloc (blk_alloc this o3) o4
  · have := blk_new (((W.alloc o0).alloc o1).alloc o2) o3
    rw [World.size_alloc, World.size_alloc, World.size_alloc] at this
    exact blk_alloc this o4
  · have := blk_new ((((W.alloc o0).alloc o1).alloc o2).alloc o3) o4
    rwa [World.size_alloc, World.size_alloc, World.size_alloc, World.size_alloc] at this
/-- does, under way: its blocks. -/
structure Five (w0 : World) (F : Nat → Prop) (g a : Nat) (W : World) (d : PDeed) (s : PEng) (r : REng) (x0 x1 y0 y1 : Int) (Wx : World) : Prop where
  pair : PairF w0 (fun k => F k ∨ (W.heap.size ≤ k ∧ k < W.heap.size + 5)) g a s r Wx
  kept : KeptF F W Wx
  old : ∀ k, F k → k < W.heap.size
  up : w0.heap.size ≤ W.heap.size
  box : Wx.heap[W.heap.size]? = some (.cells #[.int .i64 d.k, .int .i64 d.t, .int .i64 d.n, .int .i64 d.v] 31 (0, 0))
  ra : Wx.heap[W.heap.size + 1]? = some (.cells #[.int .i64 0, .int .i64 0] 38 (0, 0))
  rb : Wx.heap[W.heap.size + 1 + 1]? = some (.cells #[.int .i64 0, .int .i64 0] 38 (0, 0))
  a : Wx.heap[W.heap.size + 1 + 1 + 1]? = some (.cells #[.int .i64 x0, .int .i64 x1] 38 (0, 0))
  b : Wx.heap[W.heap.size + 1 + 1 + 1 + 1]? = some (.cells #[.int .i64 y0, .int .i64 y1] 38 (0, 0))
variable {d : PDeed} {x0 x1 y0 y1 : Int} {Wx Wy : World}
theorem PairF.old (h : PairF w0 F g a s r W) : ∀ k, F k → k < W.heap.size := by
  obtain ⟨ρ, cells, vs, σ, V, gt, tc, h1, h2, h3, h4, h5⟩ := h
  exact fun k hk => (h5 k hk).2.2
theorem Five.start (h : PairF w0 F g a s r W) (d : PDeed) : ∃ W5, ((((W.alloc (.cells #[.int .i64 d.k, .int .i64 d.t, .int .i64 d.n, .int .i64 d.v] 31)).alloc (.cells #[.int .i64 0, .int .i64 0] 38)).alloc (.cells #[.int .i64 0, .int .i64 0] 38)).alloc (.cells #[.int .i64 0, .int .i64 0] 38)).alloc (.cells #[.int .i64 0, .int .i64 0] 38) = W5 ∧ Five w0 F g a W d s r 0 0 0 0 W5 := by
  obtain ⟨W5, e, h1, h2, h3, b0, b1, b2, b3, b4⟩ := five h (.cells #[.int .i64 d.k, .int .i64 d.t, .int .i64 d.n, .int .i64 d.v] 31) (.cells #[.int .i64 0, .int .i64 0] 38) (.cells #[.int .i64 0, .int .i64 0] 38) (.cells #[.int .i64 0, .int .i64 0] 38) (.cells #[.int .i64 0, .int .i64 0] 38)
  exact ⟨W5, e, h1, h2, h.old, h3, b0, b1, b2, b3, b4⟩
theorem Five.turn (h : Five w0 F g a W d s r x0 x1 y0 y1 Wx) (hp : PairF w0 (fun k => F k ∨ (W.heap.size ≤ k ∧ k < W.heap.size + 5)) g a s' r' Wy) (hk : KeptF (fun k => F k ∨ (W.heap.size ≤ k ∧ k < W.heap.size + 5)) Wx Wy) : Five w0 F g a W d s' r' x0 x1 y0 y1 Wy :=
  ⟨hp, h.kept.trans (hk.mono fun k hk => .inl hk), h.old, h.up, (hk _ (.inr (by omega))).trans h.box, (hk _ (.inr (by omega))).trans h.ra, (hk _ (.inr (by omega))).trans h.rb, (hk _ (.inr (by omega))).trans h.a, (hk _ (.inr (by omega))).trans h.b⟩
theorem Five.far (h : Five w0 F g a W d s r x0 x1 y0 y1 Wx) {p : Addr} (hp : W.heap.size ≤ p.block) (v : Value) : KeptF F W (Wx.setCell p v) := fun k hk => (Below.heap_setCell Wx p v k (by have := h.old k hk; omega)).trans (h.kept k hk)
theorem Five.setA0 (h : Five w0 F g a W d s r x0 x1 y0 y1 Wx) (v : Int) : Five w0 F g a W d s r v x1 y0 y1 (Wx.setCell ⟨W.heap.size + 1 + 1 + 1, 0, none⟩ (.int .i64 v)) :=
  ⟨h.pair.set (p := ⟨W.heap.size + 1 + 1 + 1, 0, none⟩) (.inr (by show _ ≤ W.heap.size + 1 + 1 + 1 ∧ W.heap.size + 1 + 1 + 1 < _; omega)) (by show _ ≤ W.heap.size + 1 + 1 + 1; have := h.up; omega) _, h.far (p := ⟨W.heap.size + 1 + 1 + 1, 0, none⟩) (by show _ ≤ W.heap.size + 1 + 1 + 1; omega) _, h.old, h.up, (Below.heap_setCell Wx ⟨W.heap.size + 1 + 1 + 1, 0, none⟩ _ _ (by show _ ≠ W.heap.size + 1 + 1 + 1; omega)).trans h.box, (Below.heap_setCell Wx ⟨W.heap.size + 1 + 1 + 1, 0, none⟩ _ _ (by show _ ≠ W.heap.size + 1 + 1 + 1; omega)).trans h.ra, (Below.heap_setCell Wx ⟨W.heap.size + 1 + 1 + 1, 0, none⟩ _ _ (by show _ ≠ W.heap.size + 1 + 1 + 1; omega)).trans h.rb, blk_set h.a 0 _, (Below.heap_setCell Wx ⟨W.heap.size + 1 + 1 + 1, 0, none⟩ _ _ (by show _ ≠ W.heap.size + 1 + 1 + 1; omega)).trans h.b⟩
theorem Five.setA1 (h : Five w0 F g a W d s r x0 x1 y0 y1 Wx) (v : Int) : Five w0 F g a W d s r x0 v y0 y1 (Wx.setCell ⟨W.heap.size + 1 + 1 + 1, 1, none⟩ (.int .i64 v)) :=
  ⟨h.pair.set (p := ⟨W.heap.size + 1 + 1 + 1, 1, none⟩) (.inr (by show _ ≤ W.heap.size + 1 + 1 + 1 ∧ W.heap.size + 1 + 1 + 1 < _; omega)) (by show _ ≤ W.heap.size + 1 + 1 + 1; have := h.up; omega) _, h.far (p := ⟨W.heap.size + 1 + 1 + 1, 1, none⟩) (by show _ ≤ W.heap.size + 1 + 1 + 1; omega) _, h.old, h.up, (Below.heap_setCell Wx ⟨W.heap.size + 1 + 1 + 1, 1, none⟩ _ _ (by show _ ≠ W.heap.size + 1 + 1 + 1; omega)).trans h.box, (Below.heap_setCell Wx ⟨W.heap.size + 1 + 1 + 1, 1, none⟩ _ _ (by show _ ≠ W.heap.size + 1 + 1 + 1; omega)).trans h.ra, (Below.heap_setCell Wx ⟨W.heap.size + 1 + 1 + 1, 1, none⟩ _ _ (by show _ ≠ W.heap.size + 1 + 1 + 1; omega)).trans h.rb, blk_set h.a 1 _, (Below.heap_setCell Wx ⟨W.heap.size + 1 + 1 + 1, 1, none⟩ _ _ (by show _ ≠ W.heap.size + 1 + 1 + 1; omega)).trans h.b⟩
theorem Five.setB0 (h : Five w0 F g a W d s r x0 x1 y0 y1 Wx) (v : Int) : Five w0 F g a W d s r x0 x1 v y1 (Wx.setCell ⟨W.heap.size + 1 + 1 + 1 + 1, 0, none⟩ (.int .i64 v)) :=
  ⟨h.pair.set (p := ⟨W.heap.size + 1 + 1 + 1 + 1, 0, none⟩) (.inr (by show _ ≤ W.heap.size + 1 + 1 + 1 + 1 ∧ W.heap.size + 1 + 1 + 1 + 1 < _; omega)) (by show _ ≤ W.heap.size + 1 + 1 + 1 + 1; have := h.up; omega) _, h.far (p := ⟨W.heap.size + 1 + 1 + 1 + 1, 0, none⟩) (by show _ ≤ W.heap.size + 1 + 1 + 1 + 1; omega) _, h.old, h.up, (Below.heap_setCell Wx ⟨W.heap.size + 1 + 1 + 1 + 1, 0, none⟩ _ _ (by show _ ≠ W.heap.size + 1 + 1 + 1 + 1; omega)).trans h.box, (Below.heap_setCell Wx ⟨W.heap.size + 1 + 1 + 1 + 1, 0, none⟩ _ _ (by show _ ≠ W.heap.size + 1 + 1 + 1 + 1; omega)).trans h.ra, (Below.heap_setCell Wx ⟨W.heap.size + 1 + 1 + 1 + 1, 0, none⟩ _ _ (by show _ ≠ W.heap.size + 1 + 1 + 1 + 1; omega)).trans h.rb, (Below.heap_setCell Wx ⟨W.heap.size + 1 + 1 + 1 + 1, 0, none⟩ _ _ (by show _ ≠ W.heap.size + 1 + 1 + 1 + 1; omega)).trans h.a, blk_set h.b 0 _⟩
theorem Five.setB1 (h : Five w0 F g a W d s r x0 x1 y0 y1 Wx) (v : Int) : Five w0 F g a W d s r x0 x1 y0 v (Wx.setCell ⟨W.heap.size + 1 + 1 + 1 + 1, 1, none⟩ (.int .i64 v)) :=
  ⟨h.pair.set (p := ⟨W.heap.size + 1 + 1 + 1 + 1, 1, none⟩) (.inr (by show _ ≤ W.heap.size + 1 + 1 + 1 + 1 ∧ W.heap.size + 1 + 1 + 1 + 1 < _; omega)) (by show _ ≤ W.heap.size + 1 + 1 + 1 + 1; have := h.up; omega) _, h.far (p := ⟨W.heap.size + 1 + 1 + 1 + 1, 1, none⟩) (by show _ ≤ W.heap.size + 1 + 1 + 1 + 1; omega) _, h.old, h.up, (Below.heap_setCell Wx ⟨W.heap.size + 1 + 1 + 1 + 1, 1, none⟩ _ _ (by show _ ≠ W.heap.size + 1 + 1 + 1 + 1; omega)).trans h.box, (Below.heap_setCell Wx ⟨W.heap.size + 1 + 1 + 1 + 1, 1, none⟩ _ _ (by show _ ≠ W.heap.size + 1 + 1 + 1 + 1; omega)).trans h.ra, (Below.heap_setCell Wx ⟨W.heap.size + 1 + 1 + 1 + 1, 1, none⟩ _ _ (by show _ ≠ W.heap.size + 1 + 1 + 1 + 1; omega)).trans h.rb, (Below.heap_setCell Wx ⟨W.heap.size + 1 + 1 + 1 + 1, 1, none⟩ _ _ (by show _ ≠ W.heap.size + 1 + 1 + 1 + 1; omega)).trans h.a, blk_set h.b 1 _⟩
theorem Five.finish (h : Five w0 F g a W d s r x0 x1 y0 y1 Wx) : ∃ w4, ((((Wx.setCell ⟨W.heap.size + 1, 0, none⟩ (.int .i64 x0)).setCell ⟨W.heap.size + 1, 1, none⟩ (.int .i64 x1)).setCell ⟨W.heap.size + 1 + 1, 0, none⟩ (.int .i64 y0)).setCell ⟨W.heap.size + 1 + 1, 1, none⟩ (.int .i64 y1)).drew = w4 ∧
    w4.heap[W.heap.size + 1]? = some (.cells #[.int .i64 x0, .int .i64 x1] 38 (0, 0)) ∧ w4.heap[W.heap.size + 1 + 1]? = some (.cells #[.int .i64 y0, .int .i64 y1] 38 (0, 0)) ∧ PairF w0 F g a s r w4 ∧ KeptF F W w4 := by
  have hup := h.up
  have n1 : W.heap.size + 1 ≠ W.heap.size + 1 + 1 := by omega
  have b1 := blk_set (blk_set h.ra 0 (.int .i64 x0)) 1 (.int .i64 x1)
  have b2 : ((Wx.setCell ⟨W.heap.size + 1, 0, none⟩ (.int .i64 x0)).setCell ⟨W.heap.size + 1, 1, none⟩ (.int .i64 x1)).heap[W.heap.size + 1 + 1]? = _ := (Below.heap_setCell _ ⟨W.heap.size + 1, 1, none⟩ _ _ (Ne.symm n1)).trans ((Below.heap_setCell Wx ⟨W.heap.size + 1, 0, none⟩ _ _ (Ne.symm n1)).trans h.rb)
  have c2 := blk_set (blk_set b2 0 (.int .i64 y0)) 1 (.int .i64 y1)
  have c1 := (Below.heap_setCell _ ⟨W.heap.size + 1 + 1, 1, none⟩ (.int .i64 y1) _ n1).trans ((Below.heap_setCell _ ⟨W.heap.size + 1 + 1, 0, none⟩ (.int .i64 y0) _ n1).trans b1)
  have f1 : (fun k => F k ∨ (W.heap.size ≤ k ∧ k < W.heap.size + 5)) (W.heap.size + 1) := .inr (by omega)
  have f2 : (fun k => F k ∨ (W.heap.size ≤ k ∧ k < W.heap.size + 5)) (W.heap.size + 1 + 1) := .inr (by omega)
  have p4 := (((h.pair.set (p := ⟨W.heap.size + 1, 0, none⟩) f1 (by show _ ≤ W.heap.size + 1; omega) (.int .i64 x0)).set (p := ⟨W.heap.size + 1, 1, none⟩) f1 (by show _ ≤ W.heap.size + 1; omega) (.int .i64 x1)).set (p := ⟨W.heap.size + 1 + 1, 0, none⟩) f2 (by show _ ≤ W.heap.size + 1 + 1; omega) (.int .i64 y0)).set (p := ⟨W.heap.size + 1 + 1, 1, none⟩) f2 (by show _ ≤ W.heap.size + 1 + 1; omega) (.int .i64 y1)
  refine ⟨_, rfl, c1, c2, (p4.mono (fun k hk => .inl hk)).below (below_drew (Below.refl _ _)), fun k hk => ?_⟩
  have hlt := h.old k hk
  exact (Below.heap_setCell _ ⟨W.heap.size + 1 + 1, 1, none⟩ _ k (by show k ≠ W.heap.size + 1 + 1; omega)).trans ((Below.heap_setCell _ ⟨W.heap.size + 1 + 1, 0, none⟩ _ k (by show k ≠ W.heap.size + 1 + 1; omega)).trans ((Below.heap_setCell _ ⟨W.heap.size + 1, 1, none⟩ _ k (by show k ≠ W.heap.size + 1; omega)).trans ((Below.heap_setCell Wx ⟨W.heap.size + 1, 0, none⟩ _ k (by show k ≠ W.heap.size + 1; omega)).trans (h.kept k hk))))
set_option maxHeartbeats 8000000 in
set_option maxRecDepth 100000 in
theorem does_calls (h : PairF w0 F g a s r W) (d : PDeed) (hd : DoOK s r d) : Calls Try.prog 18 #[.pointer (some ⟨g, 0, none⟩), .pointer (some ⟨a, 0, none⟩), .agg #[.int .i64 d.k, .int .i64 d.t, .int .i64 d.n, .int .i64 d.v]] W fun e w' =>
    e = .returned (.tuple #[.agg #[.int .i64 (doE s d).1, .int .i64 (doE s d).2.1], .agg #[.int .i64 (doR r d).1, .int .i64 (doR r d).2.1]]) ∧ Aside0 (PairF w0 F g a (doE s d).2.2 (doR r d).2.2 w') ∧ Aside0 (KeptF F W w') := by
  obtain ⟨k, t, n, v⟩ := d
  have HD := Aside0.mk hd
  obtain ⟨W5, hW5, H5⟩ := Five.start h ⟨k, t, n, v⟩
  have HF5 := Aside0.mk H5
  have HEO := Aside0.mk (show ∀ x, openE s t = some x → x.parts ≠ [] ∧ x.parts.length ≤ 1000 ∧ (∀ p ∈ x.parts, p.length ≤ 1000) ∧ x.reads.length ≤ 1000 ∧ ∀ n ∈ x.reads, isE s n = true from hd.eo)
  have HRO := Aside0.mk (show openR r t = true → (txR r t).puts.length ≤ 1000 ∧ 1 ≤ (txR r t).parts ∧ (txR r t).parts ≤ 1000 ∧ (txR r t).reads.length ≤ 1000 ∧ ∀ n ∈ (txR r t).reads, isR r n = true from hd.ro)
  clear h hd H5
  by_cases h0 : k = 0
  · subst h0
    have HE := Aside0.mk (show doE s ⟨0, t, n, v⟩ = (0, (beginE s t).1, (beginE s t).2) from rfl)
    have HR := Aside0.mk (show doR r ⟨0, t, n, v⟩ = (0, (beginR r t).1, (beginR r t).2) from rfl)
    have c1 := HF5.out.pair.begin t
    generalize beginE s t = re at *
    have q0 := blk_cell HF5.out.box 0
    have q1 := blk_cell HF5.out.box 1
    have q2 := blk_cell HF5.out.box 2
    have q3 := blk_cell HF5.out.box 3
    go_enter Try.func18, Try.ntmps18
    go_wp2_with fail
    refine c1.mono ?_; rintro e w1 ⟨rfl, P1, K1⟩
    have HF1 := Aside0.mk (HF5.out.turn P1.out K1.out)
    clear c1 hW5 q0 q1 q2 q3
    have q1 := blk_cell HF1.out.box 1
    have q2 := blk_cell HF1.out.box 2
    have q3 := blk_cell HF1.out.box 3
    have p1 := blk_cell HF1.out.a 1
    have f1 := blk_frozen HF1.out.a 1
    have HF1b := Aside0.mk (HF1.out.setA1 re.1)
    clear P1 K1 HF1
    have c2 := HF1b.out.pair.rbegin t
    generalize beginR r t = rr at *
    go_wp2_with fail
    refine c2.mono ?_; rintro e w2 ⟨rfl, P2, K2⟩
    have HF2 := Aside0.mk (HF1b.out.turn P2.out K2.out)
    clear c2 P2 K2 q1 q2 q3 p1 f1 HF1b
    have p1 := blk_cell HF2.out.b 1
    have f1 := blk_frozen HF2.out.b 1
    have HF3 := Aside0.mk (HF2.out.setB1 rr.1)
    go_upto_region 33 with (fail)
    clear p1 f1 HF2
    obtain ⟨w3, hw3⟩ : ∃ w3, w2.setCell ⟨W.heap.size + 1 + 1 + 1 + 1, 1, none⟩ (.int .i64 rr.1) = w3 := ⟨_, rfl⟩
    rw [hw3] at HF3 ⊢
    clear hw3
    have z0 := blk_cell HF3.out.a 0
    have z1 := blk_cell HF3.out.a 1
    have y0 := blk_cell HF3.out.b 0
    have y1 := blk_cell HF3.out.b 1
    have r0 := blk_cell HF3.out.ra 0
    have r1 := blk_cell HF3.out.ra 1
    have s0 := blk_cell HF3.out.rb 0
    have s1 := blk_cell HF3.out.rb 1
    have r0f := blk_frozen HF3.out.ra 0
    have r1f := blk_frozen HF3.out.ra 1
    have s0f := blk_frozen HF3.out.rb 0
    have s1f := blk_frozen HF3.out.rb 1
    obtain ⟨w4, hw4, hb1, hb2, hP4, hK4⟩ := HF3.out.finish
    have HB1 := Aside0.mk hb1
    have HB2 := Aside0.mk hb2
    have HP4 := Aside0.mk hP4
    have HK4 := Aside0.mk hK4
    have HW4 := Aside0.mk hw4
    clear hb1 hb2 hP4 hK4 hw4
    go_region_law (fail)
    all_goals
      go_wp2
      rw [HW4.out]
      refine bodyPost_ret (results_cc (P := Try.prog) rfl _ _ (W.heap.size + 1) (W.heap.size + 1 + 1) 38 38 _ _ (0, 0) (0, 0) _ _ rfl HB1.out Try.underlying38 rfl (by kernel_rfl) rfl HB2.out Try.underlying38 rfl (by kernel_rfl)) rfl ?_
      rw [HE.out, HR.out]
      exact ⟨rfl, HP4, HK4⟩
  by_cases h1 : k = 1
  · subst h1
    have HE := Aside0.mk (show doE s ⟨1, t, n, v⟩ = readE s t n from rfl)
    have HR := Aside0.mk (show doR r ⟨1, t, n, v⟩ = readR r t n from rfl)
    have c1 := HF5.out.pair.read t n HD.out.ok.2.2.1 (fun x hx => ⟨(HEO.out x hx).1, by have := (HEO.out x hx).2.1; omega, by have := (HEO.out x hx).2.2.2.1; omega⟩)
    generalize readE s t n = re at *
    have q0 := blk_cell HF5.out.box 0
    have q1 := blk_cell HF5.out.box 1
    have q2 := blk_cell HF5.out.box 2
    have q3 := blk_cell HF5.out.box 3
    go_enter Try.func18, Try.ntmps18
    go_wp2_with fail
    refine c1.mono ?_; rintro e w1 ⟨rfl, P1, K1⟩
    have HF1 := Aside0.mk (HF5.out.turn P1.out K1.out)
    clear c1 hW5 q0 q1 q2 q3
    have q1 := blk_cell HF1.out.box 1
    have q2 := blk_cell HF1.out.box 2
    have q3 := blk_cell HF1.out.box 3
    have p1 := blk_cell HF1.out.a 1
    have f1 := blk_frozen HF1.out.a 1
    have p0 := blk_cell HF1.out.a 0
    have f0 := blk_frozen HF1.out.a 0
    have HF1b := Aside0.mk ((HF1.out.setA0 re.1).setA1 re.2.1)
    clear P1 K1 HF1
    have c2 := HF1b.out.pair.rread t n (fun ho => ⟨by have := (HRO.out ho).1; omega, by have := (HRO.out ho).2.2.2.1; omega⟩)
    generalize readR r t n = rr at *
    go_wp2_with fail
    refine c2.mono ?_; rintro e w2 ⟨rfl, P2, K2⟩
    have HF2 := Aside0.mk (HF1b.out.turn P2.out K2.out)
    clear c2 P2 K2 q1 q2 q3 p1 f1 p0 f0 HF1b
    have p1 := blk_cell HF2.out.b 1
    have f1 := blk_frozen HF2.out.b 1
    have p0 := blk_cell HF2.out.b 0
    have f0 := blk_frozen HF2.out.b 0
    have HF3 := Aside0.mk ((HF2.out.setB0 rr.1).setB1 rr.2.1)
    go_upto_region 33 with (fail)
    clear p1 f1 HF2 p0 f0
    obtain ⟨w3, hw3⟩ : ∃ w3, (w2.setCell ⟨W.heap.size + 1 + 1 + 1 + 1, 0, none⟩ (.int .i64 rr.1)).setCell ⟨W.heap.size + 1 + 1 + 1 + 1, 1, none⟩ (.int .i64 rr.2.1) = w3 := ⟨_, rfl⟩
    rw [hw3] at HF3 ⊢
    clear hw3
    have z0 := blk_cell HF3.out.a 0
    have z1 := blk_cell HF3.out.a 1
    have y0 := blk_cell HF3.out.b 0
    have y1 := blk_cell HF3.out.b 1
    have r0 := blk_cell HF3.out.ra 0
    have r1 := blk_cell HF3.out.ra 1
    have s0 := blk_cell HF3.out.rb 0
    have s1 := blk_cell HF3.out.rb 1
    have r0f := blk_frozen HF3.out.ra 0
    have r1f := blk_frozen HF3.out.ra 1
    have s0f := blk_frozen HF3.out.rb 0
    have s1f := blk_frozen HF3.out.rb 1
    obtain ⟨w4, hw4, hb1, hb2, hP4, hK4⟩ := HF3.out.finish
    have HB1 := Aside0.mk hb1
    have HB2 := Aside0.mk hb2
    have HP4 := Aside0.mk hP4
    have HK4 := Aside0.mk hK4
    have HW4 := Aside0.mk hw4
    clear hb1 hb2 hP4 hK4 hw4
    go_region_law (fail)
    all_goals
      go_wp2
      rw [HW4.out]
      refine bodyPost_ret (results_cc (P := Try.prog) rfl _ _ (W.heap.size + 1) (W.heap.size + 1 + 1) 38 38 _ _ (0, 0) (0, 0) _ _ rfl HB1.out Try.underlying38 rfl (by kernel_rfl) rfl HB2.out Try.underlying38 rfl (by kernel_rfl)) rfl ?_
      rw [HE.out, HR.out]
      exact ⟨rfl, HP4, HK4⟩
  by_cases h2 : k = 2
  · subst h2
    have HE := Aside0.mk (show doE s ⟨2, t, n, v⟩ = (0, (writeE s t n v).1, (writeE s t n v).2) from rfl)
    have HR := Aside0.mk (show doR r ⟨2, t, n, v⟩ = (0, (writeR r t n v).1, (writeR r t n v).2) from rfl)
    have c1 := HF5.out.pair.write t n v HD.out.ok.2.2.1 HD.out.ok.2.2.2 (fun x hx => ⟨(HEO.out x hx).1, by have := (HEO.out x hx).2.1; omega, fun p hp => by have := (HEO.out x hx).2.2.1 p hp; omega⟩)
    generalize writeE s t n v = re at *
    have q0 := blk_cell HF5.out.box 0
    have q1 := blk_cell HF5.out.box 1
    have q2 := blk_cell HF5.out.box 2
    have q3 := blk_cell HF5.out.box 3
    go_enter Try.func18, Try.ntmps18
    go_wp2_with fail
    refine c1.mono ?_; rintro e w1 ⟨rfl, P1, K1⟩
    have HF1 := Aside0.mk (HF5.out.turn P1.out K1.out)
    clear c1 hW5 q0 q1 q2 q3
    have q1 := blk_cell HF1.out.box 1
    have q2 := blk_cell HF1.out.box 2
    have q3 := blk_cell HF1.out.box 3
    have p1 := blk_cell HF1.out.a 1
    have f1 := blk_frozen HF1.out.a 1
    have HF1b := Aside0.mk (HF1.out.setA1 re.1)
    clear P1 K1 HF1
    have c2 := HF1b.out.pair.rwrite t n v (fun ho => by have := (HRO.out ho).1; omega)
    generalize writeR r t n v = rr at *
    go_wp2_with fail
    refine c2.mono ?_; rintro e w2 ⟨rfl, P2, K2⟩
    have HF2 := Aside0.mk (HF1b.out.turn P2.out K2.out)
    clear c2 P2 K2 q1 q2 q3 p1 f1 HF1b
    have p1 := blk_cell HF2.out.b 1
    have f1 := blk_frozen HF2.out.b 1
    have HF3 := Aside0.mk (HF2.out.setB1 rr.1)
    go_upto_region 33 with (fail)
    clear p1 f1 HF2
    obtain ⟨w3, hw3⟩ : ∃ w3, w2.setCell ⟨W.heap.size + 1 + 1 + 1 + 1, 1, none⟩ (.int .i64 rr.1) = w3 := ⟨_, rfl⟩
    rw [hw3] at HF3 ⊢
    clear hw3
    have z0 := blk_cell HF3.out.a 0
    have z1 := blk_cell HF3.out.a 1
    have y0 := blk_cell HF3.out.b 0
    have y1 := blk_cell HF3.out.b 1
    have r0 := blk_cell HF3.out.ra 0
    have r1 := blk_cell HF3.out.ra 1
    have s0 := blk_cell HF3.out.rb 0
    have s1 := blk_cell HF3.out.rb 1
    have r0f := blk_frozen HF3.out.ra 0
    have r1f := blk_frozen HF3.out.ra 1
    have s0f := blk_frozen HF3.out.rb 0
    have s1f := blk_frozen HF3.out.rb 1
    obtain ⟨w4, hw4, hb1, hb2, hP4, hK4⟩ := HF3.out.finish
    have HB1 := Aside0.mk hb1
    have HB2 := Aside0.mk hb2
    have HP4 := Aside0.mk hP4
    have HK4 := Aside0.mk hK4
    have HW4 := Aside0.mk hw4
    clear hb1 hb2 hP4 hK4 hw4
    go_region_law (fail)
    all_goals
      go_wp2
      rw [HW4.out]
      refine bodyPost_ret (results_cc (P := Try.prog) rfl _ _ (W.heap.size + 1) (W.heap.size + 1 + 1) 38 38 _ _ (0, 0) (0, 0) _ _ rfl HB1.out Try.underlying38 rfl (by kernel_rfl) rfl HB2.out Try.underlying38 rfl (by kernel_rfl)) rfl ?_
      rw [HE.out, HR.out]
      exact ⟨rfl, HP4, HK4⟩
  by_cases h3 : k = 3
  · subst h3
    have HE := Aside0.mk (show doE s ⟨3, t, n, v⟩ = stepE s t from rfl)
    have HR := Aside0.mk (show doR r ⟨3, t, n, v⟩ = stepR r t from rfl)
    have c1 := HF5.out.pair.step t HD.out.es
    generalize stepE s t = re at *
    have q0 := blk_cell HF5.out.box 0
    have q1 := blk_cell HF5.out.box 1
    have q2 := blk_cell HF5.out.box 2
    have q3 := blk_cell HF5.out.box 3
    go_enter Try.func18, Try.ntmps18
    go_wp2_with fail
    refine c1.mono ?_; rintro e w1 ⟨rfl, P1, K1⟩
    have HF1 := Aside0.mk (HF5.out.turn P1.out K1.out)
    clear c1 hW5 q0 q1 q2 q3
    have q1 := blk_cell HF1.out.box 1
    have q2 := blk_cell HF1.out.box 2
    have q3 := blk_cell HF1.out.box 3
    have p1 := blk_cell HF1.out.a 1
    have f1 := blk_frozen HF1.out.a 1
    have p0 := blk_cell HF1.out.a 0
    have f0 := blk_frozen HF1.out.a 0
    have HF1b := Aside0.mk ((HF1.out.setA0 re.1).setA1 re.2.1)
    clear P1 K1 HF1
    have c2 := HF1b.out.pair.rstep t HD.out.rs
    generalize stepR r t = rr at *
    go_wp2_with fail
    refine c2.mono ?_; rintro e w2 ⟨rfl, P2, K2⟩
    have HF2 := Aside0.mk (HF1b.out.turn P2.out K2.out)
    clear c2 P2 K2 q1 q2 q3 p1 f1 p0 f0 HF1b
    have p1 := blk_cell HF2.out.b 1
    have f1 := blk_frozen HF2.out.b 1
    have p0 := blk_cell HF2.out.b 0
    have f0 := blk_frozen HF2.out.b 0
    have HF3 := Aside0.mk ((HF2.out.setB0 rr.1).setB1 rr.2.1)
    go_upto_region 33 with (fail)
    clear p1 f1 HF2 p0 f0
    obtain ⟨w3, hw3⟩ : ∃ w3, (w2.setCell ⟨W.heap.size + 1 + 1 + 1 + 1, 0, none⟩ (.int .i64 rr.1)).setCell ⟨W.heap.size + 1 + 1 + 1 + 1, 1, none⟩ (.int .i64 rr.2.1) = w3 := ⟨_, rfl⟩
    rw [hw3] at HF3 ⊢
    clear hw3
    have z0 := blk_cell HF3.out.a 0
    have z1 := blk_cell HF3.out.a 1
    have y0 := blk_cell HF3.out.b 0
    have y1 := blk_cell HF3.out.b 1
    have r0 := blk_cell HF3.out.ra 0
    have r1 := blk_cell HF3.out.ra 1
    have s0 := blk_cell HF3.out.rb 0
    have s1 := blk_cell HF3.out.rb 1
    have r0f := blk_frozen HF3.out.ra 0
    have r1f := blk_frozen HF3.out.ra 1
    have s0f := blk_frozen HF3.out.rb 0
    have s1f := blk_frozen HF3.out.rb 1
    obtain ⟨w4, hw4, hb1, hb2, hP4, hK4⟩ := HF3.out.finish
    have HB1 := Aside0.mk hb1
    have HB2 := Aside0.mk hb2
    have HP4 := Aside0.mk hP4
    have HK4 := Aside0.mk hK4
    have HW4 := Aside0.mk hw4
    clear hb1 hb2 hP4 hK4 hw4
    go_region_law (fail)
    all_goals
      go_wp2
      rw [HW4.out]
      refine bodyPost_ret (results_cc (P := Try.prog) rfl _ _ (W.heap.size + 1) (W.heap.size + 1 + 1) 38 38 _ _ (0, 0) (0, 0) _ _ rfl HB1.out Try.underlying38 rfl (by kernel_rfl) rfl HB2.out Try.underlying38 rfl (by kernel_rfl)) rfl ?_
      rw [HE.out, HR.out]
      exact ⟨rfl, HP4, HK4⟩
  by_cases h4 : k = 4
  · subst h4
    have HE := Aside0.mk (show doE s ⟨4, t, n, v⟩ = (0, (partE s t).1, (partE s t).2) from rfl)
    have HR := Aside0.mk (show doR r ⟨4, t, n, v⟩ = (0, (partR r t).1, (partR r t).2) from rfl)
    have c1 := HF5.out.pair.part t (fun x hx => by have := (HEO.out x hx).2.1; omega)
    generalize partE s t = re at *
    have q0 := blk_cell HF5.out.box 0
    have q1 := blk_cell HF5.out.box 1
    have q2 := blk_cell HF5.out.box 2
    have q3 := blk_cell HF5.out.box 3
    go_enter Try.func18, Try.ntmps18
    go_wp2_with fail
    refine c1.mono ?_; rintro e w1 ⟨rfl, P1, K1⟩
    have HF1 := Aside0.mk (HF5.out.turn P1.out K1.out)
    clear c1 hW5 q0 q1 q2 q3
    have q1 := blk_cell HF1.out.box 1
    have q2 := blk_cell HF1.out.box 2
    have q3 := blk_cell HF1.out.box 3
    have p1 := blk_cell HF1.out.a 1
    have f1 := blk_frozen HF1.out.a 1
    have HF1b := Aside0.mk (HF1.out.setA1 re.1)
    clear P1 K1 HF1
    have c2 := HF1b.out.pair.rpart t (fun ho => ⟨by have := (HRO.out ho).2.1; omega, by have := (HRO.out ho).2.2.1; omega⟩)
    generalize partR r t = rr at *
    go_wp2_with fail
    refine c2.mono ?_; rintro e w2 ⟨rfl, P2, K2⟩
    have HF2 := Aside0.mk (HF1b.out.turn P2.out K2.out)
    clear c2 P2 K2 q1 q2 q3 p1 f1 HF1b
    have p1 := blk_cell HF2.out.b 1
    have f1 := blk_frozen HF2.out.b 1
    have HF3 := Aside0.mk (HF2.out.setB1 rr.1)
    go_upto_region 33 with (fail)
    clear p1 f1 HF2
    obtain ⟨w3, hw3⟩ : ∃ w3, w2.setCell ⟨W.heap.size + 1 + 1 + 1 + 1, 1, none⟩ (.int .i64 rr.1) = w3 := ⟨_, rfl⟩
    rw [hw3] at HF3 ⊢
    clear hw3
    have z0 := blk_cell HF3.out.a 0
    have z1 := blk_cell HF3.out.a 1
    have y0 := blk_cell HF3.out.b 0
    have y1 := blk_cell HF3.out.b 1
    have r0 := blk_cell HF3.out.ra 0
    have r1 := blk_cell HF3.out.ra 1
    have s0 := blk_cell HF3.out.rb 0
    have s1 := blk_cell HF3.out.rb 1
    have r0f := blk_frozen HF3.out.ra 0
    have r1f := blk_frozen HF3.out.ra 1
    have s0f := blk_frozen HF3.out.rb 0
    have s1f := blk_frozen HF3.out.rb 1
    obtain ⟨w4, hw4, hb1, hb2, hP4, hK4⟩ := HF3.out.finish
    have HB1 := Aside0.mk hb1
    have HB2 := Aside0.mk hb2
    have HP4 := Aside0.mk hP4
    have HK4 := Aside0.mk hK4
    have HW4 := Aside0.mk hw4
    clear hb1 hb2 hP4 hK4 hw4
    go_region_law (fail)
    all_goals
      go_wp2
      rw [HW4.out]
      refine bodyPost_ret (results_cc (P := Try.prog) rfl _ _ (W.heap.size + 1) (W.heap.size + 1 + 1) 38 38 _ _ (0, 0) (0, 0) _ _ rfl HB1.out Try.underlying38 rfl (by kernel_rfl) rfl HB2.out Try.underlying38 rfl (by kernel_rfl)) rfl ?_
      rw [HE.out, HR.out]
      exact ⟨rfl, HP4, HK4⟩
  by_cases h5 : k = 5
  · subst h5
    have HE := Aside0.mk (show doE s ⟨5, t, n, v⟩ = (0, (shutE s t true).1, (shutE s t true).2) from rfl)
    have HR := Aside0.mk (show doR r ⟨5, t, n, v⟩ = (0, (shutR r t true).1, (shutR r t true).2) from rfl)
    have c1 := HF5.out.pair.join t (fun x hx => ⟨by have := (HEO.out x hx).2.1; omega, fun p hp => by have := (HEO.out x hx).2.2.1 p hp; omega⟩)
    generalize shutE s t true = re at *
    have q0 := blk_cell HF5.out.box 0
    have q1 := blk_cell HF5.out.box 1
    have q2 := blk_cell HF5.out.box 2
    have q3 := blk_cell HF5.out.box 3
    go_enter Try.func18, Try.ntmps18
    go_wp2_with fail
    refine c1.mono ?_; rintro e w1 ⟨rfl, P1, K1⟩
    have HF1 := Aside0.mk (HF5.out.turn P1.out K1.out)
    clear c1 hW5 q0 q1 q2 q3
    have q1 := blk_cell HF1.out.box 1
    have q2 := blk_cell HF1.out.box 2
    have q3 := blk_cell HF1.out.box 3
    have p1 := blk_cell HF1.out.a 1
    have f1 := blk_frozen HF1.out.a 1
    have HF1b := Aside0.mk (HF1.out.setA1 re.1)
    clear P1 K1 HF1
    have c2 := HF1b.out.pair.rshut t true (fun ho => ⟨by have := (HRO.out ho).1; omega, (HRO.out ho).2.1, by have := (HRO.out ho).2.2.1; omega⟩)
    generalize shutR r t true = rr at *
    go_wp2_with fail
    refine c2.mono ?_; rintro e w2 ⟨rfl, P2, K2⟩
    have HF2 := Aside0.mk (HF1b.out.turn P2.out K2.out)
    clear c2 P2 K2 q1 q2 q3 p1 f1 HF1b
    have p1 := blk_cell HF2.out.b 1
    have f1 := blk_frozen HF2.out.b 1
    have HF3 := Aside0.mk (HF2.out.setB1 rr.1)
    go_upto_region 33 with (fail)
    clear p1 f1 HF2
    obtain ⟨w3, hw3⟩ : ∃ w3, w2.setCell ⟨W.heap.size + 1 + 1 + 1 + 1, 1, none⟩ (.int .i64 rr.1) = w3 := ⟨_, rfl⟩
    rw [hw3] at HF3 ⊢
    clear hw3
    have z0 := blk_cell HF3.out.a 0
    have z1 := blk_cell HF3.out.a 1
    have y0 := blk_cell HF3.out.b 0
    have y1 := blk_cell HF3.out.b 1
    have r0 := blk_cell HF3.out.ra 0
    have r1 := blk_cell HF3.out.ra 1
    have s0 := blk_cell HF3.out.rb 0
    have s1 := blk_cell HF3.out.rb 1
    have r0f := blk_frozen HF3.out.ra 0
    have r1f := blk_frozen HF3.out.ra 1
    have s0f := blk_frozen HF3.out.rb 0
    have s1f := blk_frozen HF3.out.rb 1
    obtain ⟨w4, hw4, hb1, hb2, hP4, hK4⟩ := HF3.out.finish
    have HB1 := Aside0.mk hb1
    have HB2 := Aside0.mk hb2
    have HP4 := Aside0.mk hP4
    have HK4 := Aside0.mk hK4
    have HW4 := Aside0.mk hw4
    clear hb1 hb2 hP4 hK4 hw4
    go_region_law (fail)
    all_goals
      go_wp2
      rw [HW4.out]
      refine bodyPost_ret (results_cc (P := Try.prog) rfl _ _ (W.heap.size + 1) (W.heap.size + 1 + 1) 38 38 _ _ (0, 0) (0, 0) _ _ rfl HB1.out Try.underlying38 rfl (by kernel_rfl) rfl HB2.out Try.underlying38 rfl (by kernel_rfl)) rfl ?_
      rw [HE.out, HR.out]
      exact ⟨rfl, HP4, HK4⟩
  by_cases h6 : k = 6
  · subst h6
    have HE := Aside0.mk (show doE s ⟨6, t, n, v⟩ = (0, (shutE s t false).1, (shutE s t false).2) from rfl)
    have HR := Aside0.mk (show doR r ⟨6, t, n, v⟩ = (0, (shutR r t false).1, (shutR r t false).2) from rfl)
    have c1 := HF5.out.pair.undo t (fun x hx => ⟨by have := (HEO.out x hx).2.1; omega, fun p hp => by have := (HEO.out x hx).2.2.1 p hp; omega⟩)
    generalize shutE s t false = re at *
    have q0 := blk_cell HF5.out.box 0
    have q1 := blk_cell HF5.out.box 1
    have q2 := blk_cell HF5.out.box 2
    have q3 := blk_cell HF5.out.box 3
    go_enter Try.func18, Try.ntmps18
    go_wp2_with fail
    refine c1.mono ?_; rintro e w1 ⟨rfl, P1, K1⟩
    have HF1 := Aside0.mk (HF5.out.turn P1.out K1.out)
    clear c1 hW5 q0 q1 q2 q3
    have q1 := blk_cell HF1.out.box 1
    have q2 := blk_cell HF1.out.box 2
    have q3 := blk_cell HF1.out.box 3
    have p1 := blk_cell HF1.out.a 1
    have f1 := blk_frozen HF1.out.a 1
    have HF1b := Aside0.mk (HF1.out.setA1 re.1)
    clear P1 K1 HF1
    have c2 := HF1b.out.pair.rshut t false (fun ho => ⟨by have := (HRO.out ho).1; omega, (HRO.out ho).2.1, by have := (HRO.out ho).2.2.1; omega⟩)
    generalize shutR r t false = rr at *
    go_wp2_with fail
    refine c2.mono ?_; rintro e w2 ⟨rfl, P2, K2⟩
    have HF2 := Aside0.mk (HF1b.out.turn P2.out K2.out)
    clear c2 P2 K2 q1 q2 q3 p1 f1 HF1b
    have p1 := blk_cell HF2.out.b 1
    have f1 := blk_frozen HF2.out.b 1
    have HF3 := Aside0.mk (HF2.out.setB1 rr.1)
    go_upto_region 33 with (fail)
    clear p1 f1 HF2
    obtain ⟨w3, hw3⟩ : ∃ w3, w2.setCell ⟨W.heap.size + 1 + 1 + 1 + 1, 1, none⟩ (.int .i64 rr.1) = w3 := ⟨_, rfl⟩
    rw [hw3] at HF3 ⊢
    clear hw3
    have z0 := blk_cell HF3.out.a 0
    have z1 := blk_cell HF3.out.a 1
    have y0 := blk_cell HF3.out.b 0
    have y1 := blk_cell HF3.out.b 1
    have r0 := blk_cell HF3.out.ra 0
    have r1 := blk_cell HF3.out.ra 1
    have s0 := blk_cell HF3.out.rb 0
    have s1 := blk_cell HF3.out.rb 1
    have r0f := blk_frozen HF3.out.ra 0
    have r1f := blk_frozen HF3.out.ra 1
    have s0f := blk_frozen HF3.out.rb 0
    have s1f := blk_frozen HF3.out.rb 1
    obtain ⟨w4, hw4, hb1, hb2, hP4, hK4⟩ := HF3.out.finish
    have HB1 := Aside0.mk hb1
    have HB2 := Aside0.mk hb2
    have HP4 := Aside0.mk hP4
    have HK4 := Aside0.mk hK4
    have HW4 := Aside0.mk hw4
    clear hb1 hb2 hP4 hK4 hw4
    go_region_law (fail)
    all_goals
      go_wp2
      rw [HW4.out]
      refine bodyPost_ret (results_cc (P := Try.prog) rfl _ _ (W.heap.size + 1) (W.heap.size + 1 + 1) 38 38 _ _ (0, 0) (0, 0) _ _ rfl HB1.out Try.underlying38 rfl (by kernel_rfl) rfl HB2.out Try.underlying38 rfl (by kernel_rfl)) rfl ?_
      rw [HE.out, HR.out]
      exact ⟨rfl, HP4, HK4⟩
  by_cases h7 : k = 7
  · subst h7
    have HE := Aside0.mk (show doE s ⟨7, t, n, v⟩ = (0, (abortE s t).1, (abortE s t).2) from rfl)
    have HR := Aside0.mk (show doR r ⟨7, t, n, v⟩ = (0, (abortR r t).1, (abortR r t).2) from rfl)
    have c1 := HF5.out.pair.abort t (by have := HD.out.vl; omega)
    generalize abortE s t = re at *
    have q0 := blk_cell HF5.out.box 0
    have q1 := blk_cell HF5.out.box 1
    have q2 := blk_cell HF5.out.box 2
    have q3 := blk_cell HF5.out.box 3
    go_enter Try.func18, Try.ntmps18
    go_wp2_with fail
    refine c1.mono ?_; rintro e w1 ⟨rfl, P1, K1⟩
    have HF1 := Aside0.mk (HF5.out.turn P1.out K1.out)
    clear c1 hW5 q0 q1 q2 q3
    have q1 := blk_cell HF1.out.box 1
    have q2 := blk_cell HF1.out.box 2
    have q3 := blk_cell HF1.out.box 3
    have p1 := blk_cell HF1.out.a 1
    have f1 := blk_frozen HF1.out.a 1
    have HF1b := Aside0.mk (HF1.out.setA1 re.1)
    clear P1 K1 HF1
    have c2 := HF1b.out.pair.rabort t (by have := HD.out.rl; omega)
    generalize abortR r t = rr at *
    go_wp2_with fail
    refine c2.mono ?_; rintro e w2 ⟨rfl, P2, K2⟩
    have HF2 := Aside0.mk (HF1b.out.turn P2.out K2.out)
    clear c2 P2 K2 q1 q2 q3 p1 f1 HF1b
    have p1 := blk_cell HF2.out.b 1
    have f1 := blk_frozen HF2.out.b 1
    have HF3 := Aside0.mk (HF2.out.setB1 rr.1)
    go_upto_region 33 with (fail)
    clear p1 f1 HF2
    obtain ⟨w3, hw3⟩ : ∃ w3, w2.setCell ⟨W.heap.size + 1 + 1 + 1 + 1, 1, none⟩ (.int .i64 rr.1) = w3 := ⟨_, rfl⟩
    rw [hw3] at HF3 ⊢
    clear hw3
    have z0 := blk_cell HF3.out.a 0
    have z1 := blk_cell HF3.out.a 1
    have y0 := blk_cell HF3.out.b 0
    have y1 := blk_cell HF3.out.b 1
    have r0 := blk_cell HF3.out.ra 0
    have r1 := blk_cell HF3.out.ra 1
    have s0 := blk_cell HF3.out.rb 0
    have s1 := blk_cell HF3.out.rb 1
    have r0f := blk_frozen HF3.out.ra 0
    have r1f := blk_frozen HF3.out.ra 1
    have s0f := blk_frozen HF3.out.rb 0
    have s1f := blk_frozen HF3.out.rb 1
    obtain ⟨w4, hw4, hb1, hb2, hP4, hK4⟩ := HF3.out.finish
    have HB1 := Aside0.mk hb1
    have HB2 := Aside0.mk hb2
    have HP4 := Aside0.mk hP4
    have HK4 := Aside0.mk hK4
    have HW4 := Aside0.mk hw4
    clear hb1 hb2 hP4 hK4 hw4
    go_region_law (fail)
    all_goals
      go_wp2
      rw [HW4.out]
      refine bodyPost_ret (results_cc (P := Try.prog) rfl _ _ (W.heap.size + 1) (W.heap.size + 1 + 1) 38 38 _ _ (0, 0) (0, 0) _ _ rfl HB1.out Try.underlying38 rfl (by kernel_rfl) rfl HB2.out Try.underlying38 rfl (by kernel_rfl)) rfl ?_
      rw [HE.out, HR.out]
      exact ⟨rfl, HP4, HK4⟩
  by_cases h8 : k = 8
  · subst h8
    have HE := Aside0.mk (show doE s ⟨8, t, n, v⟩ = makeE s v from rfl)
    have HR := Aside0.mk (show doR r ⟨8, t, n, v⟩ = makeR r v from rfl)
    have c1 := HF5.out.pair.make v HD.out.vl
    generalize makeE s v = re at *
    have q0 := blk_cell HF5.out.box 0
    have q1 := blk_cell HF5.out.box 1
    have q2 := blk_cell HF5.out.box 2
    have q3 := blk_cell HF5.out.box 3
    go_enter Try.func18, Try.ntmps18
    go_wp2_with fail
    refine c1.mono ?_; rintro e w1 ⟨rfl, P1, K1⟩
    have HF1 := Aside0.mk (HF5.out.turn P1.out K1.out)
    clear c1 hW5 q0 q1 q2 q3
    have q1 := blk_cell HF1.out.box 1
    have q2 := blk_cell HF1.out.box 2
    have q3 := blk_cell HF1.out.box 3
    have p1 := blk_cell HF1.out.a 1
    have f1 := blk_frozen HF1.out.a 1
    have p0 := blk_cell HF1.out.a 0
    have f0 := blk_frozen HF1.out.a 0
    have HF1b := Aside0.mk ((HF1.out.setA0 re.1).setA1 re.2.1)
    clear P1 K1 HF1
    have c2 := HF1b.out.pair.rmake v HD.out.rl
    generalize makeR r v = rr at *
    go_wp2_with fail
    refine c2.mono ?_; rintro e w2 ⟨rfl, P2, K2⟩
    have HF2 := Aside0.mk (HF1b.out.turn P2.out K2.out)
    clear c2 P2 K2 q1 q2 q3 p1 f1 p0 f0 HF1b
    have p1 := blk_cell HF2.out.b 1
    have f1 := blk_frozen HF2.out.b 1
    have p0 := blk_cell HF2.out.b 0
    have f0 := blk_frozen HF2.out.b 0
    have HF3 := Aside0.mk ((HF2.out.setB0 rr.1).setB1 rr.2.1)
    go_upto_region 33 with (fail)
    clear p1 f1 HF2 p0 f0
    obtain ⟨w3, hw3⟩ : ∃ w3, (w2.setCell ⟨W.heap.size + 1 + 1 + 1 + 1, 0, none⟩ (.int .i64 rr.1)).setCell ⟨W.heap.size + 1 + 1 + 1 + 1, 1, none⟩ (.int .i64 rr.2.1) = w3 := ⟨_, rfl⟩
    rw [hw3] at HF3 ⊢
    clear hw3
    have z0 := blk_cell HF3.out.a 0
    have z1 := blk_cell HF3.out.a 1
    have y0 := blk_cell HF3.out.b 0
    have y1 := blk_cell HF3.out.b 1
    have r0 := blk_cell HF3.out.ra 0
    have r1 := blk_cell HF3.out.ra 1
    have s0 := blk_cell HF3.out.rb 0
    have s1 := blk_cell HF3.out.rb 1
    have r0f := blk_frozen HF3.out.ra 0
    have r1f := blk_frozen HF3.out.ra 1
    have s0f := blk_frozen HF3.out.rb 0
    have s1f := blk_frozen HF3.out.rb 1
    obtain ⟨w4, hw4, hb1, hb2, hP4, hK4⟩ := HF3.out.finish
    have HB1 := Aside0.mk hb1
    have HB2 := Aside0.mk hb2
    have HP4 := Aside0.mk hP4
    have HK4 := Aside0.mk hK4
    have HW4 := Aside0.mk hw4
    clear hb1 hb2 hP4 hK4 hw4
    go_region_law (fail)
    all_goals
      go_wp2
      rw [HW4.out]
      refine bodyPost_ret (results_cc (P := Try.prog) rfl _ _ (W.heap.size + 1) (W.heap.size + 1 + 1) 38 38 _ _ (0, 0) (0, 0) _ _ rfl HB1.out Try.underlying38 rfl (by kernel_rfl) rfl HB2.out Try.underlying38 rfl (by kernel_rfl)) rfl ?_
      rw [HE.out, HR.out]
      exact ⟨rfl, HP4, HK4⟩
  by_cases h9 : k = 9
  · subst h9
    have HE := Aside0.mk (show doE s ⟨9, t, n, v⟩ = (0, validE s t, s) from rfl)
    have HR := Aside0.mk (show doR r ⟨9, t, n, v⟩ = (0, validR r t, r) from rfl)
    have c1 := HF5.out.pair.valid t (fun x hx => ⟨(HEO.out x hx).2.2.2.2, by have := (HEO.out x hx).2.2.2.1; omega⟩)
    generalize validE s t = re at *
    have q0 := blk_cell HF5.out.box 0
    have q1 := blk_cell HF5.out.box 1
    have q2 := blk_cell HF5.out.box 2
    have q3 := blk_cell HF5.out.box 3
    go_enter Try.func18, Try.ntmps18
    go_wp2_with fail
    refine c1.mono ?_; rintro e w1 ⟨rfl, P1, K1⟩
    have HF1 := Aside0.mk (HF5.out.turn P1.out K1.out)
    clear c1 hW5 q0 q1 q2 q3
    have q1 := blk_cell HF1.out.box 1
    have q2 := blk_cell HF1.out.box 2
    have q3 := blk_cell HF1.out.box 3
    have p1 := blk_cell HF1.out.a 1
    have f1 := blk_frozen HF1.out.a 1
    have HF1b := Aside0.mk (HF1.out.setA1 re)
    clear P1 K1 HF1
    have c2 := HF1b.out.pair.rvalid t (fun ho => ⟨(HRO.out ho).2.2.2.2, by have := (HRO.out ho).2.2.2.1; omega⟩)
    generalize validR r t = rr at *
    go_wp2_with fail
    refine c2.mono ?_; rintro e w2 ⟨rfl, P2, K2⟩
    have HF2 := Aside0.mk (HF1b.out.turn P2.out K2.out)
    clear c2 P2 K2 q1 q2 q3 p1 f1 HF1b
    have p1 := blk_cell HF2.out.b 1
    have f1 := blk_frozen HF2.out.b 1
    have HF3 := Aside0.mk (HF2.out.setB1 rr)
    go_upto_region 33 with (fail)
    clear p1 f1 HF2
    obtain ⟨w3, hw3⟩ : ∃ w3, w2.setCell ⟨W.heap.size + 1 + 1 + 1 + 1, 1, none⟩ (.int .i64 rr) = w3 := ⟨_, rfl⟩
    rw [hw3] at HF3 ⊢
    clear hw3
    have z0 := blk_cell HF3.out.a 0
    have z1 := blk_cell HF3.out.a 1
    have y0 := blk_cell HF3.out.b 0
    have y1 := blk_cell HF3.out.b 1
    have r0 := blk_cell HF3.out.ra 0
    have r1 := blk_cell HF3.out.ra 1
    have s0 := blk_cell HF3.out.rb 0
    have s1 := blk_cell HF3.out.rb 1
    have r0f := blk_frozen HF3.out.ra 0
    have r1f := blk_frozen HF3.out.ra 1
    have s0f := blk_frozen HF3.out.rb 0
    have s1f := blk_frozen HF3.out.rb 1
    obtain ⟨w4, hw4, hb1, hb2, hP4, hK4⟩ := HF3.out.finish
    have HB1 := Aside0.mk hb1
    have HB2 := Aside0.mk hb2
    have HP4 := Aside0.mk hP4
    have HK4 := Aside0.mk hK4
    have HW4 := Aside0.mk hw4
    clear hb1 hb2 hP4 hK4 hw4
    go_region_law (fail)
    all_goals
      go_wp2
      rw [HW4.out]
      refine bodyPost_ret (results_cc (P := Try.prog) rfl _ _ (W.heap.size + 1) (W.heap.size + 1 + 1) 38 38 _ _ (0, 0) (0, 0) _ _ rfl HB1.out Try.underlying38 rfl (by kernel_rfl) rfl HB2.out Try.underlying38 rfl (by kernel_rfl)) rfl ?_
      rw [HE.out, HR.out]
      exact ⟨rfl, HP4, HK4⟩
  have e0 : ∀ j : Int, (k = j → False) → (k == j) = false := fun j h => beq_eq_false_iff_ne.2 h
  have b0 := e0 0 h0
  have b1 := e0 1 h1
  have b2 := e0 2 h2
  have b3 := e0 3 h3
  have b4 := e0 4 h4
  have b5 := e0 5 h5
  have b6 := e0 6 h6
  have b7 := e0 7 h7
  have b8 := e0 8 h8
  have b9 := e0 9 h9
  clear e0
  have HE := Aside0.mk (show doE s ⟨k, t, n, v⟩ = (0, 0, s) by unfold doE; simp only [h0, h1, h2, h3, h4, h5, h6, h7, h8, h9, if_false])
  have HR := Aside0.mk (show doR r ⟨k, t, n, v⟩ = (0, 0, r) by unfold doR; simp only [h0, h1, h2, h3, h4, h5, h6, h7, h8, h9, if_false])
  have q0 := blk_cell HF5.out.box 0
  clear h0 h1 h2 h3 h4 h5 h6 h7 h8 h9
  go_enter Try.func18, Try.ntmps18
  go_upto_region 33 with (fail)
  clear q0 hW5 b0 b1 b2 b3 b4 b5 b6 b7 b8 b9
  have HF3 := HF5
  clear HF5
  have z0 := blk_cell HF3.out.a 0
  have z1 := blk_cell HF3.out.a 1
  have y0 := blk_cell HF3.out.b 0
  have y1 := blk_cell HF3.out.b 1
  have r0 := blk_cell HF3.out.ra 0
  have r1 := blk_cell HF3.out.ra 1
  have s0 := blk_cell HF3.out.rb 0
  have s1 := blk_cell HF3.out.rb 1
  have r0f := blk_frozen HF3.out.ra 0
  have r1f := blk_frozen HF3.out.ra 1
  have s0f := blk_frozen HF3.out.rb 0
  have s1f := blk_frozen HF3.out.rb 1
  obtain ⟨w4, hw4, hb1, hb2, hP4, hK4⟩ := HF3.out.finish
  have HB1 := Aside0.mk hb1
  have HB2 := Aside0.mk hb2
  have HP4 := Aside0.mk hP4
  have HK4 := Aside0.mk hK4
  have HW4 := Aside0.mk hw4
  clear hb1 hb2 hP4 hK4 hw4
  go_region_law (fail)
  all_goals
    go_wp2
    rw [HW4.out]
    refine bodyPost_ret (results_cc (P := Try.prog) rfl _ _ (W.heap.size + 1) (W.heap.size + 1 + 1) 38 38 _ _ (0, 0) (0, 0) _ _ rfl HB1.out Try.underlying38 rfl (by kernel_rfl) rfl HB2.out Try.underlying38 rfl (by kernel_rfl)) rfl ?_
    rw [HE.out, HR.out]
    exact ⟨rfl, HP4, HK4⟩
end
end Go.Proofs.Ytcnbgamalhfkmaa.P
