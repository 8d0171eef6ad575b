/- tl2: an engine beside a row; the walk of Parts. -/
import Derived.Test.YtcnbgamalhfkmaaU1
import Derived.Test.YtcnbgamalhfkmaaV0
import Derived.Test.YtcnbgamalhfkmaaJ1
namespace Go.Proofs.Ytcnbgamalhfkmaa.P
open Go.RowKit Go.Proofs.YtcnbgamalhfkmaaW.PrintWords Go.Proofs.YtcnbgamalhfkmaaW.PrintLast Go.Proofs.YtcnbgamalhfkmaaW.PrintMore
set_option linter.unusedVariables false
set_option linter.unusedSimpArgs false
open Go.WideShapes Go.Maps Go.Shelf
/-- An engine, and a block beside it that holds o. -/
def LoneB (w0 : World) (g : Nat) (s : PEng) (kb : Nat) (o : Obj) (W : World) : Prop := ∃ ρ cells vs, EngAt W w0.heap.size ρ g s cells vs ∧ Below w0.heap.size w0 W ∧ ρ kb = 0 ∧ W.heap[kb]? = some o
section
variable {w0 W W' : World} {g kb : Nat} {s s' : PEng} {o : Obj}
theorem LoneB.turn {ρ : Nat → Nat} (hb : Below w0.heap.size w0 W) (h0 : ρ kb = 0) (hk : W.heap[kb]? = some o) (h : EngPost W w0.heap.size ρ g s' W') : LoneB w0 g s' kb o W' := by
  obtain ⟨ρ', cells', vs', he, hd⟩ := h
  have hl := blk_lt hk
  exact ⟨ρ', cells', vs', he, hb.trans hd.below, by rw [hd.same kb hl]; exact h0, (hd.kept.2 kb hl (fun e => e h0)).trans hk⟩
theorem Pair.lone {a : Nat} {r : REng} (h : Pair w0 g a s r W) : Lone w0 g s W := by
  obtain ⟨ρ, cells, vs, σ, V, gt, tc, hE, hR, hap, hb⟩ := h
  exact ⟨ρ, cells, vs, hE, hb⟩
theorem LoneB.lone (h : LoneB w0 g s kb o W) : Lone w0 g s W := by
  obtain ⟨ρ, cells, vs, hE, hb, _, _⟩ := h
  exact ⟨ρ, cells, vs, hE, hb⟩
theorem Lone.block (h : Lone w0 g s W) (o : Obj) : LoneB w0 g s W.heap.size o (W.alloc o) := by
  obtain ⟨ρ, cells, vs, hE, hb⟩ := h
  refine ⟨ρ, cells, vs, hE.below (below_1 W o), below_alloc hb o, ?_, blk_new W o⟩
  by_cases e : ρ W.heap.size = 0
  · exact e
  · have := hE.own _ e; omega
theorem LoneB.set {cs : Array Value} (h : LoneB w0 g s kb (.cells cs 3 (0, 0)) W) (hkb : w0.heap.size ≤ kb) (i : Nat) (v : Value) : LoneB w0 g s kb (.cells (cs.setIfInBounds i v) 3 (0, 0)) (W.setCell ⟨kb, i, none⟩ v) := by
  obtain ⟨ρ, cells, vs, hE, hb, h0, hk⟩ := h
  exact ⟨ρ, cells, vs, hE.kept (S := fun k => k = kb) (Kept.setCell (S := fun k => k = kb) (Kept.refl W _) (p := ⟨kb, i, none⟩) (.inl (show kb = kb from rfl)) v) (fun k e => by rw [e]; exact h0), hb.setCell (p := ⟨kb, i, none⟩) hkb v, h0, blk_set hk i v⟩
theorem LoneB.part (h : LoneB w0 g s kb o W) (t : Int) {f : Int} {s1 : PEng} (he : partE s t = (f, s1)) (hp : ∀ x, openE s t = some x → x.parts.length ≤ 100000) : Calls Try.prog 12 #[.pointer (some ⟨g, 0, none⟩), .int .i64 t] W fun e w' => e = .returned (.int .i64 f) ∧ Aside0 (LoneB w0 g s1 kb o w') := by
  obtain ⟨ρ, cells, vs, h1, hb, h0, hk⟩ := h
  refine (part_calls h1 t hp).mono ?_
  rintro e w' ⟨rfl, hp⟩
  rw [he] at hp ⊢
  exact ⟨rfl, ⟨LoneB.turn hb h0 hk hp⟩⟩
theorem LoneB.write (h : LoneB w0 g s kb o W) (t n v : Int) {f : Int} {s1 : PEng} (he : writeE s t n v = (f, s1)) (hn : in64 n) (hv : in64 v) (hp : ∀ x, openE s t = some x → x.parts ≠ [] ∧ x.parts.length ≤ 100000 ∧ ∀ p ∈ x.parts, p.length ≤ 100000) : Calls Try.prog 13 #[.pointer (some ⟨g, 0, none⟩), .int .i64 t, .int .i64 n, .int .i64 v] W fun e w' => e = .returned (.int .i64 f) ∧ Aside0 (LoneB w0 g s1 kb o w') := by
  obtain ⟨ρ, cells, vs, h1, hb, h0, hk⟩ := h
  refine (write_calls h1 t n v hn hv hp).mono ?_
  rintro e w' ⟨rfl, hp⟩
  rw [he] at hp ⊢
  exact ⟨rfl, ⟨LoneB.turn hb h0 hk hp⟩⟩
theorem LoneB.shut (h : LoneB w0 g s kb o W) (t : Int) (keep : Bool) {f : Int} {s1 : PEng} (he : shutE s t keep = (f, s1)) (hp : ∀ x, openE s t = some x → x.parts.length ≤ 100000 ∧ ∀ p ∈ x.parts, p.length ≤ 100000) : Calls Try.prog (if keep then 14 else 15) #[.pointer (some ⟨g, 0, none⟩), .int .i64 t] W fun e w' => e = .returned (.int .i64 f) ∧ Aside0 (LoneB w0 g s1 kb o w') := by
  obtain ⟨ρ, cells, vs, h1, hb, h0, hk⟩ := h
  cases keep with
  | true =>
    refine (join_calls h1 t hp).mono ?_
    rintro e w' ⟨rfl, hp⟩
    rw [he] at hp ⊢
    exact ⟨rfl, ⟨LoneB.turn hb h0 hk hp⟩⟩
  | false =>
    refine (undo_calls h1 t hp).mono ?_
    rintro e w' ⟨rfl, hp⟩
    rw [he] at hp ⊢
    exact ⟨rfl, ⟨LoneB.turn hb h0 hk hp⟩⟩
theorem LoneB.read (h : LoneB w0 g s kb o W) (t n : Int) {v f : Int} {s1 : PEng} (he : readE s t n = (v, f, s1)) (hn : in64 n) (hp : ∀ x, openE s t = some x → x.parts ≠ [] ∧ x.parts.length ≤ 100000 ∧ x.reads.length ≤ 100000) : Calls Try.prog 16 #[.pointer (some ⟨g, 0, none⟩), .int .i64 t, .int .i64 n] W fun e w' => e = .returned (.tuple #[.int .i64 v, .int .i64 f]) ∧ Aside0 (LoneB w0 g s1 kb o w') := by
  obtain ⟨ρ, cells, vs, h1, hb, h0, hk⟩ := h
  refine (read_calls h1 t n hn hp).mono ?_
  rintro e w' ⟨rfl, hp⟩
  rw [he] at hp ⊢
  exact ⟨rfl, ⟨LoneB.turn hb h0 hk hp⟩⟩
end
/-! the states of Parts -/
def pv (P : List Mp) (rd : List Int) : PEng := ⟨0, [⟨10, 0, -1⟩, ⟨11, 0, -1⟩, ⟨12, 0, -1⟩, ⟨13, 0, -1⟩], [some ⟨0, 0, rd, P, false, false, []⟩, none, none, none, none, none, none, none]⟩
theorem pv_begin : beginE (begE 4) 0 = (0, pv [[]] []) := rfl
theorem pv_open (P : List Mp) (rd : List Int) : openE (pv P rd) 0 = some ⟨0, 0, rd, P, false, false, []⟩ := rfl
theorem pv_part (P : List Mp) (rd : List Int) : partE (pv P rd) 0 = (0, pv (P ++ [[]]) rd) := rfl
theorem pv_is {n : Int} (h : 0 ≤ n ∧ n < 4) (P : List Mp) (rd : List Int) : isE (pv P rd) n = true := isE_iff.2 ⟨h.1, h.2⟩
theorem pv_write {n : Int} (h : 0 ≤ n ∧ n < 4) (v : Int) (P : List Mp) (rd : List Int) : writeE (pv P rd) 0 n v = (0, pv (P.dropLast ++ [putM (P.getLastD []) n v]) rd) := by
  unfold writeE
  rw [pv_open]
  simp only [pv_is h, Bool.not_true, Bool.false_eq_true, if_false]
  rfl
theorem pv_look {n : Int} (h : 0 ≤ n ∧ n < 4) (P : List Mp) (rd : List Int) : lookE (pv P rd) 0 0 n = 0 ∧ (varE (pv P rd) n).value = 10 + n := by
  have : n = 0 ∨ n = 1 ∨ n = 2 ∨ n = 3 := by omega
  rcases this with rfl | rfl | rfl | rfl <;> exact ⟨rfl, rfl⟩
theorem pv_read {n : Int} (h : 0 ≤ n ∧ n < 4) (P : List Mp) (rd : List Int) : ∃ rd', readE (pv P rd) 0 n = ((hitM P n).getD (10 + n), 0, pv P rd') ∧ (rd' = rd ∨ rd' = rd ++ [n]) := by
  obtain ⟨h1, h2⟩ := pv_look h P rd
  unfold readE
  rw [pv_open]
  simp only [pv_is h, Bool.not_true, Bool.false_eq_true, if_false]
  cases hitM P n with
  | some v => exact ⟨rd, rfl, .inl rfl⟩
  | none =>
    simp only [h1, h2]
    by_cases hc : rd.contains n = true
    · rw [if_pos hc]; exact ⟨rd, rfl, .inl rfl⟩
    · rw [if_neg hc]; exact ⟨rd ++ [n], rfl, .inr rfl⟩
theorem pv_join (A B : Mp) (rd : List Int) : shutE (pv [A, B] rd) 0 true = (0, pv [copyM A B] rd) := rfl
theorem pv_undo (A B : Mp) (rd : List Int) : shutE (pv [A, B] rd) 0 false = (0, pv [A] rd) := rfl
end Go.Proofs.Ytcnbgamalhfkmaa.P
