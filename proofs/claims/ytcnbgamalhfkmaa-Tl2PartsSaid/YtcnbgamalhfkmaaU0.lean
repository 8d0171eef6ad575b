/- tl2: one engine by itself; the example's states. -/
import Derived.Test.YtcnbgamalhfkmaaT1
import Derived.Test.YtcnbgamalhfkmaaG2
import Derived.Test.YtcnbgamalhfkmaaN2
namespace Go.Proofs.Ytcnbgamalhfkmaa.P
open Go.RowKit Go.Proofs.YtcnbgamalhfkmaaW.PrintWords Go.Proofs.YtcnbgamalhfkmaaW.PrintLast Go.Proofs.YtcnbgamalhfkmaaW.PrintMore
set_option linter.unusedVariables false
set_option linter.unusedSimpArgs false
open Go.WideShapes Go.Maps Go.Shelf
def Lone (w0 : World) (g : Nat) (s : PEng) (W : World) : Prop := ∃ ρ cells vs, EngAt W w0.heap.size ρ g s cells vs ∧ Below w0.heap.size w0 W
section
variable {w0 W W' : World} {g : Nat} {s s' : PEng}
theorem Lone.turn {ρ : Nat → Nat} (hb : Below w0.heap.size w0 W) (h : EngPost W w0.heap.size ρ g s' W') : Lone w0 g s' W' := by
  obtain ⟨ρ', cells', vs', he, hd⟩ := h
  exact ⟨ρ', cells', vs', he, hb.trans hd.below⟩
theorem Lone.new (w : World) : Lone w w.heap.size newE (w.alloc (.cells #[.int .i64 0, .slice none 0 0, .pointer none, .pointer none, .pointer none, .pointer none, .pointer none, .pointer none, .pointer none, .pointer none] 77)) :=
  ⟨_, _, _, new_eng w (Nat.le_refl _), below_alloc (Below.refl _ _) _⟩
theorem Lone.make (h : Lone w0 g s W) (v : Int) {n f : Int} {s1 : PEng} (he : makeE s v = (n, f, s1)) (hl : s.vars.length ≤ 4000) : Calls Try.prog 37 #[.pointer (some ⟨g, 0, none⟩), .int .i64 v] W fun e w' => e = .returned (.tuple #[.int .i64 n, .int .i64 f]) ∧ Aside0 (Lone w0 g s1 w') := by
  obtain ⟨ρ, cells, vs, h1, hb⟩ := h
  refine (make_calls h1 hl v).mono ?_
  rintro e w' ⟨rfl, hp⟩
  rw [he] at hp ⊢
  exact ⟨rfl, ⟨Lone.turn hb hp⟩⟩
theorem Lone.begin (h : Lone w0 g s W) (t : Int) {f : Int} {s1 : PEng} (he : beginE s t = (f, s1)) : Calls Try.prog 11 #[.pointer (some ⟨g, 0, none⟩), .int .i64 t] W fun e w' => e = .returned (.int .i64 f) ∧ Aside0 (Lone w0 g s1 w') := by
  obtain ⟨ρ, cells, vs, h1, hb⟩ := h
  refine (begin_calls h1 t).mono ?_
  rintro e w' ⟨rfl, hp⟩
  rw [he] at hp ⊢
  exact ⟨rfl, ⟨Lone.turn hb hp⟩⟩
theorem Lone.read (h : Lone w0 g s W) (t n : Int) {v f : Int} {s1 : PEng} (he : readE s t n = (v, f, s1)) (hn : in64 n) (hp : ∀ x, openE s t = some x → x.parts ≠ [] ∧ x.parts.length ≤ 100000 ∧ x.reads.length ≤ 100000) : Calls Try.prog 16 #[.pointer (some ⟨g, 0, none⟩), .int .i64 t, .int .i64 n] W fun e w' => e = .returned (.tuple #[.int .i64 v, .int .i64 f]) ∧ Aside0 (Lone w0 g s1 w') := by
  obtain ⟨ρ, cells, vs, h1, hb⟩ := h
  refine (read_calls h1 t n hn hp).mono ?_
  rintro e w' ⟨rfl, hp⟩
  rw [he] at hp ⊢
  exact ⟨rfl, ⟨Lone.turn hb hp⟩⟩
theorem Lone.write (h : Lone w0 g s W) (t n v : Int) {f : Int} {s1 : PEng} (he : writeE s t n v = (f, s1)) (hn : in64 n) (hv : in64 v) (hp : ∀ x, openE s t = some x → x.parts ≠ [] ∧ x.parts.length ≤ 100000 ∧ ∀ p ∈ x.parts, p.length ≤ 100000) : Calls Try.prog 13 #[.pointer (some ⟨g, 0, none⟩), .int .i64 t, .int .i64 n, .int .i64 v] W fun e w' => e = .returned (.int .i64 f) ∧ Aside0 (Lone w0 g s1 w') := by
  obtain ⟨ρ, cells, vs, h1, hb⟩ := h
  refine (write_calls h1 t n v hn hv hp).mono ?_
  rintro e w' ⟨rfl, hp⟩
  rw [he] at hp ⊢
  exact ⟨rfl, ⟨Lone.turn hb hp⟩⟩
theorem Lone.step (h : Lone w0 g s W) (t : Int) {n f : Int} {s1 : PEng} (he : stepE s t = (n, f, s1)) (hp : ∀ x, ofE s t = some x → StepOK s x) : Calls Try.prog 21 #[.pointer (some ⟨g, 0, none⟩), .int .i64 t] W fun e w' => e = .returned (.tuple #[.int .i64 n, .int .i64 f]) ∧ Aside0 (Lone w0 g s1 w') := by
  obtain ⟨ρ, cells, vs, h1, hb⟩ := h
  refine (step_calls h1 t hp).mono ?_
  rintro e w' ⟨rfl, hp⟩
  rw [he] at hp ⊢
  exact ⟨rfl, ⟨Lone.turn hb hp⟩⟩
theorem Lone.value (h : Lone w0 g s W) (n : Int) {v f : Int} (he : valueE s n = (v, f)) : Calls Try.prog 22 #[.pointer (some ⟨g, 0, none⟩), .int .i64 n] W fun e w' => e = .returned (.tuple #[.int .i64 v, .int .i64 f]) ∧ W = w' := by
  obtain ⟨ρ, cells, vs, h1, hb⟩ := h
  refine (value_calls h1 n).mono ?_
  rintro e w' ⟨rfl, hp⟩
  rw [he]
  exact ⟨rfl, hp⟩
theorem Lone.active (h : Lone w0 g s W) (t : Int) {q : Bool} (he : (ofE s t).isSome = q) : Calls Try.prog 19 #[.pointer (some ⟨g, 0, none⟩), .int .i64 t] W fun e w' => e = .returned (.bool q) ∧ W = w' := by
  obtain ⟨ρ, cells, vs, h1, hb⟩ := h
  refine (active_calls h1 t).mono ?_
  rintro e w' ⟨rfl, hp⟩
  rw [he]
  exact ⟨rfl, hp⟩
end
/-! the example -/
def lv0 : PTx := ⟨0, 0, [], [[]], false, false, []⟩
def lv1 : PEng := ⟨0, [⟨5, 0, -1⟩], [none, none, none, none, none, none, none, none]⟩
def lv2 : PEng := ⟨0, [⟨5, 0, -1⟩], [none, some lv0, none, none, none, none, none, none]⟩
def lv3 : PEng := ⟨0, [⟨5, 0, -1⟩], [some lv0, some lv0, none, none, none, none, none, none]⟩
def lv4 : PEng := ⟨0, [⟨5, 0, -1⟩], [some ⟨0, 0, [0], [[]], false, false, []⟩, some lv0, none, none, none, none, none, none]⟩
def lv5 : PEng := ⟨0, [⟨5, 0, -1⟩], [some ⟨0, 0, [0], [[(0, 6)]], false, false, []⟩, some lv0, none, none, none, none, none, none]⟩
def lv6 : PEng := ⟨0, [⟨5, 0, 0⟩], [some ⟨0, 0, [0], [[(0, 6)]], true, false, []⟩, some lv0, none, none, none, none, none, none]⟩
def lv7 : PEng := ⟨1, [⟨5, 0, 0⟩], [some ⟨0, 1, [0], [[(0, 6)]], true, true, [0]⟩, some lv0, none, none, none, none, none, none]⟩
def lv8 : PEng := ⟨1, [⟨6, 1, -1⟩], [none, some lv0, none, none, none, none, none, none]⟩
theorem lva1 : makeE newE 5 = (0, 0, lv1) := rfl
theorem lva2 : beginE lv1 1 = (0, lv2) := rfl
theorem lva3 : beginE lv2 0 = (0, lv3) := rfl
theorem lva4 : readE lv3 0 0 = (5, 0, lv4) := rfl
theorem lva5 : writeE lv4 0 0 6 = (0, lv5) := rfl
theorem lva6 : stepE lv5 0 = (1, 0, lv6) := rfl
theorem lva7 : stepE lv6 0 = (2, 0, lv7) := rfl
theorem lva8 : stepE lv7 0 = (4, 0, lv8) := rfl
theorem lva9 : valueE lv8 0 = (6, 0) := rfl
theorem lvaA : readE lv8 1 0 = (0, 33, lv8) := rfl
theorem lvaB : (ofE lv8 0).isSome = false := rfl
end Go.Proofs.Ytcnbgamalhfkmaa.P
