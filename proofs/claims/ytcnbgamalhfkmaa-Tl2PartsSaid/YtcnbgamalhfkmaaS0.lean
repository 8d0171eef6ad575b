/- tl2: slices.Sort lies at the program (laid by the kit's shelf, in plain words); sorted. -/
import Derived.Shelf.SortM.Plain
import Derived.Shelf.SortM.SortNone
import Derived.Sort.OwnSortedInts
import Derived.Test.YtcnbgamalhfkmaaI1
import Derived.Test.YtcnbgamalhfkmaaF2
namespace Go.Proofs.Ytcnbgamalhfkmaa.P
open Go.RowKit Go.Proofs.YtcnbgamalhfkmaaW.PrintWords Go.Proofs.YtcnbgamalhfkmaaW.PrintLast Go.Proofs.YtcnbgamalhfkmaaW.PrintMore
set_option linter.unusedVariables false
set_option linter.unusedSimpArgs false
open Go.WideShapes Go.Maps Go.Shelf
def srt_ren : Go.Shelf.Ren := ⟨fun | 5 => 69 | 8 => 72 | 7 => 71 | 19 => 82 | 20 => 83 | 10 => 73 | 11 => 74 | 12 => 75 | 13 => 76 | 14 => 77 | 15 => 78 | 16 => 79 | 17 => 80 | 18 => 81 | 30 => 84 | 31 => 85 | 32 => 86 | 33 => 87 | 34 => 88 | 35 => 89 | 40 => 90 | n => n, fun | 23 => 29 | 25 => 3 | 3 => 3 | 32 => 105 | 22 => 29 | 0 => 0 | 44 => 114 | 46 => 116 | 4 => 4 | 36 => 108 | 35 => 107 | 41 => 88 | 5 => 5 | 9 => 9 | 53 => 117 | 57 => 121 | 63 => 123 | 64 => 124 | n => n, fun | n => n⟩
theorem srt : Go.Proofs.SlLaysM.n5 Try.prog srt_ren := {
  mixed := by kernel_rfl
  f5 := ⟨Try.f69.name, by decide, Try.func69.trans (congrArg some (by kernel_rfl))⟩
  f7 := ⟨Try.f71.name, by decide, Try.func71.trans (congrArg some (by kernel_rfl))⟩
  f8 := Try.func72.trans (congrArg some (by kernel_rfl))
  f10 := ⟨Try.f73.name, by decide, Try.func73.trans (congrArg some (by kernel_rfl))⟩
  f11 := ⟨Try.f74.name, by decide, Try.func74.trans (congrArg some (by kernel_rfl))⟩
  f12 := ⟨Try.f75.name, by decide, Try.func75.trans (congrArg some (by kernel_rfl))⟩
  f13 := ⟨Try.f76.name, by decide, Try.func76.trans (congrArg some (by kernel_rfl))⟩
  f14 := ⟨Try.f77.name, by decide, Try.func77.trans (congrArg some (by kernel_rfl))⟩
  f15 := ⟨Try.f78.name, by decide, Try.func78.trans (congrArg some (by kernel_rfl))⟩
  f16 := ⟨Try.f79.name, by decide, Try.func79.trans (congrArg some (by kernel_rfl))⟩
  f17 := ⟨Try.f80.name, by decide, Try.func80.trans (congrArg some (by kernel_rfl))⟩
  f18 := ⟨Try.f81.name, by decide, Try.func81.trans (congrArg some (by kernel_rfl))⟩
  f19 := Try.func82.trans (congrArg some (by kernel_rfl))
  f20 := Try.func83.trans (congrArg some (by kernel_rfl))
  f30 := ⟨Try.f84.name, by decide, Try.func84.trans (congrArg some (by kernel_rfl))⟩
  f31 := Try.func85.trans (congrArg some (by kernel_rfl))
  f32 := Try.func86.trans (congrArg some (by kernel_rfl))
  f33 := ⟨Try.f87.name, by decide, Try.func87.trans (congrArg some (by kernel_rfl))⟩
  f34 := ⟨Try.f88.name, by decide, Try.func88.trans (congrArg some (by kernel_rfl))⟩
  f35 := ⟨Try.f89.name, by decide, Try.func89.trans (congrArg some (by kernel_rfl))⟩
  f40 := ⟨Try.f90.name, by decide, Try.func90.trans (congrArg some (by kernel_rfl))⟩
  t0 := Try.underlying0
  a0 := Try.isAgg0
  z0 := Try.sizeOf0
  v0 := Try.zeroValue0
  t3 := Try.underlying3
  a3 := Try.isAgg3
  z3 := Try.sizeOf3
  v3 := Try.zeroValue3
  t4 := Try.underlying4
  a4 := Try.isAgg4
  z4 := Try.sizeOf4
  v4 := Try.zeroValue4
  t5 := Try.underlying5
  a5 := Try.isAgg5
  z5 := Try.sizeOf5
  v5 := Try.zeroValue5
  t9 := Try.underlying9
  a9 := Try.isAgg9
  z9 := Try.sizeOf9
  v9 := Try.zeroValue9
  t22 := Try.underlying29
  a22 := Try.isAgg29
  z22 := Try.sizeOf29
  v22 := Try.zeroValue29
  t23 := Try.underlying29
  a23 := Try.isAgg29
  z23 := Try.sizeOf29
  v23 := Try.zeroValue29
  t25 := Try.underlying3
  a25 := Try.isAgg3
  z25 := Try.sizeOf3
  v25 := Try.zeroValue3
  t32 := Try.underlying105
  a32 := Try.isAgg105
  z32 := Try.sizeOf105
  v32 := Try.zeroValue105
  t35 := Try.underlying107
  a35 := Try.isAgg107
  z35 := Try.sizeOf107
  v35 := Try.zeroValue107
  t36 := Try.underlying108
  a36 := Try.isAgg108
  z36 := Try.sizeOf108
  v36 := Try.zeroValue108
  t41 := Try.underlying88
  a41 := Try.isAgg88
  z41 := Try.sizeOf88
  v41 := Try.zeroValue88
  t44 := Try.underlying114
  a44 := Try.isAgg114
  z44 := Try.sizeOf114
  v44 := Try.zeroValue114
  t46 := Try.underlying116
  a46 := Try.isAgg116
  z46 := Try.sizeOf116
  v46 := Try.zeroValue116
  t53 := Try.underlying117
  a53 := Try.isAgg117
  z53 := Try.sizeOf117
  v53 := Try.zeroValue117
  t57 := Try.underlying121
  a57 := Try.isAgg121
  z57 := Try.sizeOf121
  v57 := Try.zeroValue121
  t63 := Try.underlying123
  a63 := Try.isAgg123
  z63 := Try.sizeOf123
  v63 := Try.zeroValue123
  t64 := Try.underlying124
  a64 := Try.isAgg124
  z64 := Try.sizeOf124
  v64 := Try.zeroValue124 }

def sortI (l : List Int) : List Int := l.mergeSort fun x y => decide (x ≤ y)
theorem sortI_perm (l : List Int) : (sortI l).Perm l := List.mergeSort_perm _ _
theorem sortI_pair (l : List Int) : (sortI l).Pairwise (· ≤ ·) := by
  have := List.pairwise_mergeSort (le := fun x y : Int => decide (x ≤ y)) (fun a b c h1 h2 => by simp at *; omega) (fun a b => by simp; omega) l
  exact this.imp fun h => by simpa using h
theorem sortI_len (l : List Int) : (sortI l).length = l.length := List.length_mergeSort l
theorem rise_perm : ∀ {a b : List Int}, a.Pairwise (· ≤ ·) → b.Pairwise (· < ·) → a.Perm b → a = b
  | [], [], _, _, _ => rfl
  | [], y :: r, _, _, h => by have := h.length_eq; simp at this
  | x :: l, [], _, _, h => by have := h.length_eq; simp at this
  | x :: l, y :: r, ha, hb, h => by
    have ha2 := List.pairwise_cons.1 ha
    have hb2 := List.pairwise_cons.1 hb
    have e1 : x = y := by
      have h1 : x ∈ y :: r := h.mem_iff.1 List.mem_cons_self
      have h2 : y ∈ x :: l := h.mem_iff.2 List.mem_cons_self
      rcases List.mem_cons.1 h1 with e | h1
      · exact e
      · rcases List.mem_cons.1 h2 with e | h2
        · exact e.symm
        · have := hb2.1 x h1
          have := ha2.1 y h2
          omega
    subst e1
    rw [rise_perm ha2.2 hb2.2 ((List.perm_cons x).1 h)]
theorem N_of_own {w : World} {base : Nat} {v : Value} {l : List Int} (h : w.ownsRow base 3 1 v l.length (l.map (Value.int .i64))) : Kd.N kI 3 w base (fun _ => True) v l := by
  have hR : kI.R 3 w base (fun _ => True) v l := Kd.R_of_own (enc := Value.int .i64) (h1 := fun _ => rfl) h (fun _ _ => trivial)
  exact Kd.R_N hR
section
variable {w : World} {base : Nat} {l : List Int}
theorem sort_calls {v : Value} (h : Kd.N kI 3 w base (fun _ => True) v l) (hl : l.length ≤ 1000000) :
    Calls Try.prog 69 #[v] w fun e w' => (∃ u, e = .returned u) ∧ Kd.N kI 3 w' base (fun _ => True) v (sortI l) ∧ w.grownBy w' v.ownBlock := by
  by_cases h0 : l = []
  · subst h0
    obtain ⟨A, c, rfl⟩ := Kd.N_slice h
    have hc := AnyM.slices_Sort_int_none srt A c w
    change Calls Try.prog 69 _ _ _ at hc
    refine hc.mono ?_
    rintro e w' ⟨rfl, rfl⟩
    exact ⟨⟨_, rfl⟩, by rw [show sortI [] = [] from by unfold sortI; exact List.mergeSort_nil]; exact h, rfl, rfl, rfl, Nat.le_refl _, fun _ _ _ => rfl⟩
  · have hp : 0 < l.length := List.length_pos_iff.2 h0
    have h2 := h
    obtain ⟨_, rows, hrl, ⟨_, inner, ho, _⟩, _⟩ := h2
    rcases ho.2 with ⟨_, hn⟩ | ⟨g, cap, cur, rfl, hb0, hb, hn, hcm, hcs, _⟩
    · omega
    · have hgl := (Array.getElem?_eq_some_iff.1 hb).1
      rw [hrl] at hn ⊢
      have hH : Go.Sort.Holds (Value.int .i64) w g 0 l.toArray := fun j hj => by
        have hj' : j < l.length := by simpa using hj
        obtain ⟨gv, cap', e, _, c0⟩ := rowI_at (by rw [hrl] at h; exact h) hj'
        cases e
        refine ⟨?_, by rw [Nat.zero_add]; exact blk_frozen hb j⟩
        rw [Nat.zero_add, c0]
        simp [hj']
      have hc := AnyM.slices_Sort_int srt g 0 cap l w hH hgl (by omega)
      change Calls Try.prog 69 _ _ _ at hc
      refine hc.mono ?_
      rintro e w' ⟨rfl, n, os, rfl⟩
      refine ⟨⟨_, rfl⟩, ?_, grownBy_sortedI _⟩
      have h3 := ownsRow_sortedI (n := n) (os := os) (base := base) (cap := cap) (ss := l) (ts := sortI l) (sortI_len l) hb0 hb hn hcm hcs
      rw [← sortI_len l] at h3 ⊢
      exact N_of_own h3
end
end Go.Proofs.Ytcnbgamalhfkmaa.P
