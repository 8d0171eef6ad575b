/- tl2: slices.Sort lies at the program (laid by the kit's shelf, in plain words); sorted. tl2: sorted. tl2: the step that points; plain laws of Step. tl2: Step. tl2: Abort. -/
import Derived.Shelf.SortM.Plain
import Derived.Shelf.SortM.SortNone
import Derived.Sort.OwnSortedInts
import Derived.Test.YtcnbgamalhfkmaaMB
import Derived.Test.YtcnbgamalhfkmaaMD
namespace Go.Proofs.Ytcnbgamalhfkmaa.P
open Go.RowKit Go.Proofs.YtcnbgamalhfkmaaW.PrintWords Go.Proofs.YtcnbgamalhfkmaaW.PrintLast Go.Proofs.YtcnbgamalhfkmaaW.PrintMore
set_option linter.unusedVariables false
set_option linter.unusedSimpArgs false
open Go.WideShapes Go.Maps Go.Shelf
def srt_ren : Go.Shelf.Ren := ⟨fun | 5 => 69 | 8 => 72 | 7 => 71 | 19 => 82 | 20 => 83 | 10 => 73 | 11 => 74 | 12 => 75 | 13 => 76 | 14 => 77 | 15 => 78 | 16 => 79 | 17 => 80 | 18 => 81 | 30 => 84 | 31 => 85 | 32 => 86 | 33 => 87 | 34 => 88 | 35 => 89 | 40 => 90 | n => n, fun | 23 => 29 | 25 => 3 | 3 => 3 | 32 => 105 | 22 => 29 | 0 => 0 | 44 => 114 | 46 => 116 | 4 => 4 | 36 => 108 | 35 => 107 | 41 => 88 | 5 => 5 | 9 => 9 | 53 => 117 | 57 => 121 | 63 => 123 | 64 => 124 | n => n, fun | n => n⟩
theorem srt : Go.Proofs.SlLaysM.n5 Try.prog srt_ren := {
  mixed := by kernel_rfl
  f5 := ⟨Try.f69.name, by decide, Try.func69.trans (congrArg some (by kernel_rfl))⟩
  f7 := ⟨Try.f71.name, by decide, Try.func71.trans (congrArg some (by kernel_rfl))⟩
  f8 := Try.func72.trans (congrArg some (by kernel_rfl))
  f10 := ⟨Try.f73.name, by decide, Try.func73.trans (congrArg some (by kernel_rfl))⟩
  f11 := ⟨Try.f74.name, by decide, Try.func74.trans (congrArg some (by kernel_rfl))⟩
  f12 := ⟨Try.f75.name, by decide, Try.func75.trans (congrArg some (by kernel_rfl))⟩
  f13 := ⟨Try.f76.name, by decide, Try.func76.trans (congrArg some (by kernel_rfl))⟩
  f14 := ⟨Try.f77.name, by decide, Try.func77.trans (congrArg some (by kernel_rfl))⟩
  f15 := ⟨Try.f78.name, by decide, Try.func78.trans (congrArg some (by kernel_rfl))⟩
  f16 := ⟨Try.f79.name, by decide, Try.func79.trans (congrArg some (by kernel_rfl))⟩
  f17 := ⟨Try.f80.name, by decide, Try.func80.trans (congrArg some (by kernel_rfl))⟩
  f18 := ⟨Try.f81.name, by decide, Try.func81.trans (congrArg some (by kernel_rfl))⟩
  f19 := Try.func82.trans (congrArg some (by kernel_rfl))
  f20 := Try.func83.trans (congrArg some (by kernel_rfl))
  f30 := ⟨Try.f84.name, by decide, Try.func84.trans (congrArg some (by kernel_rfl))⟩
  f31 := Try.func85.trans (congrArg some (by kernel_rfl))
  f32 := Try.func86.trans (congrArg some (by kernel_rfl))
  f33 := ⟨Try.f87.name, by decide, Try.func87.trans (congrArg some (by kernel_rfl))⟩
  f34 := ⟨Try.f88.name, by decide, Try.func88.trans (congrArg some (by kernel_rfl))⟩
  f35 := ⟨Try.f89.name, by decide, Try.func89.trans (congrArg some (by kernel_rfl))⟩
  f40 := ⟨Try.f90.name, by decide, Try.func90.trans (congrArg some (by kernel_rfl))⟩
  t0 := Try.underlying0
  a0 := Try.isAgg0
  z0 := Try.sizeOf0
  v0 := Try.zeroValue0
  t3 := Try.underlying3
  a3 := Try.isAgg3
  z3 := Try.sizeOf3
  v3 := Try.zeroValue3
  t4 := Try.underlying4
  a4 := Try.isAgg4
  z4 := Try.sizeOf4
  v4 := Try.zeroValue4
  t5 := Try.underlying5
  a5 := Try.isAgg5
  z5 := Try.sizeOf5
  v5 := Try.zeroValue5
  t9 := Try.underlying9
  a9 := Try.isAgg9
  z9 := Try.sizeOf9
  v9 := Try.zeroValue9
  t22 := Try.underlying29
  a22 := Try.isAgg29
  z22 := Try.sizeOf29
  v22 := Try.zeroValue29
  t23 := Try.underlying29
  a23 := Try.isAgg29
  z23 := Try.sizeOf29
  v23 := Try.zeroValue29
  t25 := Try.underlying3
  a25 := Try.isAgg3
  z25 := Try.sizeOf3
  v25 := Try.zeroValue3
  t32 := Try.underlying105
  a32 := Try.isAgg105
  z32 := Try.sizeOf105
  v32 := Try.zeroValue105
  t35 := Try.underlying107
  a35 := Try.isAgg107
  z35 := Try.sizeOf107
  v35 := Try.zeroValue107
  t36 := Try.underlying108
  a36 := Try.isAgg108
  z36 := Try.sizeOf108
  v36 := Try.zeroValue108
  t41 := Try.underlying88
  a41 := Try.isAgg88
  z41 := Try.sizeOf88
  v41 := Try.zeroValue88
  t44 := Try.underlying114
  a44 := Try.isAgg114
  z44 := Try.sizeOf114
  v44 := Try.zeroValue114
  t46 := Try.underlying116
  a46 := Try.isAgg116
  z46 := Try.sizeOf116
  v46 := Try.zeroValue116
  t53 := Try.underlying117
  a53 := Try.isAgg117
  z53 := Try.sizeOf117
  v53 := Try.zeroValue117
  t57 := Try.underlying121
  a57 := Try.isAgg121
  z57 := Try.sizeOf121
  v57 := Try.zeroValue121
  t63 := Try.underlying123
  a63 := Try.isAgg123
  z63 := Try.sizeOf123
  v63 := Try.zeroValue123
  t64 := Try.underlying124
  a64 := Try.isAgg124
  z64 := Try.sizeOf124
  v64 := Try.zeroValue124 }

def sortI (l : List Int) : List Int := l.mergeSort fun x y => decide (x ≤ y)
theorem sortI_perm (l : List Int) : (sortI l).Perm l := List.mergeSort_perm _ _
theorem sortI_pair (l : List Int) : (sortI l).Pairwise (· ≤ ·) := by
  have := List.pairwise_mergeSort (le := fun x y : Int => decide (x ≤ y)) (fun a b c h1 h2 => by simp at *; omega) (fun a b => by simp; omega) l
  exact this.imp fun h => by simpa using h
theorem sortI_len (l : List Int) : (sortI l).length = l.length := List.length_mergeSort l
theorem rise_perm : ∀ {a b : List Int}, a.Pairwise (· ≤ ·) → b.Pairwise (· < ·) → a.Perm b → a = b
  | [], [], _, _, _ => rfl
  | [], y :: r, _, _, h => by have := h.length_eq; simp at this
  | x :: l, [], _, _, h => by have := h.length_eq; simp at this
  | x :: l, y :: r, ha, hb, h => by
    have ha2 := List.pairwise_cons.1 ha
    have hb2 := List.pairwise_cons.1 hb
    have e1 : x = y := by
      have h1 : x ∈ y :: r := h.mem_iff.1 List.mem_cons_self
      have h2 : y ∈ x :: l := h.mem_iff.2 List.mem_cons_self
      rcases List.mem_cons.1 h1 with e | h1
      · exact e
      · rcases List.mem_cons.1 h2 with e | h2
        · exact e.symm
        · have := hb2.1 x h1
          have := ha2.1 y h2
          omega
    subst e1
    rw [rise_perm ha2.2 hb2.2 ((List.perm_cons x).1 h)]
theorem N_of_own {w : World} {base : Nat} {v : Value} {l : List Int} (h : w.ownsRow base 3 1 v l.length (l.map (Value.int .i64))) : Kd.N kI 3 w base (fun _ => True) v l := by
  have hR : kI.R 3 w base (fun _ => True) v l := Kd.R_of_own (enc := Value.int .i64) (h1 := fun _ => rfl) h (fun _ _ => trivial)
  exact Kd.R_N hR
section
variable {w : World} {base : Nat} {l : List Int}
theorem sort_calls {v : Value} (h : Kd.N kI 3 w base (fun _ => True) v l) (hl : l.length ≤ 1000000) :
    Calls Try.prog 69 #[v] w fun e w' => (∃ u, e = .returned u) ∧ Kd.N kI 3 w' base (fun _ => True) v (sortI l) ∧ w.grownBy w' v.ownBlock := by
  by_cases h0 : l = []
  · subst h0
    obtain ⟨A, c, rfl⟩ := Kd.N_slice h
    have hc := AnyM.slices_Sort_int_none srt A c w
    change Calls Try.prog 69 _ _ _ at hc
    refine hc.mono ?_
    rintro e w' ⟨rfl, rfl⟩
    exact ⟨⟨_, rfl⟩, by rw [show sortI [] = [] from by unfold sortI; exact List.mergeSort_nil]; exact h, rfl, rfl, rfl, Nat.le_refl _, fun _ _ _ => rfl⟩
  · have hp : 0 < l.length := List.length_pos_iff.2 h0
    have h2 := h
    obtain ⟨_, rows, hrl, ⟨_, inner, ho, _⟩, _⟩ := h2
    rcases ho.2 with ⟨_, hn⟩ | ⟨g, cap, cur, rfl, hb0, hb, hn, hcm, hcs, _⟩
    · omega
    · have hgl := (Array.getElem?_eq_some_iff.1 hb).1
      rw [hrl] at hn ⊢
      have hH : Go.Sort.Holds (Value.int .i64) w g 0 l.toArray := fun j hj => by
        have hj' : j < l.length := by simpa using hj
        obtain ⟨gv, cap', e, _, c0⟩ := rowI_at (by rw [hrl] at h; exact h) hj'
        cases e
        refine ⟨?_, by rw [Nat.zero_add]; exact blk_frozen hb j⟩
        rw [Nat.zero_add, c0]
        simp [hj']
      have hc := AnyM.slices_Sort_int srt g 0 cap l w hH hgl (by omega)
      change Calls Try.prog 69 _ _ _ at hc
      refine hc.mono ?_
      rintro e w' ⟨rfl, n, os, rfl⟩
      refine ⟨⟨_, rfl⟩, ?_, grownBy_sortedI _⟩
      have h3 := ownsRow_sortedI (n := n) (os := os) (base := base) (cap := cap) (ss := l) (ts := sortI l) (sortI_len l) hb0 hb hn hcm hcs
      rw [← sortI_len l] at h3 ⊢
      exact N_of_own h3
end
end Go.Proofs.Ytcnbgamalhfkmaa.P
namespace Go.Proofs.Ytcnbgamalhfkmaa.P
open Go.RowKit Go.Proofs.YtcnbgamalhfkmaaW.PrintWords Go.Proofs.YtcnbgamalhfkmaaW.PrintLast Go.Proofs.YtcnbgamalhfkmaaW.PrintMore
set_option linter.unusedVariables false
set_option linter.unusedSimpArgs false
open Go.WideShapes Go.Maps Go.Shelf
def keysM (q : Mp) : List Int := q.map (·.1)
theorem keysM_rise {q : Mp} (h : Rise q) : (keysM q).Pairwise (· < ·) := List.pairwise_map.2 h
theorem mem_keysM (q : Mp) (j : Int) : j ∈ keysM q ↔ (getM q j).isSome = true := by
  induction q with
  | nil => simp [keysM, getM]
  | cons x q ih =>
    rw [getM_cons]
    by_cases e : x.1 = j
    · simp [keysM, e]
    · rw [if_neg e, ← ih]
      simp only [keysM, List.map_cons, List.mem_cons]
      exact ⟨fun h => h.resolve_left (fun e2 => e e2.symm), .inr⟩
section
variable {w : World}
set_option maxRecDepth 100000 in
set_option maxHeartbeats 4000000 in
theorem sorted_calls {bq : Nat} {q : Mp} (hq : MapAt w bq q) (hl : q.length ≤ 100000) :
    Calls Try.prog 54 #[.map (some bq)] w fun e w' => ∃ v, e = .returned v ∧ Kd.N kI 3 w' (w.heap.size + 1) (fun _ => True) v (keysM q) ∧ Below w.heap.size w w' := by
  have HQ := Aside0.mk hq
  have hbq := hq.lt
  go_enter Try.func54, Try.ntmps54
  go_wp2_with (first
    | (at_range; refine wpList_range_own _ rfl _ 78 rfl 3 3 lawM Try.underlying78 _ bq q.length _ rfl hq ?_; intro w0 hrg0 hg0 hs0)
    | go_in)
  go_frame
  go_loopw [3, 4] (fun s3 _ wr => ∃ (left : Lit → Bool) (cnt : Nat) (ys : List Int), wr.ranges Try.prog 3 (plainElem (H := Unit) Try.prog 3) bq w.heap.size q.length (toD q) left cnt ∧ Aside0 (ys.length + cnt ≤ q.length) ∧ Aside0 (Kd.N kI 3 wr (w.heap.size + 1) (fun _ => True) s3 ys) ∧
      Aside0 (ys.Nodup) ∧ Aside0 (∀ j, left (keyL j) = true → (getM q j).isSome = true) ∧ Aside0 (∀ j, j ∈ ys ↔ ((getM q j).isSome = true ∧ left (keyL j) = false)) ∧ Aside0 (Below w.heap.size w wr) ∧ w.heap.size + 1 ≤ wr.heap.size)
    (fun _ _ wr => wr.rangeLeft bq w.heap.size)
  case atStart =>
    refine ⟨_, _, [], hrg0, ⟨?_⟩, ⟨Kd.N_nil _ _ _ _ _⟩, ⟨List.nodup_nil⟩, ⟨fun j hj => isSome_of_has hj⟩, ⟨fun j => ?_⟩, ⟨(Below.refl _ w).grown hg0 (Nat.le_refl _) (fun k e => by cases e)⟩, by omega⟩
    · show 0 + Maps.size (toD q) ≤ _
      unfold toD; rw [Maps.size_eq, List.length_map]; omega
    · rw [has_toD]
      cases getM q j <;> simp
  case round =>
    obtain ⟨left, cnt, ys, hrg, HL, HN, HD, HI, HG, HB, hsz⟩ := hrel
    obtain ⟨A, c0, rfl⟩ := Kd.N_slice HN.out
    have hyl : ys.length ≤ 100000 := by have := HL.out; omega
    go_wp2_with (first
      | (at_next; refine wpList_next_ranges_ii _ rfl _ rfl 3 3 .i64 .i64 lawM Try.underlying3 Try.underlying3 bq w.heap.size q.length _ _ _ rfl hrg ?_ ?_)
      | go_in)
    · intro hc0 hl0
      have hperm : ys.Perm (keysM q) := (List.perm_ext_iff_of_nodup HD.out ((keysM_rise HQ.out.rise).imp fun h => Int.ne_of_lt h)).2 (fun j => by rw [HG.out j, mem_keysM, hl0]; simp)
      have hE := Aside0.mk (show sortI ys = keysM q from rise_perm (sortI_pair ys) (keysM_rise HQ.out.rise) ((sortI_perm ys).trans hperm))
      have hsc := sort_calls HN.out (by omega)
      go_wp2_with fail
      refine hsc.mono ?_; rintro e w2 ⟨⟨u, rfl⟩, hN2, hg2⟩
      have HN2 := Aside0.mk hN2
      have HG2 := Aside0.mk hg2
      clear hsc hN2 hg2
      go_wp2
      go_ret
      refine ⟨_, rfl, by rw [← hE.out]; exact HN2.out, HB.out.grown HG2.out HB.out.size (fun k e => ?_)⟩
      have := HN.out.1 k e
      have h3 := Kd.N_base HN.out k e
      omega
    · intro x c w1 cnt1 hwx hwc hlx hat hrg1 hlt hg1 hs1 hen
      have hN1 := N_flat_move kI_flat HN.out (w1 := w1) (fun k hk => hg1.block k (Kd.N_lt HN.out k hk) (fun e => by have := Kd.N_base HN.out k hk; injection e with e; omega))
      have HN1 := Aside0.mk hN1
      clear hN1
      go_wp2_with ((with_reducible refine gate_builtin (b := .append) (xs := #[.tmp 11, .tmp 13]) rfl ?_); at_builtin; refine Kd.N_append kI (w0 := w1) (w.heap.size + 1) rfl (.tmp 11) (.tmp 13) 29 3 (.int .i64 0) 8 rfl Try.underlying29 info3 rfl (by decide) (by omega) (.slice A ys.length c0) ys x [.int .i64 x] (fun _ => True) (fun _ => False) rfl (by simp [Act.eval]) ?aP (fun _ hk => hk.elim) (fun _ _ => trivial) ?aO ?aB ?aS ?aL ?_; (case aP => exact fun W' _ => rfl); (case aO => exact HN1.out); (case aB => exact Below.refl _ _); (case aS => omega); (case aL => omega); intro v1 w2 ho hb hg hat2; have HN2 := Aside0.mk ho; have HB2 := Aside0.mk hb; have HG2 := Aside0.mk hg; clear ho hb hg hat2; go_frame)
      have hrg2 := hrg1.kept HG2.out (fun e => by have := Kd.N_base HN1.out _ e.symm; omega) (fun e => by have := Kd.N_base HN1.out _ e.symm; omega)
      have hs2 := HG2.out.size
      go_roundw
      case rel =>
        refine ⟨_, cnt1, ys ++ [x], hrg2, ⟨by have := HL.out; simp; omega⟩, ⟨HN2.out⟩, ⟨?_⟩, ⟨fun j hj => HI.out j (by simp only [Bool.and_eq_true] at hj; exact hj.1)⟩, ⟨fun j => ?_⟩, ⟨?_⟩, by omega⟩
        · rw [List.nodup_append]
          refine ⟨HD.out, by simp, fun a ha b hb e => ?_⟩
          rw [List.mem_singleton.1 hb] at e
          subst e
          have h1 := ((HG.out a).1 ha).2
          have h2 : left (keyL a) = true := hlx
          rw [h1] at h2; cases h2
        · rw [List.mem_append, List.mem_singleton, HG.out j]
          show _ ↔ (getM q j).isSome = true ∧ (left (keyL j) && !(keyL j).sameKey (keyL x)) = false
          rw [same_key]
          by_cases e : j = x
          · subst e
            have := HI.out j hlx
            simp [this]
          · have e2 : (j == x) = false := by rw [beq_eq_false_iff_ne]; exact e
            rw [e2]
            simp [e]
        · exact (HB.out.grown hg1 HB.out.size (fun k e => by injection e with e; omega)).grown HG2.out (by have := HB.out.size; omega) (fun k e => by have := Kd.N_base HN1.out k e; omega)
      case measure => rw [hrg2.left_eq, hrg.left_eq]; exact hlt
end
end Go.Proofs.Ytcnbgamalhfkmaa.P
namespace Go.Proofs.Ytcnbgamalhfkmaa.P
open Go.RowKit Go.Proofs.YtcnbgamalhfkmaaW.PrintWords Go.Proofs.YtcnbgamalhfkmaaW.PrintLast Go.Proofs.YtcnbgamalhfkmaaW.PrintMore
set_option linter.unusedVariables false
set_option linter.unusedSimpArgs false
open Go.WideShapes Go.Maps Go.Shelf
theorem validL_setTx (s : PEng) (t' : Int) (o : Option PTx) (t st : Int) : ∀ l, validL (setTx s t' o) t st l = validL s t st l
  | [] => rfl
  | n :: r => by
    show (if lookE s t st n != 0 then lookE s t st n else validL (setTx s t' o) t st r) = _
    rw [validL_setTx s t' o t st r]
    rfl
theorem lockL_setTx (s : PEng) (t' : Int) (o : Option PTx) (t : Int) : ∀ l, lockL (setTx s t' o) t l = lockL s t l
  | [] => rfl
  | n :: r => by
    show (if (varE s n).lock == t then lockL (setTx s t' o) t r else some n) = _
    rw [lockL_setTx s t' o t r]
    rfl
section
variable {W : World} {base : Nat} {ρ : Nat → Nat} {g : Nat} {s : PEng} {cells : Array Value} {vs : Value}
theorem step_point (h : EngAt W base ρ g s cells vs) {t gt : Nat} (ht : t < 8) (hc : cells[2 + t]? = some (.pointer (some ⟨gt, 0, none⟩))) {x : PTx} {rd pa lf : Value} {ms : List Nat} (hx : TxAt W base ρ t gt x rd pa lf ms) {W2 : World} (hB : Below W.heap.size W W2) {v : Value} {ks : List Int}
    (hN : Kd.N kI 3 W2 (W.heap.size + 1) (fun _ => True) v ks) (c : Int) :
    EngPost W base ρ g { P.setTx s (t : Int) (some { x with pointed := true, stamp := c, left := ks }) with clock := c } ((((W2.setCell ⟨g, 0, none⟩ (.int .i64 c)).setCell ⟨gt, 5, none⟩ (.bool true)).setCell ⟨gt, 1, none⟩ (.int .i64 c)).setCell ⟨gt, 6, none⟩ v) := by
  have hgl := h.g_lt.2
  have hbase := h.base_le
  have hgt := h.own gt (by rw [hx.role]; unfold rl; omega)
  have hgg : gt ≠ g := fun e => by have h1 := h.role; rw [← e, hx.role] at h1; unfold rl at h1; omega
  have h1 := h.setClock c
  obtain ⟨W1, hW1⟩ : ∃ W1, W.setCell ⟨g, 0, none⟩ (.int .i64 c) = W1 := ⟨_, rfl⟩
  rw [hW1] at h1
  have s1 : W1.heap.size = W.heap.size := by rw [← hW1, setCell_size]
  have hset : ∀ k, k ≠ g → W1.heap[k]? = W.heap[k]? := fun k hk => by rw [← hW1]; exact Below.heap_setCell W ⟨g, 0, none⟩ _ k hk
  have hd1 : Did W base ρ ρ W1 := by
    rw [← hW1]
    exact ⟨fun _ _ => rfl, (Kept.refl W _).setCell (.inl (by show ρ g ≠ 0; rw [h.role]; omega)) _, (Below.refl _ W).setCell (p := ⟨g, 0, none⟩) (h.own g (by rw [h.role]; omega)).1 _⟩
  have hx1 : TxAt W1 base ρ t gt x rd pa lf ms := hx.move (fun _ _ => rfl) (fun k hk _ => hset k (fun e => by rw [e, h.role] at hk; unfold isTx at hk; omega)) (fun k hk => (h.own k (by unfold isTx at hk; omega)).2)
  have hfar : ∀ k, k ≠ g → k ≠ gt → ((((W2.setCell ⟨g, 0, none⟩ (.int .i64 c)).setCell ⟨gt, 5, none⟩ (.bool true)).setCell ⟨gt, 1, none⟩ (.int .i64 c)).setCell ⟨gt, 6, none⟩ v).heap[k]? = W2.heap[k]? := fun k h1 h2 =>
    (Below.heap_setCell _ ⟨gt, 6, none⟩ v k h2).trans ((Below.heap_setCell _ ⟨gt, 1, none⟩ _ k h2).trans ((Below.heap_setCell _ ⟨gt, 5, none⟩ _ k h2).trans (Below.heap_setCell W2 ⟨g, 0, none⟩ _ k h1)))
  have hold : ∀ k, k < W.heap.size → k ≠ gt → ((((W2.setCell ⟨g, 0, none⟩ (.int .i64 c)).setCell ⟨gt, 5, none⟩ (.bool true)).setCell ⟨gt, 1, none⟩ (.int .i64 c)).setCell ⟨gt, 6, none⟩ v).heap[k]? = W1.heap[k]? := fun k hk h2 => by
    by_cases e : k = g
    · subst e
      have e1 : (W2.setCell ⟨k, 0, none⟩ (.int .i64 c)).heap[k]? = W1.heap[k]? := by
        rw [← hW1]
        have b1 := blk_set h.blk 0 (.int .i64 c)
        have b2 := blk_set ((hB.block k hk).trans h.blk) 0 (.int .i64 c)
        exact b2.trans b1.symm
      exact (Below.heap_setCell _ ⟨gt, 6, none⟩ v k h2).trans ((Below.heap_setCell _ ⟨gt, 1, none⟩ _ k h2).trans ((Below.heap_setCell _ ⟨gt, 5, none⟩ _ k h2).trans e1))
    · exact (hfar k e h2).trans ((hB.block k hk).trans (hset k e).symm)
  have hbk : ((((W2.setCell ⟨g, 0, none⟩ (.int .i64 c)).setCell ⟨gt, 5, none⟩ (.bool true)).setCell ⟨gt, 1, none⟩ (.int .i64 c)).setCell ⟨gt, 6, none⟩ v).heap[gt]? = some (.cells #[.int .i64 x.start, .int .i64 c, rd, pa, .bool x.commits, .bool true, v] 81 (0, 0)) := by
    have b0 : (W2.setCell ⟨g, 0, none⟩ (.int .i64 c)).heap[gt]? = _ := (Below.heap_setCell W2 ⟨g, 0, none⟩ _ gt hgg).trans ((hB.block gt hgt.2).trans hx.blk)
    exact blk_set (blk_set (blk_set b0 5 (.bool true)) 1 (.int .i64 c)) 6 v
  have hvb : ∀ k, v.ownBlock = some k → W.heap.size + 1 ≤ k := Kd.N_base hN
  have hvl : ∀ k, v.ownBlock = some k → k < W2.heap.size := Kd.N_lt hN
  obtain ⟨ρ', hρ'⟩ : ∃ ρ' : Nat → Nat, ρ' = fun k => if v.ownBlock = some k then rl t 3 else ρ k := ⟨_, rfl⟩
  have hs : Same W1 ρ ρ' := fun k hk => by
    rw [hρ']
    show (if _ then _ else _) = _
    rw [if_neg (fun e => by have := hvb k e; omega)]
  have hr : ∀ k, k < W.heap.size → ∀ r, ρ k = r → ρ' k = r := fun k hk r e => by rw [hs k (by omega), e]
  have mv : ∀ j, j ≠ 0 → ∀ k, ρ k = rl t j → ((((W2.setCell ⟨g, 0, none⟩ (.int .i64 c)).setCell ⟨gt, 5, none⟩ (.bool true)).setCell ⟨gt, 1, none⟩ (.int .i64 c)).setCell ⟨gt, 6, none⟩ v).heap[k]? = W1.heap[k]? := fun j h0 k hk =>
    hold k (h.own k (by rw [hk]; unfold rl; omega)).2 (fun e => h0 (rl_inj (t := t) (by rw [← hk, e, hx.role])))
  have hsz : W2.heap.size = ((((W2.setCell ⟨g, 0, none⟩ (.int .i64 c)).setCell ⟨gt, 5, none⟩ (.bool true)).setCell ⟨gt, 1, none⟩ (.int .i64 c)).setCell ⟨gt, 6, none⟩ v).heap.size := by simp [setCell_size]
  have hbelow : Below base W1 ((((W2.setCell ⟨g, 0, none⟩ (.int .i64 c)).setCell ⟨gt, 5, none⟩ (.bool true)).setCell ⟨gt, 1, none⟩ (.int .i64 c)).setCell ⟨gt, 6, none⟩ v) := by
    refine ⟨?_, ?_, ?_, by rw [← hsz, s1]; exact hB.size, fun k hk => hold k (by omega) (fun e => by have := hgt.1; omega)⟩
    · rw [← hW1]; exact hB.os
    · rw [← hW1]; exact hB.tape
    · rw [← hW1]; exact hB.output
  refine EngPost.via hd1 (h1.tx_turn ht (by rw [Array.getElem?_setIfInBounds_ne (by omega)]; exact hc) hs (fun k hk => ?_) (fun k h0 hi => hold k (h.own k h0).2 (fun e => hi (by rw [e, hx.role]; exact rl_tx t 0 (by omega)))) (x' := { x with pointed := true, stamp := c, left := ks }) (rd := rd) (pa := pa) (lf := v) (ms := ms)
    ⟨hr gt hgt.2 _ hx.role, hx.ge, hbk, ?_, ?_, ?_, hx1.maps.move (fun k hk => hr k (h.own k (by rw [hk]; unfold rl; omega)).2 _ hk) (fun k hk => mv 4 (by omega) k hk)⟩ ⟨by rw [← hsz, s1]; exact hB.size, fun k hk h0 => ?_⟩ hbelow)
  · rw [← hsz]
    rw [hρ'] at hk
    by_cases e : v.ownBlock = some k
    · have := hvb k e; have := hvl k e; omega
    · simp only [e, if_false] at hk
      have := h.own k hk; have := hB.size; omega
  · exact N_flat kI_flat (N_flat_move kI_flat hx1.reads fun k hk => mv 1 (by omega) k (hx1.reads.1 k hk)) fun k hk => hr k (h.own k (by rw [hx1.reads.1 k hk]; unfold rl; omega)).2 _ (hx1.reads.1 k hk)
  · exact N_flat kP_flat (N_flat_move kP_flat hx1.parts fun k hk => mv 2 (by omega) k (hx1.parts.1 k hk)) fun k hk => hr k (h.own k (by rw [hx1.parts.1 k hk]; unfold rl; omega)).2 _ (hx1.parts.1 k hk)
  · have hN2 := N_flat_move kI_flat hN (w1 := ((((W2.setCell ⟨g, 0, none⟩ (.int .i64 c)).setCell ⟨gt, 5, none⟩ (.bool true)).setCell ⟨gt, 1, none⟩ (.int .i64 c)).setCell ⟨gt, 6, none⟩ v)) (fun k hk => hfar k (fun e => by have := hvb k hk; omega) (fun e => by have := hvb k hk; omega))
    exact Kd.N_V (base' := base) (N_flat kI_flat hN2 (ok' := fun k => ρ' k = rl t 3) (fun k hk => by rw [hρ']; simp [hk]))
  · have h0' : ¬ (ρ k ≠ 0) := h0
    exact hold k (by omega) (fun e => h0' (by rw [e, hx.role]; unfold rl; omega))
end
end Go.Proofs.Ytcnbgamalhfkmaa.P
namespace Go.Proofs.Ytcnbgamalhfkmaa.P
open Go.RowKit Go.Proofs.YtcnbgamalhfkmaaW.PrintWords Go.Proofs.YtcnbgamalhfkmaaW.PrintLast Go.Proofs.YtcnbgamalhfkmaaW.PrintMore
set_option linter.unusedVariables false
set_option linter.unusedSimpArgs false
open Go.WideShapes Go.Maps Go.Shelf
structure StepOK (s : PEng) (x : PTx) : Prop where
  one : x.parts ≠ []
  few : x.parts.length ≤ 100000
  small : (x.parts.getD 0 []).length ≤ 100000
  keys : ∀ n ∈ keysM (x.parts.getD 0 []), isE s n = true ∧ in64 n
  reads : ∀ n ∈ x.reads, isE s n = true
  short : x.reads.length ≤ 100000
  left : x.pointed = true → ∃ n r, x.left = n :: r ∧ isE s n = true ∧ in64 n ∧ r.length ≤ 100000
  clock : 0 ≤ s.clock ∧ s.clock ≤ 1000000000000
section
variable {s : PEng} {t : Int} {x : PTx}
theorem stepE_many (h : ofE s t = some x) (h1 : 1 < x.parts.length) : stepE s t = (0, 1, s) := by unfold stepE; rw [h]; simp only [h1, if_true]
theorem stepE_point {n : Int} {r : List Int} (h : ofE s t = some x) (h1 : ¬ 1 < x.parts.length) (h2 : x.pointed = true) (h3 : x.left = n :: r) :
    stepE s t = ((wstepE (setTx s t (some { x with commits := true })) t { x with commits := true } n r).1, 0, (wstepE (setTx s t (some { x with commits := true })) t { x with commits := true } n r).2) := by
  unfold stepE wstepE
  rw [h]
  simp only [h1, if_false, h2, if_true, h3]
  cases r <;> simp [setTx, setVar]
theorem stepE_lock {n : Int} (h : ofE s t = some x) (h1 : ¬ 1 < x.parts.length) (h2 : x.pointed = false) (h3 : lockL s t (keysM (x.parts.getD 0 [])) = some n) :
    stepE s t = if (varE s n).lock == -1 then (1, 0, setVar (setTx s t (some { x with commits := true })) n { varE s n with lock := t }) else (0, 32, setTx s t (some { x with commits := true })) := by
  unfold stepE
  rw [h]
  have h4 := h3
  rw [← lockL_setTx s t (some { x with commits := true })] at h4
  unfold keysM at h3 h4
  simp only [h1, if_false, h2, h3, h4, Bool.false_eq_true]
theorem stepE_rest (h : ofE s t = some x) (h1 : ¬ 1 < x.parts.length) (h2 : x.pointed = false) (h3 : lockL s t (keysM (x.parts.getD 0 [])) = none) :
    stepE s t = if validL s t x.start x.reads != 0 then (0, validL s t x.start x.reads, setTx s t (some { x with commits := true })) else
      if (keysM (x.parts.getD 0 [])).isEmpty then (4, 0, setTx (setTx s t (some { x with commits := true })) t none) else
      (2, 0, { setTx s t (some { x with commits := true, pointed := true, stamp := s.clock + 1, left := keysM (x.parts.getD 0 []) }) with clock := s.clock + 1 }) := by
  unfold stepE
  rw [h]
  unfold keysM at h3 ⊢
  simp only [h1, if_false, h2, h3, Bool.false_eq_true]
  split
  · rfl
  · split
    · rfl
    · simp [setTx]
end
section
variable {W : World} {base : Nat} {ρ : Nat → Nat} {g : Nat} {s : PEng} {cells : Array Value} {vs : Value}
set_option maxHeartbeats 8000000 in
set_option maxRecDepth 100000 in
theorem step_calls (h : EngAt W base ρ g s cells vs) (t : Int) (hp : ∀ x, ofE s t = some x → StepOK s x) :
    Calls Try.prog 21 #[.pointer (some ⟨g, 0, none⟩), .int .i64 t] W fun e w' => e = .returned (.tuple #[.int .i64 (stepE s t).1, .int .i64 (stepE s t).2.1]) ∧ EngPost W base ρ g (stepE s t).2.2 w' := by
  have HH := Aside0.mk h
  have HP := Aside0.mk hp
  have hof := of_calls h t
  clear h hp
  go_enter Try.func21, Try.ntmps21
  go_wp2_with fail
  refine hof.mono ?_; rintro e w' ⟨⟨p, rfl, hp⟩, rfl⟩
  clear hof
  rcases hp.form with ⟨e0, rfl⟩ | ⟨x, tn, gt, rd, pa, lf, ms, e0, rfl, ht, rfl, hcc, hx⟩
  · have HE := Aside0.mk (show stepE s t = (0, 1, s) by unfold stepE; rw [e0])
    clear hp e0
    go_wp2
    go_ret2
    rw [HE.out]
    exact ⟨rfl, ρ, _, _, HH.out, Did.refl⟩
  · have HK := Aside0.mk (HP.out x e0)
    have HE0 := Aside0.mk e0
    obtain ⟨A, c, rfl⟩ := Kd.N_slice hx.parts
    have k3 := blk_cell hx.blk 3
    have k4 := blk_cell hx.blk 4
    have f4 := blk_frozen hx.blk 4
    have HX := Aside0.mk hx
    have hml : ms.length ≤ 100000 := by rw [hx.maps.len]; exact HK.out.few
    have hml0 : 0 < ms.length := by rw [hx.maps.len]; exact List.length_pos_iff.2 HK.out.one
    by_cases h2 : 1 < ms.length
    · have HE := Aside0.mk (stepE_many e0 (by rw [← hx.maps.len]; exact h2))
      have h2z : (1 : Int) < (ms.length : Int) := by omega
      clear hp e0 hx
      go_wp2
      go_ret2
      rw [HE.out]
      exact ⟨rfl, ρ, _, _, HH.out, Did.refl⟩
    · have h2z : ¬ (1 : Int) < (ms.length : Int) := by omega
      have H2 := Aside0.mk (show ¬ 1 < x.parts.length by rw [← hx.maps.len]; exact h2)
      clear hp e0 hx
      go_upto_region 5 with (fail)
      obtain ⟨W1, hW1⟩ : ∃ W1, W.setCell ⟨gt, 4, none⟩ (.bool true) = W1 := ⟨_, rfl⟩
      have hset : ∀ i, i ≠ gt → W1.heap[i]? = W.heap[i]? := fun i hi => by rw [← hW1]; exact Below.heap_setCell W ⟨gt, 4, none⟩ _ i hi
      have hg1 : W.grownBy W1 (some gt) := by rw [← hW1]; exact setCell_grown W ⟨gt, 4, none⟩ _
      have hX1 : TxAt W1 base ρ tn gt { x with commits := true } rd (.slice A ms.length c) lf ms := HX.out.turn hset (by rw [← hW1]; exact blk_set HX.out.blk 4 _) rfl rfl (Kd.V_step HX.out.left (fun k hk hlt => hset k (fun e => by rw [e, HX.out.role] at hk; unfold rl at hk; omega)))
      obtain ⟨hE1, hD1⟩ := HH.out.at_tx ht hcc HX.out.role HX.out.ge hg1 hX1
      rw [hW1]
      have HX1 := Aside0.mk hX1
      have HE1 := Aside0.mk hE1
      have HD1 := Aside0.mk hD1
      obtain ⟨gp, cp, e1, hcp, p0⟩ := rowP_at hX1.parts hml0
      obtain ⟨rfl, rfl⟩ : A = some ⟨gp, 0, none⟩ ∧ c = cp := by injection e1 with a b c; exact ⟨a, c⟩
      have hxp : 0 < x.parts.length := List.length_pos_iff.2 HK.out.one
      have hma := (hX1.maps.at_ 0 _ _ (List.getElem?_eq_getElem hml0) (show x.parts[0]? = some (x.parts[0]'hxp) from List.getElem?_eq_getElem hxp)).2.2
      have hpd : x.parts.getD 0 [] = x.parts[0]'hxp := by rw [List.getD_eq_getElem?_getD, List.getElem?_eq_getElem hxp]; rfl
      rw [← hpd] at hma
      have hsc := sorted_calls hma HK.out.small
      have k31 := blk_cell hX1.blk 3
      have hmz : (0 : Int) < (ms.length : Int) := by omega
      clear hE1 hX1 hD1 hma hpd hset hg1 hW1 k3 k4 f4 e1 HX
      generalize ms[0]'hml0 = m0 at *
      go_wp2_with fail
      refine hsc.mono ?_; rintro e W2 ⟨v, rfl, hN, hB⟩
      obtain ⟨A2, c2, rfl⟩ := Kd.N_slice hN
      have HN := Aside0.mk hN
      have HB := Aside0.mk hB
      have hX2 := HX1.out.below HE1.out hB
      have k5 := blk_cell hX2.blk 5
      have hkl : (keysM (x.parts.getD 0 [])).length ≤ 100000 := by unfold keysM; rw [List.length_map]; exact HK.out.small
      clear hsc hN hB p0 k31 h2 h2z
      by_cases hpt : x.pointed = true
      · obtain ⟨n, r, hlf, hin, h64, hrl⟩ := HK.out.left hpt
        have HE := Aside0.mk (stepE_point HE0.out H2.out hpt hlf)
        have hn := isE_iff.1 hin
        obtain ⟨m, rfl⟩ : ∃ m : Nat, n = m := ⟨n.toNat, by omega⟩
        have hws := wstep_calls (HE1.out.below HB.out) ht hcc hX2 (show ({ x with commits := true } : PTx).left = (m : Int) :: r from hlf) HK.out.one (by show m < s.vars.length; omega) h64 hrl
        generalize hws1 : wstepE (setTx s tn (some { x with commits := true })) tn { x with commits := true } m r = ws at hws HE
        rw [show (#[Value.int .i64 ({ x with commits := true } : PTx).start, .int .i64 ({ x with commits := true } : PTx).stamp, rd, .slice (some ⟨gp, 0, none⟩) ms.length c, .bool ({ x with commits := true } : PTx).commits, .bool ({ x with commits := true } : PTx).pointed, lf] : Array Value)[5]? = some (.bool true) from by show some (Value.bool x.pointed) = _; rw [hpt]] at k5
        clear hX2 hws1
        go_wp2_with fail
        refine hws.mono ?_; rintro e W3 ⟨rfl, hP⟩
        have HP3 := Aside0.mk hP
        clear hws hP
        go_wp2
        go_ret2
        rw [HE.out]
        exact ⟨rfl, EngPost.via HD1.out (EngPost.after HB.out HE1.out.base_le HP3.out)⟩
      · have hpf : x.pointed = false := by simpa using hpt
        have HPF := Aside0.mk hpf
        rw [show (#[Value.int .i64 ({ x with commits := true } : PTx).start, .int .i64 ({ x with commits := true } : PTx).stamp, rd, .slice (some ⟨gp, 0, none⟩) ms.length c, .bool ({ x with commits := true } : PTx).commits, .bool ({ x with commits := true } : PTx).pointed, lf] : Array Value)[5]? = some (.bool false) from by show some (Value.bool x.pointed) = _; rw [hpf]] at k5
        have HE2 := Aside0.mk (HE1.out.below HB.out)
        have HX2 := Aside0.mk hX2
        have kg1 := HE2.out.cell1
        have HKS := Aside0.mk (show ∀ n ∈ keysM (x.parts.getD 0 []), isE s n = true ∧ in64 n from HK.out.keys)
        have HLK := Aside0.mk (fun n (h3 : lockL s tn (keysM (x.parts.getD 0 [])) = some n) => stepE_lock HE0.out H2.out hpf h3)
        have HRS := Aside0.mk (fun (h3 : lockL s tn (keysM (x.parts.getD 0 [])) = none) => stepE_rest HE0.out H2.out hpf h3)
        obtain ⟨ks, hks⟩ : ∃ ks, keysM (x.parts.getD 0 []) = ks := ⟨_, rfl⟩
        rw [hks] at HN hkl HKS HLK HRS ⊢
        clear hX2 hpt hpf hks
        go_wp2
        go_loopg [9, 44, 56, 59] ks.length (fun gg _ s44 _ _ wr => ∃ i : Nat, i ≤ ks.length ∧ ks.length - i ≤ gg ∧ s44 = .int .i64 i ∧ W2 = wr ∧ Aside0 (lockL s tn (ks.drop i) = lockL s tn ks))
        case atStart => exact ⟨0, Nat.zero_le _, by omega, rfl, rfl, ⟨rfl⟩⟩
        case round =>
          obtain ⟨i, hi, hg, rfl, rfl, AA⟩ := hrel
          by_cases hlt : i < ks.length
          · have hltz : (i : Int) < (ks.length : Int) := by omega
            obtain ⟨gv, cap', e, hcap, c0⟩ := rowI_at HN.out hlt
            cases e
            have hin := HKS.out _ (List.getElem_mem hlt)
            have hdr : ks.drop i = ks[i] :: ks.drop (i + 1) := List.drop_eq_getElem_cons hlt
            have hA := AA.out
            rw [hdr] at hA
            have HA := Aside0.mk (show (if (varE s ks[i]).lock == (tn : Int) then lockL s tn (ks.drop (i + 1)) else some ks[i]) = lockL s tn ks from hA)
            clear hA hdr AA
            generalize ks[i] = n at *
            have hn := isE_iff.1 hin.1
            obtain ⟨m, rfl⟩ : ∃ m : Nat, n = m := ⟨n.toNat, by omega⟩
            have hm : m < s.vars.length := by omega
            have hNv : Kd.N kV 92 W2 base (fun k => ρ k = 2) vs s.vars := HE2.out.vars
            obtain ⟨gu, cu, rfl, hcu, v0, v1, v2, vf⟩ := rowV_at hNv hm
            have vf2 := vf 2
            have hve := varE_at hm
            have HVE := Aside0.mk hve
            rw [hve] at HA
            have hmz : (m : Int) < (s.vars.length : Int) := by omega
            clear hNv vf v0 v1 hve hin hn
            by_cases hl1 : s.vars[m].lock = (tn : Int)
            · have HA2 := Aside0.mk (show lockL s tn (ks.drop (i + 1)) = lockL s tn ks by have := HA.out; rwa [if_pos (by simpa using hl1)] at this)
              rw [hl1] at v2
              clear HA HVE
              go_wp2
              go_roundg (ks.length - (i + 1))
              case measure => omega
              case rel => exact ⟨i + 1, by omega, by omega, by go_num, rfl, ⟨HA2.out⟩⟩
            · have h3 : lockL s tn ks = some (m : Int) := by have := HA.out; rw [if_neg (by simpa using hl1)] at this; exact this.symm
              have hst := HLK.out _ h3
              rw [HVE.out] at hst
              by_cases hl2 : s.vars[m].lock = -1
              · have HE := Aside0.mk (show stepE s tn = (1, 0, setVar (setTx s tn (some { x with commits := true })) m { s.vars[m] with lock := tn }) by rw [hst, if_pos (by simpa using hl2)])
                have hl3 : ¬ (-1 : Int) = (tn : Int) := by omega
                rw [hl2] at v2
                have HV := Aside0.mk (show varE (setTx s tn (some { x with commits := true })) (m : Int) = s.vars[m] from HVE.out)
                clear HA HVE h3 hst hl1 HLK HRS
                go_wp2
                go_ret2
                rw [HE.out]
                obtain ⟨hE3, hD3⟩ := HE2.out.set_var (gv := gu) (cap := cu) (i := m) (j := 2) (seg := [.int .i64 (tn : Int)]) rfl hm (by simp) { s.vars[m] with lock := tn } (by rw [HV.out]; rfl)
                exact ⟨rfl, EngPost.via HD1.out (EngPost.after HB.out HE1.out.base_le ⟨ρ, _, _, hE3, hD3⟩)⟩
              · have HE := Aside0.mk (show stepE s tn = (0, 32, setTx s tn (some { x with commits := true })) by rw [hst, if_neg (by simpa using hl2)])
                clear HA HVE h3 hst HLK HRS
                generalize s.vars[m].lock = lk at *
                go_wp2
                go_ret2
                rw [HE.out]
                exact ⟨rfl, EngPost.via HD1.out (EngPost.after HB.out HE1.out.base_le ⟨ρ, _, _, HE2.out, Did.refl⟩)⟩
          · have hltz : ¬ (i : Int) < (ks.length : Int) := by omega
            have h3 : lockL s tn ks = none := by rw [← AA.out, List.drop_eq_nil_of_le (by omega)]; rfl
            have hst := HRS.out h3
            have hvc := valid_calls HE2.out HX2.out (fun n hn => HK.out.reads n hn) HK.out.short
            rw [validL_setTx] at hvc
            have HST := Aside0.mk hst
            change Calls Try.prog 56 _ _ (fun e w' => e = .returned (.int .i64 (validL s tn x.start x.reads)) ∧ Below W2.heap.size W2 w') at hvc
            generalize validL s tn x.start x.reads = f at *
            clear hst h3 AA HLK HRS HKS
            go_wp2_with fail
            refine hvc.mono ?_; rintro e W3 ⟨rfl, hB3⟩
            have HB3 := Aside0.mk hB3
            clear hvc hB3 kg1 k5
            by_cases hf : f = 0
            · subst hf
              have HE3 := Aside0.mk (HE2.out.below HB3.out)
              have HB13 := Aside0.mk (show Below W1.heap.size W1 W3 from HB.out.trans (HB3.out.mono HB.out.size))
              cases ks with
              | nil =>
                have HE := Aside0.mk (show stepE s tn = (4, 0, setTx (setTx s tn (some { x with commits := true })) tn none) from HST.out)
                have ht0 : (0 : Int) ≤ (tn : Int) := by omega
                have ht8 : (tn : Int) < 8 := by omega
                have kt := (blk_cell HE3.out.blk (2 + tn)).trans hcc
                have ft := blk_frozen HE3.out.blk (2 + tn)
                clear HST
                go_wp2
                go_ret2
                rw [HE.out]
                obtain ⟨h3, d3⟩ := HE3.out.nil_tx ht
                exact ⟨rfl, EngPost.via HD1.out (EngPost.after HB13.out HE1.out.base_le ⟨ρ, _, _, h3, d3⟩)⟩
              | cons k0 k1 =>
                have HE := Aside0.mk (show stepE s tn = (2, 0, { setTx s tn (some { x with commits := true, pointed := true, stamp := s.clock + 1, left := k0 :: k1 }) with clock := s.clock + 1 }) from HST.out)
                have hX3 := HX2.out.below HE2.out HB3.out
                have c0 : W3.cell? ⟨g, 0, none⟩ = some (.int .i64 s.clock) := HE3.out.cell0
                have fc := blk_frozen HE3.out.blk 0
                have x5 := blk_cell hX3.blk 5
                have x1 := blk_cell hX3.blk 1
                have x6 := blk_cell hX3.blk 6
                have y5 := blk_frozen hX3.blk 5
                have y1 := blk_frozen hX3.blk 1
                have y6 := blk_frozen hX3.blk 6
                have hck := HK.out.clock
                have hw : IntKind.i64.wrap (s.clock + 1) = s.clock + 1 := IntWalk.i64_in _ (by omega)
                have hw2 : wrap64 (s.clock + 1) = s.clock + 1 := IntWalk.wrap64_in _ (by omega)
                have hkz : ¬ (k1.length : Int) + 1 = 0 := by omega
                have HP := Aside0.mk (step_point HE1.out ht hcc HX1.out HB13.out (Kd.N_below HN.out (by exact HB3.out)) (s.clock + 1))
                clear HST hX3
                go_wp2
                go_ret2
                rw [HE.out]
                have HPo := HP.out
                simp only [setTx_twice] at HPo
                exact ⟨rfl, EngPost.via HD1.out HPo⟩
            · have HE := Aside0.mk (show stepE s tn = (0, f, setTx s tn (some { x with commits := true })) by rw [HST.out, if_pos (by simpa using hf)])
              clear HST
              go_wp2
              go_ret2
              rw [HE.out]
              exact ⟨rfl, EngPost.via HD1.out (EngPost.after HB.out HE1.out.base_le ⟨ρ, _, _, HE2.out.below HB3.out, Did.of_below HB3.out HE2.out.base_le⟩)⟩
end
end Go.Proofs.Ytcnbgamalhfkmaa.P
namespace Go.Proofs.Ytcnbgamalhfkmaa.P
open Go.RowKit Go.Proofs.YtcnbgamalhfkmaaW.PrintWords Go.Proofs.YtcnbgamalhfkmaaW.PrintLast Go.Proofs.YtcnbgamalhfkmaaW.PrintMore
set_option linter.unusedVariables false
set_option linter.unusedSimpArgs false
open Go.WideShapes Go.Maps Go.Shelf
def freeV (t : Int) (v : PVar) : PVar := if v.lock == t then { v with lock := -1 } else v
def partF (t : Int) (l : List PVar) (i : Nat) : List PVar := (l.take i).map (freeV t) ++ l.drop i
theorem partF_len (t : Int) (l : List PVar) (i : Nat) (h : i ≤ l.length) : (partF t l i).length = l.length := by simp [partF]; omega
theorem partF_at {t : Int} {l : List PVar} {i : Nat} (h : i < l.length) : (partF t l i)[i]'(by rw [partF_len t l i (by omega)]; exact h) = l[i] := by
  unfold partF
  rw [List.getElem_append_right (by rw [List.length_map, List.length_take]; omega)]
  simp [show i - min i l.length = 0 by omega]
theorem partF_step {t : Int} {l : List PVar} {i : Nat} (h : i < l.length) : (partF t l i).set i (freeV t l[i]) = partF t l (i + 1) := by
  unfold partF
  rw [List.take_succ_eq_append_getElem h, List.map_append, List.drop_eq_getElem_cons h, List.set_append_right _ _ (by rw [List.length_map, List.length_take]; omega)]
  have e : i - ((l.take i).map (freeV t)).length = 0 := by rw [List.length_map, List.length_take]; omega
  rw [e, List.set_cons_zero, List.append_assoc]
  rfl
theorem partF_same {t : Int} {l : List PVar} {i : Nat} (h : i < l.length) (hl : ¬ l[i].lock = t) : partF t l i = partF t l (i + 1) := by
  have h1 := partF_step (t := t) h
  have e : freeV t l[i] = l[i] := by unfold freeV; rw [if_neg (by simpa using hl)]
  rw [e] at h1
  rw [← h1, ← partF_at (t := t) h, List.set_getElem_self]
section
variable {W : World} {base : Nat} {ρ : Nat → Nat} {g : Nat} {s : PEng} {cells : Array Value} {vs : Value}
set_option maxHeartbeats 8000000 in
set_option maxRecDepth 100000 in
theorem abort_calls (h : EngAt W base ρ g s cells vs) (t : Int) (hv : s.vars.length ≤ 100000) :
    Calls Try.prog 20 #[.pointer (some ⟨g, 0, none⟩), .int .i64 t] W fun e w' => e = .returned (.int .i64 (abortE s t).1) ∧ EngPost W base ρ g (abortE s t).2 w' := by
  have HO := Aside0.mk (show abortE s t = match ofE s t with | none => (1, s) | some x => if x.pointed then (1, s) else (0, setTx { s with vars := s.vars.map (freeV t) } t none) from rfl)
  have HH := Aside0.mk h
  have hof := of_calls h t
  clear h
  go_enter Try.func20, Try.ntmps20
  go_wp2_with fail
  refine hof.mono ?_; rintro e w' ⟨⟨p, rfl, hp⟩, rfl⟩
  clear hof
  rcases hp.form with ⟨e0, rfl⟩ | ⟨x, tn, gt, rd, pa, lf, ms, e0, rfl, ht, rfl, hcc, hx⟩
  · have HE := Aside0.mk (show abortE s t = (1, s) by rw [HO.out, e0])
    clear hp e0 HO
    go_wp2
    go_ret
    rw [HE.out]
    exact ⟨rfl, ρ, _, _, HH.out, Did.refl⟩
  · have k5 := blk_cell hx.blk 5
    by_cases hpt : x.pointed = true
    · have HE := Aside0.mk (show abortE s tn = (1, s) by rw [HO.out, e0]; simp [hpt])
      rw [show (#[Value.int .i64 x.start, .int .i64 x.stamp, rd, pa, .bool x.commits, .bool x.pointed, lf] : Array Value)[5]? = some (.bool true) from by rw [← hpt]; rfl] at k5
      clear hp e0 HO hx
      go_wp2
      go_ret
      rw [HE.out]
      exact ⟨rfl, ρ, _, _, HH.out, Did.refl⟩
    · have hpf : x.pointed = false := by simpa using hpt
      have HE := Aside0.mk (show abortE s tn = (0, setTx { s with vars := s.vars.map (freeV tn) } tn none) by rw [HO.out, e0]; simp [hpf])
      rw [show (#[Value.int .i64 x.start, .int .i64 x.stamp, rd, pa, .bool x.commits, .bool x.pointed, lf] : Array Value)[5]? = some (.bool false) from by rw [← hpf]; rfl] at k5
      have kg1 := HH.out.cell1
      obtain ⟨A, c, rfl⟩ := Kd.N_slice HH.out.vars
      clear hp e0 HO hx hpt hpf
      go_wp2
      go_loopg [6, 23] s.vars.length (fun gg _ s23 wr => ∃ i : Nat, i ≤ s.vars.length ∧ s.vars.length - i ≤ gg ∧ s23 = .int .i64 i ∧ Aside0 (EngAt wr base ρ g { s with vars := partF tn s.vars i } cells (.slice A s.vars.length c)) ∧ Aside0 (Did W base ρ ρ wr))
      case atStart => exact ⟨0, Nat.zero_le _, by omega, rfl, ⟨HH.out⟩, ⟨Did.refl⟩⟩
      case round =>
        obtain ⟨i, hi, hg, rfl, HR, HD⟩ := hrel
        have hpl := partF_len tn s.vars i hi
        by_cases hlt : i < s.vars.length
        · have hltz : (i : Int) < (s.vars.length : Int) := by omega
          have hi2 : i < (partF tn s.vars i).length := by omega
          obtain ⟨gu, cu, e1, hcu, v0, v1, v2, vf⟩ := rowV_at HR.out.vars hi2
          obtain ⟨rfl, rfl⟩ : A = some ⟨gu, 0, none⟩ ∧ c = cu := by injection e1 with a b c; exact ⟨a, c⟩
          rw [show ({ s with vars := partF tn s.vars i } : PEng).vars[i]'hi2 = s.vars[i] from partF_at hlt] at v0 v1 v2
          have vf2 := vf 2
          have kg2 := HR.out.cell1
          clear e1 vf v0 v1
          by_cases hl1 : s.vars[i].lock = (tn : Int)
          · have HL := Aside0.mk hl1
            rw [hl1] at v2
            clear hl1
            go_wp2
            go_roundg (s.vars.length - (i + 1))
            case measure => omega
            case rel =>
              obtain ⟨hE3, hD3⟩ := HR.out.set_var (gv := gu) (cap := c) (i := i) (j := 2) (seg := [.int .i64 (-1)]) (by show _ = Value.slice _ (partF tn s.vars i).length _; rw [hpl]) hi2 (by simp) { s.vars[i] with lock := -1 } (by rw [varE_at hi2, show ({ s with vars := partF tn s.vars i } : PEng).vars[i]'hi2 = s.vars[i] from partF_at hlt]; rfl)
              have e2 : P.setVar { s with vars := partF tn s.vars i } (i : Int) { s.vars[i] with lock := -1 } = { s with vars := partF tn s.vars (i + 1) } := by
                rw [← partF_step hlt]
                unfold freeV
                rw [if_pos (by simpa using HL.out)]
                simp [P.setVar]
              rw [e2] at hE3
              exact ⟨i + 1, by omega, by omega, by go_num, ⟨hE3⟩, ⟨HD.out.trans hD3⟩⟩
          · have HS := Aside0.mk (partF_same hlt hl1)
            generalize s.vars[i].lock = lk at *
            go_wp2
            go_roundg (s.vars.length - (i + 1))
            case measure => omega
            case rel => exact ⟨i + 1, by omega, by omega, by go_num, ⟨by rw [← HS.out]; exact HR.out⟩, ⟨HD.out⟩⟩
        · have hltz : ¬ (i : Int) < (s.vars.length : Int) := by omega
          have e3 : partF tn s.vars i = s.vars.map (freeV tn) := by unfold partF; rw [List.take_of_length_le (by omega), List.drop_eq_nil_of_le (by omega), List.append_nil]
          have HR2 := Aside0.mk (show EngAt wr base ρ g { s with vars := s.vars.map (freeV tn) } cells (.slice A s.vars.length c) by rw [← e3]; exact HR.out)
          have ht0 : (0 : Int) ≤ (tn : Int) := by omega
          have ht8 : (tn : Int) < 8 := by omega
          have kt := (blk_cell HR2.out.blk (2 + tn)).trans hcc
          have ft := blk_frozen HR2.out.blk (2 + tn)
          clear HR e3
          go_wp2
          go_ret
          rw [HE.out]
          obtain ⟨h3, d3⟩ := HR2.out.nil_tx ht
          exact ⟨rfl, ρ, _, _, h3, HD.out.trans d3⟩
end
end Go.Proofs.Ytcnbgamalhfkmaa.P
