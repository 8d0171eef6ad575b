/- tl2: slices.Clone, SameInts, Reads. tl2: Words of the engine. tl2: Words of the document's engine. -/
import Derived.Test.YtcnbgamalhfkmaaMN
import Derived.WalkSpells
namespace Go.Proofs.Ytcnbgamalhfkmaa.P
open Go.RowKit Go.Proofs.YtcnbgamalhfkmaaW.PrintWords Go.Proofs.YtcnbgamalhfkmaaW.PrintLast Go.Proofs.YtcnbgamalhfkmaaW.PrintMore
set_option linter.unusedVariables false
set_option linter.unusedSimpArgs false
open Go.WideShapes Go.Maps Go.Shelf
theorem N_empty {α : Type} (d : Kd α) (W : World) (base e : Nat) (hb : base ≤ W.heap.size) (hd : 0 < d.sz) : Kd.N d e (W.alloc (.cells #[] e)) base (fun _ => True) (.slice (some ⟨W.heap.size, 0, none⟩) 0 0) ([] : List α) :=
  Kd.R_N ⟨fun _ _ => trivial, OwnRow.lit (ps := ([] : List α)) W base (inner := []) (Reps.none _ _) hb (by simp)⟩
set_option maxHeartbeats 4000000 in
set_option maxRecDepth 100000 in
theorem clone_calls {w : World} {base : Nat} {ok : Nat → Prop} {v : Value} {l : List Int} (h : Kd.N kI 3 w base ok v l) (hb : l.length ≤ 1000000) :
    Calls Try.prog 70 #[v] w fun e w' => ∃ v1, e = .returned v1 ∧ Aside0 (Kd.N kI 3 w' w.heap.size (fun _ => True) v1 l) ∧ Aside0 (Below w.heap.size w w') := by
  have he := fun (a : Option Addr) (n c : Nat) => Lib.run_eql_slice_nil (P := Try.prog) w (t := 29) (e := 3) a n c 0 0 Try.underlying29
  obtain ⟨A, c, rfl⟩ := Kd.N_slice h
  have HR := Aside0.mk h
  cases A with
  | none =>
    have h0 : l = [] := by
      cases l with
      | nil => rfl
      | cons x l => obtain ⟨g, cap, e, _⟩ := Kd.N_form h (by simp); cases e
    subst h0
    clear h
    go_enter Try.func70, Try.ntmps70
    go_wp2
    go_ret
    exact ⟨_, rfl, ⟨Kd.N_nil _ _ _ _ _⟩, ⟨Below.refl _ _⟩⟩
  | some ad =>
    clear h
    go_enter Try.func70, Try.ntmps70
    go_wp2_with (at_builtin; refine Kd.N_append_rows kI (w0 := w) w.heap.size rfl (.tmp 5) (.tmp 6) 29 3 _ 8 rfl Try.underlying29 info3 rfl (by decide) (by omega) (.slice (some ⟨w.heap.size, 0, none⟩) 0 0) [] l _ _ _ (fun _ => True) (fun k => k < w.heap.size) rfl rfl (N_empty kI w _ _ (Nat.le_refl _) (by decide)) ?aR ?aN (fun _ _ => trivial) (below_1 w _) ?aS ?aL ?_)
    case aR => exact Kd.F_alloc (Kd.F_mono (Kd.N_F (Kd.N_bound HR.out)) (fun k hk => hk.2)) _
    case aN => intro k hk; exact ⟨trivial, by simp [Value.ownBlock]; omega⟩
    case aS => simp
    case aL => simp; omega
    intro v1 w1 hN hB hg hat
    go_wp2
    go_ret
    exact ⟨v1, rfl, ⟨by simpa using hN⟩, ⟨hB⟩⟩
set_option maxHeartbeats 4000000 in
set_option maxRecDepth 100000 in
theorem same_calls {w : World} {b0 b1 : Nat} {o0 o1 : Nat → Prop} {v0 v1 : Value} {l0 l1 : List Int} (h0 : Kd.N kI 3 w b0 o0 v0 l0) (h1 : Kd.N kI 3 w b1 o1 v1 l1) (hbl : l0.length ≤ 1000000) :
    Calls Try.prog 31 #[v0, v1] w fun e w' => e = .returned (.bool (decide (l0 = l1))) ∧ Aside0 (Below w.heap.size w w') := by
  obtain ⟨A0, c0, rfl⟩ := Kd.N_slice h0
  obtain ⟨A1, c1, rfl⟩ := Kd.N_slice h1
  have H0 := Aside0.mk h0
  have H1 := Aside0.mk h1
  clear h0 h1
  by_cases hl : l0.length = l1.length
  · have hlz : (l0.length : Int) = (l1.length : Int) := by omega
    have HLL := Aside0.mk hl
    go_enter Try.func31, Try.ntmps31
    go_wp2
    clear hl hlz
    go_loopg [5] l0.length (fun gg s5 wr => ∃ i : Nat, i ≤ l0.length ∧ l0.length - i ≤ gg ∧ s5 = .int .i64 i ∧ Aside0 (Below w.heap.size w wr) ∧ Aside0 (l0.take i = l1.take i))
    case atStart => exact ⟨0, Nat.zero_le _, by omega, rfl, ⟨Below.refl _ _⟩, ⟨rfl⟩⟩
    case round =>
      obtain ⟨i, hi, hg, rfl, HB, HT⟩ := hrel
      by_cases hlt : i < l0.length
      · have hltz : (i : Int) < (l0.length : Int) := by omega
        have hlt1 : i < l1.length := by rw [← HLL.out]; exact hlt
        have hltz1 : (i : Int) < (l1.length : Int) := by omega
        obtain ⟨g0, cap0, e0, hc0, q0⟩ := rowI_at (Kd.N_below H0.out HB.out) hlt
        obtain ⟨g1, cap1, e1, hc1, q1⟩ := rowI_at (Kd.N_below H1.out HB.out) hlt1
        cases e0
        cases e1
        have hne : l0[i] ≠ l1[i] → ¬ l0 = l1 := fun hd e => hd (by simp [e])
        have heq : l0[i] = l1[i] → l0.take (i + 1) = l1.take (i + 1) := fun e => by
          rw [List.take_succ_eq_append_getElem hlt, List.take_succ_eq_append_getElem hlt1, HT.out, e]
        by_cases hd : l0[i] = l1[i]
        · have HEQ := Aside0.mk (heq hd)
          clear hne heq
          generalize l0[i] = a at *
          generalize l1[i] = b at *
          subst hd
          go_wp2_with fail
          go_quiet (fail)
          go_wp2
          go_roundg (l0.length - (i + 1))
          case measure => omega
          case rel => exact ⟨i + 1, by omega, by omega, by go_num, ⟨pw_below_drewN HB.out _⟩, HEQ⟩
        · have HE := Aside0.mk (decide_eq_false (hne hd))
          clear hne heq
          generalize l0[i] = a at *
          generalize l1[i] = b at *
          have hdb : (a != b) = true := by simpa using hd
          go_wp2_with fail
          go_quiet (fail)
          go_wp2
          go_ret
          exact ⟨by rw [HE.out]; rfl, ⟨pw_below_drewN HB.out _⟩⟩
      · have hltz : ¬ (i : Int) < (l0.length : Int) := by omega
        have HE := Aside0.mk (show decide (l0 = l1) = true by
          have h := HT.out
          have := HLL.out
          rw [List.take_of_length_le (by omega), List.take_of_length_le (by omega)] at h
          exact decide_eq_true h)
        go_wp2
        go_ret
        exact ⟨by rw [HE.out]; rfl, HB⟩
  · have hlz : ((l0.length : Int) != (l1.length : Int)) = true := by simp; omega
    have HE := Aside0.mk (show decide (l0 = l1) = false from decide_eq_false (fun e => hl (by rw [e])))
    go_enter Try.func31, Try.ntmps31
    go_wp2
    go_ret
    exact ⟨by rw [HE.out]; rfl, ⟨Below.refl _ _⟩⟩
section
variable {W : World} {base : Nat} {ρ : Nat → Nat} {g : Nat} {s : PEng} {cells : Array Value} {vs : Value}
def readsE (s : PEng) (t : Int) : List Int := match ofE s t with | none => [] | some x => x.reads
set_option maxHeartbeats 4000000 in
theorem reads_calls (h : EngAt W base ρ g s cells vs) (t : Int) (hl : (readsE s t).length ≤ 1000000) : Calls Try.prog 57 #[.pointer (some ⟨g, 0, none⟩), .int .i64 t] W fun e w' => ∃ v1, e = .returned v1 ∧ Aside0 (Kd.N kI 3 w' W.heap.size (fun _ => True) v1 (readsE s t)) ∧ Aside0 (Below W.heap.size W w') := by
  have hof := of_calls h t
  clear h
  go_enter Try.func57, Try.ntmps57
  go_wp2_with fail
  refine hof.mono ?_; rintro e w' ⟨⟨p, rfl, hp⟩, rfl⟩
  clear hof
  rcases hp.form with ⟨e0, rfl⟩ | ⟨x, tn, gt, rd, pa, lf, ms, e0, rfl, ht, rfl, hcc, hx⟩
  · have HE := Aside0.mk (show readsE s t = [] by unfold readsE; rw [e0])
    clear hp e0 hl
    go_wp2
    go_ret
    exact ⟨_, rfl, ⟨by rw [HE.out]; exact Kd.N_nil _ _ _ _ _⟩, ⟨Below.refl _ _⟩⟩
  · have HE := Aside0.mk (show readsE s tn = x.reads by unfold readsE; rw [e0])
    rw [HE.out] at hl
    have hcl := clone_calls hx.reads hl
    have k2 := blk_cell hx.blk 2
    obtain ⟨A, c, rfl⟩ := Kd.N_slice hx.reads
    clear hp e0 hx
    go_wp2_with fail
    refine hcl.mono ?_; rintro e w1 ⟨v1, rfl, HN, HB⟩
    clear hcl
    go_wp2
    go_ret
    exact ⟨v1, rfl, ⟨by rw [HE.out]; exact HN.out⟩, HB⟩
end
end Go.Proofs.Ytcnbgamalhfkmaa.P
namespace Go.Proofs.Ytcnbgamalhfkmaa.P
open Go.RowKit Go.Proofs.YtcnbgamalhfkmaaW.PrintWords Go.Proofs.YtcnbgamalhfkmaaW.PrintLast Go.Proofs.YtcnbgamalhfkmaaW.PrintMore
set_option linter.unusedVariables false
set_option linter.unusedSimpArgs false
open Go.WideShapes Go.Maps Go.Shelf
def outW (o : Option PTx) : List Int := match o with | none => [] | some x => x.parts.flatMap fun p => p.map (·.2)
theorem wordsE_eq (s : PEng) : wordsE s = s.vars.map (·.value) ++ s.txs.flatMap outW := rfl
structure WOK (s : PEng) : Prop where
  vl : s.vars.length ≤ 4000
  px : ∀ (t : Nat) (x : PTx), t < 8 → s.txs.getD t none = some x → x.parts.length ≤ 1000 ∧ ∀ p ∈ x.parts, p.length ≤ 1000 ∧ ∀ e ∈ p, in64 e.1
theorem take_flat {α β : Type} {l : List α} {i : Nat} (f : α → List β) (hi : i < l.length) : (l.take (i + 1)).flatMap f = (l.take i).flatMap f ++ f l[i] := by
  rw [List.take_succ_eq_append_getElem hi, List.flatMap_append]; simp
section
variable {W : World} {base : Nat} {ρ : Nat → Nat} {g : Nat} {s : PEng} {cells : Array Value} {vs : Value}
theorem EngAt.arr (h : EngAt W base ρ g s cells vs) : ∃ p0 p1 p2 p3 p4 p5 p6 p7 : Value, W.cell? ⟨g, 2, none⟩ = some p0 ∧ W.cell? ⟨g, 3, none⟩ = some p1 ∧ W.cell? ⟨g, 4, none⟩ = some p2 ∧ W.cell? ⟨g, 5, none⟩ = some p3 ∧ W.cell? ⟨g, 6, none⟩ = some p4 ∧ W.cell? ⟨g, 7, none⟩ = some p5 ∧ W.cell? ⟨g, 8, none⟩ = some p6 ∧ W.cell? ⟨g, 9, none⟩ = some p7 ∧
    ∀ t : Nat, t < 8 → ∃ p, (∀ w, (Instr.index 75 (.agg #[p0, p1, p2, p3, p4, p5, p6, p7]) (.int .i64 (t : Int))).run Try.prog w = .ok p w) ∧ PtrAt W base ρ t p (s.txs.getD t none) := by
  obtain ⟨p0, a0, _, b0⟩ := h.cellT (t := 0) (by omega)
  obtain ⟨p1, a1, _, b1⟩ := h.cellT (t := 1) (by omega)
  obtain ⟨p2, a2, _, b2⟩ := h.cellT (t := 2) (by omega)
  obtain ⟨p3, a3, _, b3⟩ := h.cellT (t := 3) (by omega)
  obtain ⟨p4, a4, _, b4⟩ := h.cellT (t := 4) (by omega)
  obtain ⟨p5, a5, _, b5⟩ := h.cellT (t := 5) (by omega)
  obtain ⟨p6, a6, _, b6⟩ := h.cellT (t := 6) (by omega)
  obtain ⟨p7, a7, _, b7⟩ := h.cellT (t := 7) (by omega)
  refine ⟨p0, p1, p2, p3, p4, p5, p6, p7, a0, a1, a2, a3, a4, a5, a6, a7, fun t ht => ?_⟩
  match t, ht with
  | 0, _ => exact ⟨p0, fun _ => by kernel_rfl, b0⟩ | 1, _ => exact ⟨p1, fun _ => by kernel_rfl, b1⟩ | 2, _ => exact ⟨p2, fun _ => by kernel_rfl, b2⟩ | 3, _ => exact ⟨p3, fun _ => by kernel_rfl, b3⟩ | 4, _ => exact ⟨p4, fun _ => by kernel_rfl, b4⟩ | 5, _ => exact ⟨p5, fun _ => by kernel_rfl, b5⟩ | 6, _ => exact ⟨p6, fun _ => by kernel_rfl, b6⟩ | 7, _ => exact ⟨p7, fun _ => by kernel_rfl, b7⟩
set_option maxHeartbeats 8000000 in
set_option maxRecDepth 100000 in
theorem words_calls (h : EngAt W base ρ g s cells vs) (hw : WOK s) : Calls Try.prog 28 #[.pointer (some ⟨g, 0, none⟩)] W fun e w' => ∃ v1, e = .returned v1 ∧ Aside0 (Kd.N kI 3 w' W.heap.size (fun _ => True) v1 (wordsE s)) ∧ Aside0 (Below W.heap.size W w') := by
  have HH := Aside0.mk h
  have HW := Aside0.mk hw
  have k1 := h.cell1
  obtain ⟨A, c, rfl⟩ := Kd.N_slice h.vars
  have hvl := hw.vl
  obtain ⟨n, hn⟩ : ∃ n, s.vars.length = n := ⟨_, rfl⟩
  have HNN := Aside0.mk hn
  rw [hn] at k1 hvl
  clear h hw hn
  go_enter Try.func28, Try.ntmps28
  go_wp2
  go_loopg [3, 5, 17] n (fun gg s3 _ s17 wr => ∃ (i : Nat), i ≤ n ∧ n - i ≤ gg ∧ s17 = .int .i64 i ∧ Aside0 (Kd.N kI 3 wr W.heap.size (fun _ => True) s3 ((s.vars.take i).map (·.value))) ∧ Aside0 (Below W.heap.size W wr))
  case atStart => exact ⟨0, Nat.zero_le _, by omega, rfl, ⟨Kd.N_nil _ _ _ _ _⟩, ⟨Below.refl _ _⟩⟩
  case round =>
    obtain ⟨i, hi, hg, rfl, HN, HB⟩ := hrel
    have k1r := pw_cell_below HB.out k1
    by_cases hlt : i < n
    · have hltz : (i : Int) < (n : Int) := by omega
      have hlv : i < s.vars.length := by rw [HNN.out]; exact hlt
      obtain ⟨gv, cap, e, hcap, v0, v1, v2, vf⟩ := rowV_at (HH.out.below HB.out).vars hlv
      cases e
      have HT := Aside0.mk (show (s.vars.take (i + 1)).map (·.value) = (s.vars.take i).map (·.value) ++ [s.vars[i].value] by rw [List.take_succ_eq_append_getElem hlv, List.map_append]; rfl)
      have hxl : ((s.vars.take i).map (·.value)).length ≤ 4000 := by rw [List.length_map, List.length_take]; omega
      obtain ⟨A3, c3, rfl⟩ := Kd.N_slice HN.out
      have HB3 := Aside0.mk (HB.out.trans ((below_1 wr (.cells #[.int .i64 s.vars[i].value, .int .i64 s.vars[i].version, .int .i64 s.vars[i].lock] 92)).mono HB.out.size))
      have HN3 := Aside0.mk (Kd.N_below HN.out (below_1 wr (.cells #[.int .i64 s.vars[i].value, .int .i64 s.vars[i].version, .int .i64 s.vars[i].lock] 92)))
      have q0 := blk_cell (blk_new wr (.cells #[.int .i64 s.vars[i].value, .int .i64 s.vars[i].version, .int .i64 s.vars[i].lock] 92)) 0
      generalize (s.vars.take i).map (·.value) = xs at *
      generalize s.vars[i].value = val at *
      generalize s.vars[i].version = ver at *
      generalize s.vars[i].lock = lk at *
      clear vf
      go_upto_region 5 with (fail)
      generalize wr.alloc (.cells #[.int .i64 val, .int .i64 ver, .int .i64 lk] 92) = w3 at *
      clear v0 v1 v2
      go_wp2_with ((with_reducible refine gate_builtin (b := .append) (xs := #[.tmp 21, .tmp 24]) rfl ?_); at_builtin; refine Kd.N_append kI (w0 := W) W.heap.size rfl (.tmp 21) (.tmp 24) 29 3 (.int .i64 0) 8 rfl Try.underlying29 info3 rfl (by decide) (by omega) (.slice A3 xs.length c3) xs val [.int .i64 val] (fun _ => True) (fun _ => False) rfl rfl ?aP (fun _ hk => hk.elim) (fun _ _ => trivial) ?aO ?aB ?aS ?aL ?_; (case aP => exact fun W' _ => rfl); (case aO => exact HN3.out); (case aB => exact HB3.out); (case aS => exact HB3.out.size); (case aL => omega); intro u1 w1 ho hb hg hat; have HN4 := Aside0.mk ho; have HB4 := Aside0.mk hb; clear ho hb hg hat)
      go_roundg (n - (i + 1))
      case measure => omega
      case rel => exact ⟨i + 1, by omega, by omega, by go_num, ⟨by rw [HT.out]; exact HN4.out⟩, HB4⟩
    · have hltz : ¬ (i : Int) < (n : Int) := by omega
      have hxs : (s.vars.take i).map (·.value) = s.vars.map (·.value) := by rw [List.take_of_length_le (by rw [HNN.out]; omega)]
      rw [hxs] at HN
      clear hxs k1 k1r
      obtain ⟨p0, p1, p2, p3, p4, p5, p6, p7, a0, a1, a2, a3, a4, a5, a6, a7, ha⟩ := HH.out.arr
      replace a0 := pw_cell_below HB.out a0
      replace a1 := pw_cell_below HB.out a1
      replace a2 := pw_cell_below HB.out a2
      replace a3 := pw_cell_below HB.out a3
      replace a4 := pw_cell_below HB.out a4
      replace a5 := pw_cell_below HB.out a5
      replace a6 := pw_cell_below HB.out a6
      replace a7 := pw_cell_below HB.out a7
      have HA := Aside0.mk ha
      obtain ⟨arr, harr⟩ : ∃ arr, (#[p0, p1, p2, p3, p4, p5, p6, p7] : Array Value) = arr := ⟨_, rfl⟩
      rw [harr] at HA
      clear ha
      go_upto_block 2 with (fail)
      clear a0 a1 a2 a3 a4 a5 a6 a7 harr
      have hvl2 : (s.vars.map (·.value)).length ≤ 4000 := by rw [List.length_map, HNN.out]; exact hvl
      obtain ⟨vals, hvv⟩ : ∃ vals, s.vars.map (·.value) = vals := ⟨_, rfl⟩
      have HVV := Aside0.mk hvv
      rw [hvv] at HN hvl2
      clear hvv
      have H3 := HN
      clear HN
      go_wp2
      go_loopg [3, 7, 9, 11, 31] 8 (fun gg s3 _ _ _ s31 w1 => ∃ (t : Nat) (xs : List Int), t ≤ 8 ∧ 8 - t ≤ gg ∧ s31 = .int .i64 t ∧ Aside0 (Kd.N kI 3 w1 W.heap.size (fun _ => True) s3 xs) ∧ Aside0 (Below W.heap.size W w1) ∧ Aside0 (xs = vals ++ (s.txs.take t).flatMap outW) ∧ xs.length ≤ 4000 + 1000000 * t)
      case atStart => exact ⟨0, vals, by omega, by omega, rfl, H3, HB, ⟨by simp⟩, by omega⟩
      case round =>
        clear H3 HB hi hg hlt hltz
        obtain ⟨t, xs, ht, hgt, rfl, HN, HB, HX, hxl⟩ := hrel
        by_cases hlt : t < 8
        · have hltz : (t : Int) < 8 := by omega
          obtain ⟨p, hp, hpt⟩ := HA.out t hlt
          have htl : t < s.txs.length := by rw [HH.out.len]; exact hlt
          have hgd : s.txs.getD t none = s.txs[t] := by rw [List.getD_eq_getElem?_getD, List.getElem?_eq_getElem htl]; rfl
          have HTK := Aside0.mk (take_flat outW htl)
          rw [hgd] at hpt
          rcases hpt.form with ⟨e0, rfl⟩ | ⟨x, gt, rd, pa, lf, ms, e0, rfl, hx⟩
          · have HX2 := Aside0.mk (show xs = vals ++ (s.txs.take (t + 1)).flatMap outW by rw [HTK.out, e0, HX.out]; simp [outW])
            clear hpt e0 hgd htl HTK
            go_wp2
            go_roundg (8 - (t + 1))
            case measure => omega
            case rel => exact ⟨t + 1, xs, by omega, by omega, by go_num, HN, HB, HX2, by omega⟩
          · have HX2 := Aside0.mk (fun (ys : List Int) (hy : ys = xs ++ x.parts.flatMap fun p => p.map (·.2)) => (show ys = vals ++ (s.txs.take (t + 1)).flatMap outW by rw [hy, HTK.out, e0, HX.out, List.append_assoc]; rfl))
            have hpx := HW.out.px t x hlt (by rw [hgd]; exact e0)
            have k3 := pw_cell_below HB.out (blk_cell hx.blk 3)
            obtain ⟨A7, c7, rfl⟩ := Kd.N_slice hx.parts
            have HXX := Aside0.mk hx
            have HPX := Aside0.mk hpx
            obtain ⟨mn, hmn⟩ : ∃ mn, ms.length = mn := ⟨_, rfl⟩
            have HMN := Aside0.mk hmn
            have hmb : mn ≤ 1000 := by rw [← hmn, hx.maps.len]; exact hpx.1
            rw [hmn] at k3
            clear hpt e0 hgd htl HTK hx hpx hmn HX
            go_wp2
            go_loopg [3, 9, 11, 41] mn (fun gg s3 _ _ s41 w2 => ∃ (k : Nat) (ys : List Int), k ≤ mn ∧ mn - k ≤ gg ∧ s41 = .int .i64 k ∧ Aside0 (Kd.N kI 3 w2 W.heap.size (fun _ => True) s3 ys) ∧ Aside0 (Below W.heap.size W w2) ∧ Aside0 (ys = xs ++ (x.parts.take k).flatMap fun p => p.map (·.2)) ∧ ys.length ≤ xs.length + 1000 * k)
            case atStart => exact ⟨0, xs, by omega, by omega, rfl, HN, HB, ⟨by simp⟩, by omega⟩
            case round =>
              clear HN HB k3
              obtain ⟨k, ys, hk, hgk, rfl, HN, HB, HY, hyl⟩ := hrel
              by_cases hkl : k < mn
              · have hkz : (k : Int) < (mn : Int) := by omega
                have hkm : k < ms.length := by rw [HMN.out]; exact hkl
                have hkp : k < x.parts.length := by rw [← HXX.out.maps.len]; exact hkm
                have hXr := HXX.out.below HH.out HB.out
                obtain ⟨g9, cap9, e9, hc9, q9⟩ := rowP_at hXr.parts hkm
                cases e9
                have hma := (hXr.maps.at_ k _ _ (List.getElem?_eq_getElem hkm) (List.getElem?_eq_getElem hkp)).2.2
                have hma0 := (HXX.out.maps.at_ k _ _ (List.getElem?_eq_getElem hkm) (List.getElem?_eq_getElem hkp)).2.2
                have hpb := HPX.out.2 _ (List.getElem_mem hkp)
                have HTK := Aside0.mk (take_flat (fun p : Mp => p.map (·.2)) hkp)
                generalize ms[k] = mk at *
                generalize x.parts[k] = p at *
                have hso := sorted_calls hma (by omega)
                have HM0 := Aside0.mk hma0
                have HPB := Aside0.mk hpb.2
                have hpl := hpb.1
                clear hXr hma hma0 hpb
                go_wp2_with fail
                refine hso.mono ?_; rintro e w3 ⟨v8, rfl, hN8, hB8⟩
                clear hso q9
                have hr := HM0.out.rise
                have HR := Aside0.mk hr
                have HN8 := Aside0.mk hN8
                have HB8 := Aside0.mk (HB.out.trans (hB8.mono HB.out.size))
                have HN3 := Aside0.mk (Kd.N_below HN.out hB8)
                obtain ⟨A8, c8, rfl⟩ := Kd.N_slice hN8
                obtain ⟨kn, hkn⟩ : ∃ kn, (keysM p).length = kn := ⟨_, rfl⟩
                have hkn2 : kn = p.length := by rw [← hkn]; simp [keysM]
                have HKN := Aside0.mk hkn
                have HKP := Aside0.mk hkn2
                rw [hkn]
                have HNw := HN
                have HSZ := Aside0.mk HB.out.size
                clear hN8 hB8 hr hkn HN HB
                have hknb : kn ≤ 1000 := by omega
                clear hkn2
                go_wp2
                go_loopg [3, 11, 48] kn (fun gg s3 _ s48 w4 => ∃ (j : Nat) (zs : List Int), j ≤ kn ∧ kn - j ≤ gg ∧ s48 = .int .i64 j ∧ Aside0 (Kd.N kI 3 w4 W.heap.size (fun _ => True) s3 zs) ∧ Aside0 (Below W.heap.size W w4) ∧ Aside0 (Kd.N kI 3 w4 W.heap.size (fun _ => True) (.slice A8 kn c8) (keysM p)) ∧ Aside0 (∀ b, s3.ownBlock = some b → (Value.slice A8 kn c8).ownBlock ≠ some b) ∧ Aside0 (zs = ys ++ (p.take j).map (·.2)) ∧ zs.length = ys.length + j)
                case atStart => exact ⟨0, ys, by omega, by omega, rfl, HN3, HB8, ⟨by rw [← HKN.out]; exact Kd.N_lower HN8.out (by have := HSZ.out; omega)⟩, ⟨fun b hb e => absurd (Kd.N_lt HNw.out b hb) (by have := Kd.N_base HN8.out b (by rw [HKN.out]; exact e); omega)⟩, ⟨by simp⟩, by omega⟩
                case round =>
                  clear HN3 HB8
                  obtain ⟨j, zs, hj, hgj, rfl, HN, HB, HKY, HAP, HZ, hzl⟩ := hrel
                  have HZL := Aside0.mk hzl
                  have hzb : zs.length ≤ 100000000 := by omega
                  clear hzl
                  obtain ⟨A3, c3, rfl⟩ := Kd.N_slice HN.out
                  by_cases hjl : j < kn
                  · have hjz : (j : Int) < (kn : Int) := by omega
                    have hjk : j < (keysM p).length := by rw [HKN.out]; exact hjl
                    have hjp : j < p.length := by have := HKP.out; omega
                    obtain ⟨g8, cap8, e8, hc8, q8⟩ := rowI_at HKY.out hjk
                    rw [HKN.out] at e8
                    cases e8
                    have hkey : (keysM p)[j] = p[j].1 := by simp [keysM]
                    rw [hkey] at q8
                    have hgm : getM p p[j].1 = some p[j].2 := mem_getM HR.out (List.getElem_mem hjp)
                    have hin := HPB.out _ (List.getElem_mem hjp)
                    have HTJ := Aside0.mk (show (p.take (j + 1)).map (·.2) = (p.take j).map (·.2) ++ [p[j].2] by rw [List.take_succ_eq_append_getElem hjp, List.map_append]; rfl)
                    have hm4 := HM0.out.move (HB.out.block _ HM0.out.lt)
                    have HGM := Aside0.mk hgm
                    generalize p[j].1 = kj at *
                    generalize p[j].2 = vj at *
                    have hki := key_in hin
                    clear hkey hgm
                    go_wp2_with (first | (at_lookup; refine wpList_lookup_own_int _ rfl _ _ 78 rfl 3 3 .i64 lawM Try.underlying78 Try.underlying3 (zeroM _) _ p.length _ rfl hm4 _ _ rfl hki ?_; intro cc hat hwc; have h2 := (at_toD p kj).symm.trans hat; rw [HGM.out] at h2; (obtain rfl : vj = cc := (Lit.int.inj (DataW.lit.inj h2)).2); clear hat hwc h2) | ((with_reducible refine gate_builtin (b := .append) (xs := #[.tmp 52, .tmp 56]) rfl ?_); at_builtin; refine Kd.N_append kI (w0 := W) W.heap.size rfl (.tmp 52) (.tmp 56) 29 3 (.int .i64 0) 8 rfl Try.underlying29 info3 rfl (by decide) (by omega) (.slice A3 zs.length c3) zs vj [.int .i64 vj] (fun _ => True) (fun _ => False) rfl rfl ?aP (fun _ hk => hk.elim) (fun _ _ => trivial) ?aO ?aB ?aS ?aL ?_; (case aP => exact fun W' _ => rfl); (case aO => exact HN.out); (case aB => exact HB.out); (case aS => exact HB.out.size); (case aL => omega); intro u1 w5 ho hb hg hat; have HN5 := Aside0.mk ho; have HB5 := Aside0.mk hb; have HG5 := Aside0.mk hg; have HA5 := Aside0.mk hat; clear ho hb hg hat))
                    go_roundg (kn - (j + 1))
                    case measure => omega
                    case rel => exact ⟨j + 1, zs ++ [vj], by omega, by omega, by go_num, HN5, HB5, ⟨N_flat_move kI_flat HKY.out (fun b hb => HG5.out.block b (Kd.N_lt HKY.out b hb) (fun e => HAP.out b e.symm hb))⟩, ⟨fun b hb e => (by
                      rcases HA5.out with e1 | ⟨b', e1, hb'⟩
                      · exact HAP.out b (e1.symm.trans hb) e
                      · rw [e1] at hb; injection hb with hb; have := Kd.N_lt HKY.out b e; omega)⟩, ⟨by rw [HZ.out, HTJ.out, List.append_assoc]⟩, by rw [List.length_append, List.length_singleton, HZL.out]; omega⟩
                  · have hjz : ¬ (j : Int) < (kn : Int) := by omega
                    have HY2 := Aside0.mk (show zs = xs ++ (x.parts.take (k + 1)).flatMap fun p => p.map (·.2) by
                      rw [HZ.out, HTK.out, HY.out, List.take_of_length_le (i := j) (l := p) (by have := HKP.out; omega), List.append_assoc])
                    have hfin : zs.length ≤ xs.length + 1000 * (k + 1) := by have := HZL.out; omega
                    have HFIN := Aside0.mk hfin
                    clear hfin
                    go_wp2
                    go_roundg (mn - (k + 1))
                    case measure => omega
                    case rel => exact ⟨k + 1, zs, by omega, by omega, by go_num, HN, HB, HY2, HFIN.out⟩
              · have hkz : ¬ (k : Int) < (mn : Int) := by omega
                have HX3 := Aside0.mk (HX2.out ys (by rw [HY.out, List.take_of_length_le (by rw [← HXX.out.maps.len, HMN.out]; omega)]))
                go_wp2
                go_roundg (8 - (t + 1))
                case measure => omega
                case rel => exact ⟨t + 1, ys, by omega, by omega, by go_num, HN, HB, HX3, by omega⟩
        · have hltz : ¬ (t : Int) < 8 := by omega
          have HE := Aside0.mk (show wordsE s = xs by rw [wordsE_eq, HX.out, List.take_of_length_le (by rw [HH.out.len]; omega), HVV.out])
          go_wp2
          go_ret
          exact ⟨_, rfl, ⟨by rw [HE.out]; exact HN.out⟩, HB⟩
end
end Go.Proofs.Ytcnbgamalhfkmaa.P
namespace Go.Proofs.Ytcnbgamalhfkmaa.P
open Go.RowKit Go.Proofs.YtcnbgamalhfkmaaW.PrintWords Go.Proofs.YtcnbgamalhfkmaaW.PrintLast Go.Proofs.YtcnbgamalhfkmaaW.PrintMore
set_option linter.unusedVariables false
set_option linter.unusedSimpArgs false
open Go.WideShapes Go.Maps Go.Shelf
def outR (x : RTx) : List Int := if x.is then partsW8 x.puts x.parts.toNat else []
theorem wordsR_eq (s : REng) : wordsR s = s.vars.map (·.value) ++ s.txs.flatMap outR := rfl
structure ROK (s : REng) : Prop where
  vl : s.vars.length ≤ 4000
  px : ∀ (t : Nat), t < 8 → (txR s t).puts.length ≤ 1000 ∧ 0 ≤ (txR s t).parts ∧ (txR s t).parts ≤ 1000
theorem take_flatR {α β : Type} {l : List α} {i : Nat} (f : α → List β) (hi : i < l.length) : (l.take (i + 1)).flatMap f = (l.take i).flatMap f ++ f l[i] := by
  rw [List.take_succ_eq_append_getElem hi, List.flatMap_append]; simp
theorem sortedR_len (l : List RPut) (part : Int) : (sortedR l part).length ≤ l.length := Nat.le_trans (sortedF_len _ _ _ _) (above_le _ _ _)
section
variable {W : World} {base : Nat} {σ : Nat → Nat} {a : Nat} {s : REng} {V : Value} {gt : Nat} {tc : Array Value}
set_option maxHeartbeats 8000000 in
set_option maxRecDepth 100000 in
theorem rwords_calls (h : RefAt W base σ a s V gt tc) (hw : ROK s) : Calls Try.prog 59 #[.pointer (some ⟨a, 0, none⟩)] W fun e w' => ∃ v1, e = .returned v1 ∧ Aside0 (Kd.N kI 3 w' W.heap.size (fun _ => True) v1 (wordsR s)) ∧ Aside0 (Below W.heap.size W w') := by
  have HH := Aside0.mk h
  have HW := Aside0.mk hw
  have k1 := h.cell1
  have k2 := h.cell2
  obtain ⟨A, c, rfl⟩ := Kd.N_slice h.vars
  have hvl := hw.vl
  obtain ⟨n, hn⟩ : ∃ n, s.vars.length = n := ⟨_, rfl⟩
  have HNN := Aside0.mk hn
  rw [hn] at k1 hvl
  clear h hw hn
  go_enter Try.func59, Try.ntmps59
  go_wp2
  go_loopg [3, 4] n (fun gg s3 s4 wr => ∃ (i : Nat), i ≤ n ∧ n - i ≤ gg ∧ s4 = .int .i64 i ∧ Aside0 (Kd.N kI 3 wr W.heap.size (fun _ => True) s3 ((s.vars.take i).map (·.value))) ∧ Aside0 (Below W.heap.size W wr))
  case atStart => exact ⟨0, Nat.zero_le _, by omega, rfl, ⟨Kd.N_nil _ _ _ _ _⟩, ⟨Below.refl _ _⟩⟩
  case round =>
    obtain ⟨i, hi, hg, rfl, HN, HB⟩ := hrel
    have k1r := pw_cell_below HB.out k1
    by_cases hlt : i < n
    · have hltz : (i : Int) < (n : Int) := by omega
      have hlv : i < s.vars.length := by rw [HNN.out]; exact hlt
      obtain ⟨gv, cap, e, hcap, v0, v1, v2, vf⟩ := rowR_at (HH.out.below HB.out).vars hlv
      cases e
      have HT := Aside0.mk (show (s.vars.take (i + 1)).map (·.value) = (s.vars.take i).map (·.value) ++ [s.vars[i].value] by rw [List.take_succ_eq_append_getElem hlv, List.map_append]; rfl)
      have hxl : ((s.vars.take i).map (·.value)).length ≤ 4000 := by rw [List.length_map, List.length_take]; omega
      obtain ⟨A3, c3, rfl⟩ := Kd.N_slice HN.out
      generalize (s.vars.take i).map (·.value) = xs at *
      generalize s.vars[i].value = val at *
      clear vf v1 v2
      go_wp2_with ((with_reducible refine gate_builtin (b := .append) (xs := #[.tmp 18, .tmp 27]) rfl ?_); at_builtin; refine Kd.N_append kI (w0 := W) W.heap.size rfl (.tmp 18) (.tmp 27) 29 3 (.int .i64 0) 8 rfl Try.underlying29 info3 rfl (by decide) (by omega) (.slice A3 xs.length c3) xs val [.int .i64 val] (fun _ => True) (fun _ => False) rfl rfl ?aP (fun _ hk => hk.elim) (fun _ _ => trivial) ?aO ?aB ?aS ?aL ?_; (case aP => exact fun W' _ => rfl); (case aO => exact HN.out); (case aB => exact HB.out); (case aS => exact HB.out.size); (case aL => omega); intro u1 w1 ho hb hg hat; have HN4 := Aside0.mk ho; have HB4 := Aside0.mk hb; clear ho hb hg hat)
      go_roundg (n - (i + 1))
      case measure => omega
      case rel => exact ⟨i + 1, by omega, by omega, by go_num, ⟨by rw [HT.out]; exact HN4.out⟩, HB4⟩
    · have hltz : ¬ (i : Int) < (n : Int) := by omega
      have hxs : (s.vars.take i).map (·.value) = s.vars.map (·.value) := by rw [List.take_of_length_le (by rw [HNN.out]; omega)]
      rw [hxs] at HN
      have hvl2 : (s.vars.map (·.value)).length ≤ 4000 := by rw [List.length_map, HNN.out]; exact hvl
      obtain ⟨vals, hvv⟩ : ∃ vals, s.vars.map (·.value) = vals := ⟨_, rfl⟩
      have HVV := Aside0.mk hvv
      rw [hvv] at HN hvl2
      have H3 := HN
      clear hvv HN hxs
      go_wp2
      go_loopg [3, 5, 6, 7, 8] 8 (fun gg s3 s5 _ _ _ w1 => ∃ (t : Nat) (xs : List Int), t ≤ 8 ∧ 8 - t ≤ gg ∧ s5 = .int .i64 t ∧ Aside0 (Kd.N kI 3 w1 W.heap.size (fun _ => True) s3 xs) ∧ Aside0 (Below W.heap.size W w1) ∧ Aside0 (xs = vals ++ (s.txs.take t).flatMap outR) ∧ xs.length ≤ 4000 + 1000000 * t)
      case atStart => exact ⟨0, vals, by omega, by omega, rfl, H3, HB, ⟨by simp⟩, by omega⟩
      case round =>
        clear H3 HB hi hg hlt hltz k1r
        obtain ⟨t, xs, ht, hgt, rfl, HN, HB, HX, hxl⟩ := hrel
        by_cases hlt : t < 8
        · have hltz : (t : Int) < 8 := by omega
          obtain ⟨rd, pu, hc⟩ := HH.out.cells hlt
          have htl : t < s.txs.length := by rw [HH.out.len]; exact hlt
          have hgd : txR s t = s.txs[t] := by rw [txR_nat, List.getD_eq_getElem?_getD, List.getElem?_eq_getElem htl]; rfl
          have hpx := HW.out.px t hlt
          have HTK := Aside0.mk (take_flatR outR htl)
          rw [← hgd] at HTK
          obtain ⟨x, hx⟩ : ∃ x, txR s t = x := ⟨_, rfl⟩
          rw [hx] at hc hpx HTK
          have HC := Aside0.mk hc
          obtain ⟨A7, c7, rfl⟩ := Kd.N_slice hc.puts
          obtain ⟨np, hnp⟩ : ∃ np : Nat, x.parts = np := ⟨x.parts.toNat, by omega⟩
          have HX2 := Aside0.mk (fun (ys : List Int) (hy : ys = xs ++ outR x) => (show ys = vals ++ (s.txs.take (t + 1)).flatMap outR by rw [hy, HTK.out, HX.out, List.append_assoc]))
          have HNP := Aside0.mk hnp
          have hnb : np ≤ 1000 := by omega
          have hpb := hpx.1
          clear hc hgd htl HTK hpx hx HX hnp
          go_wp2
          go_loopg [3, 6, 7, 8] (np + 1) (fun gg s3 s6 _ _ w2 => ∃ (k : Nat) (ys : List Int), k ≤ np ∧ np - k ≤ gg ∧ s6 = .int .i64 ((k : Int) + 1) ∧ Aside0 (Kd.N kI 3 w2 W.heap.size (fun _ => True) s3 ys) ∧ Aside0 (Below W.heap.size W w2) ∧ Aside0 (ys = xs ++ partsW8 x.puts k) ∧ Aside0 (x.is = false → k = 0) ∧ ys.length ≤ xs.length + 1000 * k)
          case atStart => exact ⟨0, xs, by omega, by omega, rfl, HN, HB, ⟨by simp [partsW8]⟩, ⟨fun _ => rfl⟩, by omega⟩
          case round =>
            clear HN HB
            obtain ⟨k, ys, hk, hgk, rfl, HN, HB, HY, HI, hyl⟩ := hrel
            have hcr := HC.out.under HB.out
            have q2 := pw_cell_below HB.out k2
            have q0 := hcr.c0
            have q3 := hcr.c3
            have q4 := hcr.c4
            rw [HNP.out] at q4
            by_cases hgo : k < np ∧ x.is = true
            · obtain ⟨hkl, his⟩ := hgo
              have hkz : (k : Int) + 1 ≤ (np : Int) := by omega
              rw [his] at q0
              have hso := rsorted_calls hcr.puts (by omega) ((k : Int) + 1)
              have hsl := sortedR_len x.puts ((k : Int) + 1)
              have HIS := Aside0.mk his
              clear hcr his
              go_wp2_with fail
              refine hso.mono ?_; rintro e w3 ⟨v7, rfl, HN8, HBx⟩
              clear hso q0 q2 q3 q4
              have HB8 := Aside0.mk (HB.out.trans (HBx.out.mono HB.out.size))
              have HN3 := Aside0.mk (Kd.N_below HN.out HBx.out)
              have HPW := Aside0.mk (show partsW8 x.puts (k + 1) = partsW8 x.puts k ++ (sortedR x.puts ((k : Int) + 1)).map (·.v) from rfl)
              obtain ⟨ks, hks⟩ : ∃ ks, sortedR x.puts ((k : Int) + 1) = ks := ⟨_, rfl⟩
              rw [hks] at HN8 HPW hsl
              obtain ⟨A8, c8, rfl⟩ := Kd.N_slice HN8.out
              have HNw := HN
              have HSZ := Aside0.mk HB.out.size
              clear hks HN HB HBx
              obtain ⟨kn, hkn⟩ : ∃ kn, ks.length = kn := ⟨_, rfl⟩
              have HKN := Aside0.mk hkn
              have hknb : kn ≤ 1000 := by omega
              rw [hkn]
              clear hkn hsl
              go_wp2
              go_loopg [3, 8] kn (fun gg s3 s8 w4 => ∃ (j : Nat) (zs : List Int), j ≤ kn ∧ kn - j ≤ gg ∧ s8 = .int .i64 j ∧ Aside0 (Kd.N kI 3 w4 W.heap.size (fun _ => True) s3 zs) ∧ Aside0 (Below W.heap.size W w4) ∧ Aside0 (Kd.N kW 61 w4 W.heap.size (fun _ => True) (.slice A8 kn c8) ks) ∧ Aside0 (∀ b, s3.ownBlock = some b → (Value.slice A8 kn c8).ownBlock ≠ some b) ∧ Aside0 (zs = ys ++ (ks.take j).map (·.v)) ∧ zs.length = ys.length + j)
              case atStart => exact ⟨0, ys, by omega, by omega, rfl, HN3, HB8, ⟨by rw [← HKN.out]; exact Kd.N_lower HN8.out HSZ.out⟩, ⟨fun b hb e => absurd (Kd.N_lt HNw.out b hb) (by have := Kd.N_base HN8.out b (by rw [HKN.out]; exact e); omega)⟩, ⟨by simp⟩, by omega⟩
              case round =>
                clear HN3 HB8
                obtain ⟨j, zs, hj, hgj, rfl, HN, HB, HKY, HAP, HZ, hzl⟩ := hrel
                have HZL := Aside0.mk hzl
                have hzb : zs.length ≤ 100000000 := by omega
                clear hzl
                obtain ⟨A3, c3, rfl⟩ := Kd.N_slice HN.out
                by_cases hjl : j < kn
                · have hjz : (j : Int) < (kn : Int) := by omega
                  have hjk : j < ks.length := by rw [HKN.out]; exact hjl
                  obtain ⟨g8, cap8, e8, hc8, q8n, q8, q8p, _⟩ := rowW_at HKY.out hjk
                  rw [HKN.out] at e8
                  cases e8
                  have HTJ := Aside0.mk (show (ks.take (j + 1)).map (·.v) = (ks.take j).map (·.v) ++ [ks[j].v] by rw [List.take_succ_eq_append_getElem hjk, List.map_append]; rfl)
                  generalize ks[j].v = vj at *
                  clear q8n q8p
                  go_wp2_with ((with_reducible refine gate_builtin (b := .append) (xs := #[.tmp 71, .tmp 77]) rfl ?_); at_builtin; refine Kd.N_append kI (w0 := W) W.heap.size rfl (.tmp 71) (.tmp 77) 29 3 (.int .i64 0) 8 rfl Try.underlying29 info3 rfl (by decide) (by omega) (.slice A3 zs.length c3) zs vj [.int .i64 vj] (fun _ => True) (fun _ => False) rfl rfl ?aP (fun _ hk => hk.elim) (fun _ _ => trivial) ?aO ?aB ?aS ?aL ?_; (case aP => exact fun W' _ => rfl); (case aO => exact HN.out); (case aB => exact HB.out); (case aS => exact HB.out.size); (case aL => omega); intro u1 w5 ho hb hg hat; have HN5 := Aside0.mk ho; have HB5 := Aside0.mk hb; have HG5 := Aside0.mk hg; have HA5 := Aside0.mk hat; clear ho hb hg hat)
                  go_roundg (kn - (j + 1))
                  case measure => omega
                  case rel => exact ⟨j + 1, zs ++ [vj], by omega, by omega, by go_num, HN5, HB5, ⟨N_flat_move kW_flat HKY.out (fun b hb => HG5.out.block b (Kd.N_lt HKY.out b hb) (fun e => HAP.out b e.symm hb))⟩, ⟨fun b hb e => (by
                    rcases HA5.out with e1 | ⟨b', e1, hb'⟩
                    · exact HAP.out b (e1.symm.trans hb) e
                    · rw [e1] at hb; injection hb with hb; have := Kd.N_lt HKY.out b e; omega)⟩, ⟨by rw [HZ.out, HTJ.out, List.append_assoc]⟩, by rw [List.length_append, List.length_singleton, HZL.out]; omega⟩
                · have hjz : ¬ (j : Int) < (kn : Int) := by omega
                  have HY2 := Aside0.mk (show zs = xs ++ partsW8 x.puts (k + 1) by
                    rw [HZ.out, HPW.out, HY.out, List.take_of_length_le (i := j) (l := ks) (by rw [HKN.out]; omega), List.append_assoc])
                  have hfin : zs.length ≤ xs.length + 1000 * (k + 1) := by have := HZL.out; omega
                  have HFIN := Aside0.mk hfin
                  clear hfin
                  go_wp2
                  go_roundg (np - (k + 1))
                  case measure => omega
                  case rel => exact ⟨k + 1, zs, by omega, by omega, by go_num, HN, HB, HY2, ⟨fun e => by rw [HIS.out] at e; cases e⟩, HFIN.out⟩
            · have hcs : (k < np ∧ x.is = false) ∨ ¬ k < np := by
                by_cases e : k < np
                · left
                  refine ⟨e, ?_⟩
                  cases hb : x.is with
                  | false => rfl
                  | true => exact absurd ⟨e, hb⟩ hgo
                · exact .inr e
              have HX3 := Aside0.mk (HX2.out ys (by
                rw [HY.out]
                unfold outR
                rcases hcs with ⟨_, e⟩ | e
                · rw [HI.out e, e]; simp [partsW8]
                · cases hb : x.is with
                  | false => rw [HI.out hb]; simp [partsW8]
                  | true => rw [HNP.out, show k = np by omega]; simp))
              clear hgo hcr
              rcases hcs with ⟨hkl, his⟩ | hkl
              · have hkz : (k : Int) + 1 ≤ (np : Int) := by omega
                rw [his] at q0
                clear his
                go_wp2
                go_roundg (8 - (t + 1))
                case measure => omega
                case rel => exact ⟨t + 1, ys, by omega, by omega, by go_num, HN, HB, HX3, by omega⟩
              · have hkz : ¬ (k : Int) + 1 ≤ (np : Int) := by omega
                go_wp2
                go_roundg (8 - (t + 1))
                case measure => omega
                case rel => exact ⟨t + 1, ys, by omega, by omega, by go_num, HN, HB, HX3, by omega⟩
        · have hltz : ¬ (t : Int) < 8 := by omega
          have HE := Aside0.mk (show wordsR s = xs by rw [wordsR_eq, HX.out, List.take_of_length_le (by rw [HH.out.len]; omega), HVV.out])
          go_wp2
          go_ret
          exact ⟨_, rfl, ⟨by rw [HE.out]; exact HN.out⟩, HB⟩
end
end Go.Proofs.Ytcnbgamalhfkmaa.P
