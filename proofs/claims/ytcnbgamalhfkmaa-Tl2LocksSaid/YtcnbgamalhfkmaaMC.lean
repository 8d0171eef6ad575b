/- tl2: Read. -/
import Derived.Test.YtcnbgamalhfkmaaMB
import Derived.Deep.RegionHeld3
namespace Go.Proofs.Ytcnbgamalhfkmaa.P
open Go.RowKit Go.Proofs.YtcnbgamalhfkmaaW.PrintWords Go.Proofs.YtcnbgamalhfkmaaW.PrintLast Go.Proofs.YtcnbgamalhfkmaaW.PrintMore
set_option linter.unusedVariables false
set_option linter.unusedSimpArgs false
open Go.WideShapes Go.Maps Go.Shelf
attribute [local go_sem] Oper.semAt_some
section
variable {W : World} {base : Nat} {ρ : Nat → Nat} {g : Nat} {s : PEng} {cells : Array Value} {vs : Value}
theorem alloc3 (W : World) (o1 o2 o3 : Obj) : ∃ W3, ((W.alloc o1).alloc o2).alloc o3 = W3 ∧ W3.heap.size = W.heap.size + 3 ∧ Below W.heap.size W W3 ∧ W3.heap[W.heap.size]? = some o1 ∧ W3.heap[W.heap.size + 1]? = some o2 ∧ W3.heap[W.heap.size + 1 + 1]? = some o3 := by
  refine ⟨_, rfl, by simp, below_alloc (below_alloc (below_alloc (Below.refl _ _) _) _) _, ?_, ?_, ?_⟩
  · exact blk_alloc (blk_alloc (blk_new W o1) o2) o3
  · have := blk_new (W.alloc o1) o2
    rw [World.size_alloc] at this
    exact blk_alloc this o3
  · have := blk_new ((W.alloc o1).alloc o2) o3
    rwa [World.size_alloc, World.size_alloc] at this
theorem two_set {W3 : World} {a : Nat} {x1 x2 : Value} (b1 : W3.heap[a]? = some (.cells #[x1] 3 (0, 0))) (b2 : W3.heap[a + 1]? = some (.cells #[x2] 27 (0, 0))) (v1 v2 : Value) :
    ((W3.setCell ⟨a, 0, none⟩ v1).setCell ⟨a + 1, 0, none⟩ v2).cell? ⟨a, 0, none⟩ = some v1 ∧ ((W3.setCell ⟨a, 0, none⟩ v1).setCell ⟨a + 1, 0, none⟩ v2).cell? ⟨a + 1, 0, none⟩ = some v2 := by
  have h1 := blk_set b1 0 v1
  have h2 : (W3.setCell ⟨a, 0, none⟩ v1).heap[a + 1]? = some (.cells #[x2] 27 (0, 0)) := (Below.heap_setCell W3 ⟨a, 0, none⟩ v1 (a + 1) (by show a + 1 ≠ a; omega)).trans b2
  have h3 := blk_set h2 0 v2
  have h4 : ((W3.setCell ⟨a, 0, none⟩ v1).setCell ⟨a + 1, 0, none⟩ v2).heap[a]? = _ := (Below.heap_setCell (W3.setCell ⟨a, 0, none⟩ v1) ⟨a + 1, 0, none⟩ v2 a (by show a ≠ a + 1; omega)).trans h1
  exact ⟨(blk_cell h4 0).trans rfl, (blk_cell h3 0).trans rfl⟩
theorem two_below {W W3 : World} {n0 a : Nat} (hb : Below n0 W W3) (ha : n0 ≤ a) (v1 v2 : Value) : Below n0 W ((W3.setCell ⟨a, 0, none⟩ v1).setCell ⟨a + 1, 0, none⟩ v2) :=
  (hb.setCell (p := ⟨a, 0, none⟩) ha v1).setCell (p := ⟨a + 1, 0, none⟩) (by show n0 ≤ a + 1; omega) v2
theorem EngPost.same {W' : World} (h : EngAt W base ρ g s cells vs) (hb : Below W.heap.size W W') : EngPost W base ρ g s W' := ⟨ρ, cells, vs, h.below hb, Did.of_below hb h.base_le⟩
set_option maxHeartbeats 8000000 in
set_option maxRecDepth 100000 in
theorem read_calls (h : EngAt W base ρ g s cells vs) (t n : Int) (hn : in64 n) (hp : ∀ x, openE s t = some x → x.parts ≠ [] ∧ x.parts.length ≤ 100000 ∧ x.reads.length ≤ 100000) :
    Calls Try.prog 16 #[.pointer (some ⟨g, 0, none⟩), .int .i64 t, .int .i64 n] W fun e w' => e = .returned (.tuple #[.int .i64 (readE s t n).1, .int .i64 (readE s t n).2.1]) ∧ EngPost W base ρ g (readE s t n).2.2 w' := by
  obtain ⟨W3, hW3, s3, hB3, b0, b1, b2⟩ := alloc3 W (.cells #[.int .i64 n] 3) (.cells #[.int .i64 0] 3) (.cells #[.int .i64 0] 27)
  have HH := Aside0.mk h
  have HP := Aside0.mk hp
  have h3 := h.below hB3
  have hof := open_calls h3 t
  have his := is_calls h3 n
  have HB3 := Aside0.mk hB3
  have c0 := blk_cell b0 0
  have c1 := blk_cell b1 0
  have c2 := blk_cell b2 0
  have f1 := blk_frozen b1 0
  have f2 := blk_frozen b2 0
  have HO := Aside0.mk (show readE s t n = match openE s t with
    | none => (0, 1, s)
    | some x =>
      if !isE s n then (0, 1, s) else
      match hitM x.parts n with
      | some v => (v, 0, s)
      | none =>
        let f := lookE s t x.start n
        if f != 0 then (0, f, s) else
        ((varE s n).value, 0, if x.reads.contains n then s else setTx s t (some { x with reads := x.reads ++ [n] })) from rfl)
  clear h hp h3 hB3
  have hcase : openE s t = none ∨ isE s n = false ∨ ∃ x, openE s t = some x ∧ isE s n = true := by
    cases openE s t with
    | none => exact .inl rfl
    | some x => cases isE s n with
                | false => exact .inr (.inl rfl)
                | true => exact .inr (.inr ⟨x, rfl, rfl⟩)
  rcases hcase with hc | hc | ⟨x, hc, hc2⟩
  · have HE := Aside0.mk (show readE s t n = (0, 1, s) by rw [HO.out, hc])
    rw [hc] at hof
    clear hc HO
    go_enter Try.func16, Try.ntmps16
    go_upto_region 1 with (fail)

    go_wp2_with fail
    refine hof.mono ?_; rintro e w' ⟨⟨p, rfl, hp⟩, rfl⟩
    obtain rfl : p = .pointer none := hp
    clear hof his
    go_wp2
    obtain ⟨r1, r2⟩ := two_set b1 b2 (.int .i64 0) (.int .i64 1)
    refine bodyPost_ret (v := .tuple #[.int .i64 0, .int .i64 1]) (by simp [results, Try.results16, go_sem, r1, r2]) rfl ?_
    rw [HE.out]
    exact ⟨rfl, EngPost.same HH.out (two_below HB3.out (by omega) _ _)⟩
  · have HE := Aside0.mk (show readE s t n = (0, 1, s) by rw [HO.out, hc]; cases openE s t <;> rfl)
    rw [hc] at his
    clear hc HO
    go_enter Try.func16, Try.ntmps16
    go_upto_region 1 with (fail)
    go_wp2_with fail
    refine hof.mono ?_; rintro e w' ⟨⟨p, rfl, hp⟩, rfl⟩
    clear hof
    rcases hp.form with ⟨e0, rfl⟩ | ⟨x, tn, gt, rd, pa, lf, ms, e0, rfl, ht, rfl, hcc, hx⟩
    · clear his hp e0
      go_wp2
      obtain ⟨r1, r2⟩ := two_set b1 b2 (.int .i64 0) (.int .i64 1)
      refine bodyPost_ret (v := .tuple #[.int .i64 0, .int .i64 1]) (by simp [results, Try.results16, go_sem, r1, r2]) rfl ?_
      rw [HE.out]
      exact ⟨rfl, EngPost.same HH.out (two_below HB3.out (by omega) _ _)⟩
    · clear hp e0 hx hcc
      go_wp2_with fail
      refine his.mono ?_; rintro e w' ⟨rfl, rfl⟩
      clear his
      go_wp2
      obtain ⟨r1, r2⟩ := two_set b1 b2 (.int .i64 0) (.int .i64 1)
      refine bodyPost_ret (v := .tuple #[.int .i64 0, .int .i64 1]) (by simp [results, Try.results16, go_sem, r1, r2]) rfl ?_
      rw [HE.out]
      exact ⟨rfl, EngPost.same HH.out (two_below HB3.out (by omega) _ _)⟩
  · rw [hc] at hof
    rw [hc2] at his
    have HE := Aside0.mk (show readE s t n = (match hitM x.parts n with
      | some v => (v, 0, s)
      | none => if lookE s t x.start n != 0 then (0, lookE s t x.start n, s) else ((varE s n).value, 0, if x.reads.contains n then s else setTx s t (some { x with reads := x.reads ++ [n] }))) by rw [HO.out, hc, hc2]; rfl)
    have HN := Aside0.mk (isE_iff.1 hc2)
    have HPX := Aside0.mk (HP.out x hc)
    have HOX := Aside0.mk (openE_some hc)
    clear hc hc2 HO HP
    refine (callsIn_wide (n := 8)).1 (callsIn_of_wp_marks Try.func16 rfl trivial ?_ rfl)
    simp only [Try.ntmps16, List.size_toArray, List.length_cons, List.length_nil, Nat.reduceAdd, Nat.reduceSub, Array.replicate_succ, Array.replicate_zero, List.push_toArray, List.append_toArray, List.nil_append, List.cons_append]
    refine wpIn_wide.2 ?_
    go_upto_region 1 with (fail)
    go_wp2_with fail
    refine hof.mono ?_; rintro e w' ⟨⟨p, rfl, hp⟩, rfl⟩
    clear hof
    rcases hp.form with ⟨e0, rfl⟩ | ⟨x', tn, gt, rd, pa, lf, ms, e0, rfl, ht, rfl, hcc, hx⟩
    · cases e0
    · cases e0
      clear hp
      go_wp2_with fail
      refine his.mono ?_; rintro e w' ⟨rfl, rfl⟩
      clear his
      have hml : 0 < ms.length := by rw [hx.maps.len]; exact List.length_pos_iff.2 HPX.out.1
      obtain ⟨gv, cap, rfl, hgv0, hgv1, _⟩ := Kd.N_form hx.parts hml
      have k3 := blk_cell hx.blk 3
      have HX := Aside0.mk hx
      clear hx
      go_wp2_with fail
      refine (backward_calls _ _ _ _).mono ?_; rintro e w' ⟨rfl, rfl⟩
      go_wp2_with fail
      obtain ⟨W4, hW4⟩ : ∃ W4, W3.alloc (.cells #[.slice (some ⟨gv, 0, none⟩) ms.length cap] 79) = W4 := ⟨_, rfl⟩
      rw [hW4]
      have s4 : W4.heap.size = W3.heap.size + 1 := by rw [← hW4]; simp
      have hB4 : Below W3.heap.size W3 W4 := by rw [← hW4]; exact below_1 W3 _
      have hBox : W4.cell? ⟨W.heap.size + 3, 0, none⟩ = some (.slice (some ⟨gv, 0, none⟩) ms.length cap) := by
        rw [← s3]
        rw [← hW4]; exact blk_cell (blk_new W3 _) 0
      have hmsl : ms.length ≤ 100000 := by rw [HX.out.maps.len]; exact HPX.out.2.1
      have hrow : ∀ (j : Nat) (hj : j < ms.length), W4.cell? ⟨gv, j, none⟩ = some (.map (some ms[j])) := fun j hj => by
        obtain ⟨gv', cap', e, _, hc⟩ := rowP_at HX.out.parts hj
        cases e
        exact (hB4.cell (p := ⟨gv, j, none⟩) hgv1).trans hc
      have hparts : ∀ (i : Fin ms.length), MapAt W4 (ms[i.1]'i.2) (x.parts.getD i.1 []) := fun i => by
        have hip : i.1 < x.parts.length := by rw [← HX.out.maps.len]; exact i.2
        have h1 := (HX.out.maps.at_ i.1 _ _ (List.getElem?_eq_getElem i.2) (List.getElem?_eq_getElem hip)).2.2
        rw [List.getD_eq_getElem?_getD, List.getElem?_eq_getElem hip, Option.getD_some]
        exact h1.move (hB4.block _ h1.lt)
      have HHP := Aside0.mk hparts
      have hW4W : Below W.heap.size W W4 := HB3.out.trans (hB4.mono (by omega))
      have c40 := (hB4.cell (p := ⟨W.heap.size, 0, none⟩) (show W.heap.size < _ by omega)).trans c0
      have c41 := (hB4.cell (p := ⟨W.heap.size + 1, 0, none⟩) (show W.heap.size + 1 < _ by omega)).trans c1
      have c42 := (hB4.cell (p := ⟨W.heap.size + 1 + 1, 0, none⟩) (show W.heap.size + 1 + 1 < _ by omega)).trans c2
      have f41 := (hB4.frozen (p := ⟨W.heap.size + 1, 0, none⟩) (show W.heap.size + 1 < _ by omega)).trans f1
      have f42 := (hB4.frozen (p := ⟨W.heap.size + 1 + 1, 0, none⟩) (show W.heap.size + 1 + 1 < _ by omega)).trans f2
      refine (wpIn_wide (n := 8)).1 ?_
      refine wpIn_rangeFunc_ownG (n := 8) rfl (by omega) (gf := 63) (lb := #[.pointer (some ⟨W.heap.size + 3, 0, none⟩)]) (by simp [Act.eval]) trivial (enters_of Try.func63 (by kernel_rfl) rfl)
        (back_stops 7 (by omega) (W.heap.size + 3) W4.heap.size gv cap ms hmsl W4 (by omega) (by omega) (Nat.le_refl _) hBox hrow) belowK_t (belowK_b (Nat.le_refl _)) (Below.refl _ _) (fun _ => rfl)
        (fun pre W' => (∀ i ∈ pre, getM (x.parts.getD i.1 []) n = none) ∧ Below W4.heap.size W4 W')
        (fun c pre W' => (c = .ret ∧ ∃ ini last v, pre = ini ++ [last] ∧ (∀ i ∈ ini, getM (x.parts.getD i.1 []) n = none) ∧ getM (x.parts.getD last.1 []) n = some v ∧ W'.cell? ⟨W.heap.size + 1, 0, none⟩ = some (.int .i64 v) ∧ W'.cell? ⟨W.heap.size + 1 + 1, 0, none⟩ = some (.int .i64 0)) ∧ Below W.heap.size W W')
        (OwnFrom.and (fun _ _ _ _ hs _ _ => hs) (ownFrom_below (Nat.le_refl _) (Nat.le_refl _)))
        (fun c => OwnFrom.and (Own.from (fun s A B row hs hg hr => by obtain ⟨hc, ini, last, v, e1, e2, e3, e4, e5⟩ := hs; exact ⟨hc, ini, last, v, e1, e2, e3, Go.cell_kept e4 hg hr, Go.cell_kept e5 hg hr⟩) _) (ownFrom_below (Nat.le_refl _) (by omega)))
        ⟨by simp, Below.refl _ _⟩
        (fun x => { tmps := #[.pointer (some ⟨g, 0, none⟩), .int .i64 tn, .int .i64 n, undef, undef, .pointer (some ⟨W.heap.size, 0, none⟩), .pointer (some ⟨W.heap.size + 1, 0, none⟩), .pointer (some ⟨W.heap.size + 1 + 1, 0, none⟩), .pointer (some ⟨gt, 0, none⟩), undef, .map (some (ms[x.1]'x.2)), undef, undef, undef, .pointer (some ⟨g, 0, none⟩), .int .i64 tn, .pointer (some ⟨gt, 0, none⟩), .pointer (some ⟨gt, 0, none⟩), .bool false, .bool false, .pointer (some ⟨g, 0, none⟩), .int .i64 n, .bool true, .bool false, .bool false, .pointer (some ⟨gt, 0, none⟩), .pointer (some ⟨gt, 0, none⟩), .pointer (some ⟨gt, 3, none⟩), .slice (some ⟨gv, 0, none⟩) ms.length cap, .func (.func 63) #[] #[.pointer (some ⟨W.heap.size + 3, 0, none⟩)], .int .i64 (x.1 : Nat), .map (some (ms[x.1]'x.2)), undef, undef, undef, undef, undef, undef, undef, undef, undef, undef, undef, undef, undef, undef, undef, undef, undef, undef, undef, undef, undef, undef, undef, undef, undef, undef, undef, undef, undef, undef, undef, undef, undef, undef, undef, undef, undef, undef, undef, undef, undef], defers := [] }) ?assign ?body ?done ?stop
      case assign =>
        intro l x W K hK
        gi_wp2
        exact hK
      case body =>
        rintro l pre y Wr ⟨hnone, hBr⟩ _
        have hm := (HHP.out y).move (hBr.block _ (HHP.out y).lt)
        have cr0 := (hBr.cell (p := ⟨W.heap.size, 0, none⟩) (show W.heap.size < _ by omega)).trans c40
        have cr1 := (hBr.cell (p := ⟨W.heap.size + 1, 0, none⟩) (show W.heap.size + 1 < _ by omega)).trans c41
        have cr2 := (hBr.cell (p := ⟨W.heap.size + 1 + 1, 0, none⟩) (show W.heap.size + 1 + 1 < _ by omega)).trans c42
        have fr1 := (hBr.frozen (p := ⟨W.heap.size + 1, 0, none⟩) (show W.heap.size + 1 < _ by omega)).trans f41
        have fr2 := (hBr.frozen (p := ⟨W.heap.size + 1 + 1, 0, none⟩) (show W.heap.size + 1 + 1 < _ by omega)).trans f42
        generalize hpy : x.parts.getD y.1 [] = py at hm
        have HPY := Aside0.mk hpy
        have HNN := Aside0.mk hnone
        have HBR := Aside0.mk hBr
        clear hpy hnone hBr HHP HX HE HH c40 c41 c42 f41 f42 hparts hrow
        cases hgm : getM py n with
        | none =>
          have HG := Aside0.mk hgm
          gi_wp2_with (gi_at_lookup; refine wpListIn_lookup_own_ok_int _ rfl _ _ 78 rfl 3 3 .i64 lawM Try.underlying78 Try.underlying3 (zeroM _) _ py.length _ rfl hm _ _ rfl (key_in hn) ?_; intro c hat hwc; rw [has_toD, HG.out]; clear hat hwc; simp only [Option.isSome_none])
          refine ⟨KeepsFrom.refl _ _, Below.refl _ _, fun i hi => ?_, HBR.out⟩
          rcases List.mem_append.1 hi with hi | hi
          · exact HNN.out i hi
          · rw [List.mem_singleton.1 hi, HPY.out]; exact HG.out
        | some v =>
          have HG := Aside0.mk hgm
          gi_wp2_with (gi_at_lookup; refine wpListIn_lookup_own_ok_int _ rfl _ _ 78 rfl 3 3 .i64 lawM Try.underlying78 Try.underlying3 (zeroM _) _ py.length _ rfl hm _ _ rfl (key_in hn) ?_; intro c hat hwc; have h2 := (at_toD py n).symm.trans hat; rw [HG.out] at h2; rw [has_toD, HG.out]; (obtain rfl : v = c := (Lit.int.inj (DataW.lit.inj h2)).2); clear hat hwc h2; simp only [Option.isSome_some])
          have b0r : Wr.heap[W.heap.size + 1]? = _ := ((HBR.out.mono (Nat.le_refl _)).block _ (by omega)).trans (hB4.block _ (by omega) |>.trans b1)
          have b1r : Wr.heap[W.heap.size + 1 + 1]? = _ := ((HBR.out.mono (Nat.le_refl _)).block _ (by omega)).trans (hB4.block _ (by omega) |>.trans b2)
          obtain ⟨r1, r2⟩ := two_set b0r b1r (.int .i64 v) (.int .i64 0)
          exact ⟨((KeepsOthers.setCell _ _ _).from _).trans ((KeepsOthers.setCell _ _ _).from _), ⟨rfl, pre, y, v, rfl, HNN.out, by rw [HPY.out]; exact HG.out, r1, r2⟩, two_below (hW4W.trans (HBR.out.mono (by omega))) (by omega) _ _⟩
      case done =>
        rintro D ys Wr hD rfl ⟨hnone, hBr⟩ hK
        have hh := hit_none HX.out.maps.len hnone
        have HE2 := Aside0.mk (show readE s tn n = if lookE s tn x.start n != 0 then (0, lookE s tn x.start n, s) else ((varE s n).value, 0, if x.reads.contains n then s else setTx s tn (some { x with reads := x.reads ++ [n] })) by rw [HE.out, hh])
        have hWr := hW4W.trans (hBr.mono (by omega))
        have hEr := HH.out.below hWr
        have hXr := HX.out.below (HH.out.below HB3.out) (hB4.trans (hBr.mono (by omega)))
        obtain ⟨i, rfl⟩ : ∃ i : Nat, n = i := ⟨n.toNat, by have := HN.out; omega⟩
        have hi : i < s.vars.length := by have := HN.out; omega
        have hlk := look_calls hEr tn (blk_cell hXr.blk 0) (hEr.own gt (by rw [hXr.role]; unfold rl; omega)).2 hi
        have cr0 := (hBr.cell (p := ⟨W.heap.size, 0, none⟩) (show W.heap.size < _ by omega)).trans c40
        have b0r : Wr.heap[W.heap.size + 1]? = _ := ((hBr.mono (Nat.le_refl _)).block _ (by omega)).trans (hB4.block _ (by omega) |>.trans b1)
        have b1r : Wr.heap[W.heap.size + 1 + 1]? = _ := ((hBr.mono (Nat.le_refl _)).block _ (by omega)).trans (hB4.block _ (by omega) |>.trans b2)
        have HK := Aside0.mk hK
        have HEr := Aside0.mk hEr
        have HXr := Aside0.mk hXr
        have HWr := Aside0.mk hWr
        have HB0 := Aside0.mk b0r
        have HB1 := Aside0.mk b1r
        have hszr : W4.heap.size ≤ Wr.heap.size := hBr.size
        have HD := Aside0.mk hD
        clear hK hEr hXr hWr b0r b1r HHP hparts hrow hh hnone HE hBr c40 c41 c42 f41 f42 hD hBox HX hB4 hW4W c0 c1 c2 f1 f2 b0 b1 b2
        go_wp2_with fail
        refine hlk.mono ?_; rintro e w1 ⟨rfl, hBl⟩
        clear hlk
        have cl0 := (hBl.cell (p := ⟨W.heap.size, 0, none⟩) (show W.heap.size < _ by omega)).trans cr0
        have HBl := Aside0.mk hBl
        generalize hf : lookE s tn x.start i = f at *
        clear hBl cr0
        have bl0 := (HBl.out.block _ (by omega)).trans HB0.out
        have bl1 := (HBl.out.block _ (by omega)).trans HB1.out
        have kl := (HBl.out.block _ (Array.getElem?_eq_some_iff.1 HK.out).1).trans HK.out
        by_cases hf0 : f = 0
        · have HE3 := Aside0.mk (show readE s tn i = ((varE s i).value, 0, if x.reads.contains (i : Int) then s else setTx s tn (some { x with reads := x.reads ++ [(i : Int)] })) by rw [HE2.out, hf0]; rfl)
          subst hf0
          clear hf HE2
          have HX1 := Aside0.mk (HXr.out.below HEr.out HBl.out)
          have HE1 := Aside0.mk (HEr.out.below HBl.out)
          obtain ⟨Ar, cr, rfl⟩ := Kd.N_slice HX1.out.reads
          have hct := contains_calls HX1.out.reads i HPX.out.2.2
          have kx2 := blk_cell HX1.out.blk 2
          have fx2 := blk_frozen HX1.out.blk 2
          have kg1 := HE1.out.cell1
          have rv := rowV_at HE1.out.vars hi
          clear HB0 HB1 HK
          go_wp2_with fail
          have hct2 := contains_calls (Kd.N_drew HX1.out.reads) i HPX.out.2.2
          obtain ⟨gu, cu, rfl, hcu, cv0, _, _, _⟩ := rv
          have HL := Aside0.mk bl0
          have HL1 := Aside0.mk bl1
          have HK1 := Aside0.mk kl
          have cl1 := blk_cell bl0 0
          have cl2 := blk_cell bl1 0
          have fl1 := blk_frozen bl0 0
          have fl2 := blk_frozen bl1 0
          clear bl0 bl1 kl hct
          cases hq : x.reads.contains (i : Int) with
          | true =>
            have HE4 := Aside0.mk (show readE s tn i = (s.vars[i].value, 0, s) by rw [HE3.out, hq, varE_at hi]; rfl)
            rw [hq] at hct2
            clear hq HE3
            generalize s.vars[i].value = y at *
            refine wp_region_noPanic ?_
            go_region_law (go_simp; refine hct2.mono ?_; rintro e w' ⟨rfl, rfl⟩)
            all_goals
              refine NoPanic.normal ?_
              go_wp2_with fail
              refine wp_region_noPanic ?_
              go_region_law (fail)
              all_goals
                refine NoPanic.normal ?_
                go_wp2_with fail
                obtain ⟨r1, r2⟩ := two_set HL.out HL1.out (.int .i64 y) (.int .i64 0)
                have hKf := (KeepsOthers.setCell (w1.drew.drew.setCell ⟨W.heap.size + 1, 0, none⟩ (.int .i64 y)) ⟨W.heap.size + 1 + 1, 0, none⟩ (.int .i64 0)).same D _ ((KeepsOthers.setCell w1.drew.drew ⟨W.heap.size + 1, 0, none⟩ (.int .i64 y)).same D _ HK1.out rfl) rfl
                refine ⟨by simp, .inl ⟨_, _, rfl, run_takeDeferred hKf, ?_⟩⟩
                have q4 := Go.cell_kept (W := ((w1.setCell ⟨W.heap.size + 1, 0, none⟩ (.int .i64 y)).setCell ⟨W.heap.size + 1 + 1, 0, none⟩ (.int .i64 0)).drew.drew) r1 (grownBy_putObj' _ D (.deferred none)) (fun r e => by cases e; exact ⟨_, hKf, rfl⟩)
                have q5 := Go.cell_kept (W := ((w1.setCell ⟨W.heap.size + 1, 0, none⟩ (.int .i64 y)).setCell ⟨W.heap.size + 1 + 1, 0, none⟩ (.int .i64 0)).drew.drew) r2 (grownBy_putObj' _ D (.deferred none)) (fun r e => by cases e; exact ⟨_, hKf, rfl⟩)
                refine ⟨.tuple #[.int .i64 y, .int .i64 0], by simp [results, Try.results16, go_sem, q4, q5], ?_⟩
                rw [HE4.out]
                exact ⟨rfl, EngPost.same HH.out ((two_below (below_drew (below_drew (HWr.out.trans (HBl.out.mono (by have := HWr.out.size; omega))))) (by omega) _ _).trans (belowK_b (w := W) (Nat.le_refl _) _ D _ _ (by have := HD.out; omega) hKf rfl rfl))⟩
          | false =>
            have HE4 := Aside0.mk (show readE s tn i = (s.vars[i].value, 0, setTx s tn (some { x with reads := x.reads ++ [(i : Int)] })) by rw [HE3.out, hq, varE_at hi]; rfl)
            rw [hq] at hct2
            clear hq HE3
            generalize s.vars[i].value = y at *
            have HGT := Aside0.mk (HE1.out.own gt (by rw [HX1.out.role]; unfold rl; omega)).2
            have HGU := Aside0.mk (show gu < w1.heap.size ∧ ρ gu = 2 from ⟨(HE1.out.own gu (by rw [HE1.out.vars.1 gu rfl]; omega)).2, HE1.out.vars.1 gu rfl⟩)
            have hw1s : Wr.heap.size ≤ w1.heap.size := HBl.out.size
            have HZ := Aside0.mk (show ∀ k, W.heap.size ≤ k → ρ k = 0 from fun k hk => by
              by_cases e : ρ k = 0
              · exact e
              · have := HH.out.own k e; omega)
            have n0 := World.new_ne w1 _ kx2
            have kx2a : ∀ o : Obj, (w1.alloc o).cell? ⟨gt, 2, none⟩ = _ := fun o => (World.cell?_alloc_lt w1 o _ (World.block_lt_of_cell? _ _ kx2)).trans kx2
            have hgu : gu ≠ gt := fun e => by
              have h1 := HGU.out.2
              rw [e, HX1.out.role] at h1
              unfold rl at h1; omega
            refine wp_region_noPanic ?_
            go_region_law (go_simp; refine hct2.mono ?_; rintro e w' ⟨rfl, rfl⟩)
            all_goals
              refine NoPanic.normal ?_
              go_wp2_with fail
              refine wp_region_noPanic ?_
              go_region_law (refine Kd.N_append_step kI (w0 := w1) (W := w1.drew.drew) base (by rfl) (.tmp 59) (.tmp 61) 29 3 (.int .i64 0) 8 rfl Try.underlying29 info3 rfl (by decide) (by omega) (.slice Ar x.reads.length cr) x.reads (i : Int) [.int .i64 (i : Int)] (fun _ => True) (fun _ => False) (by simp [Act.eval, Act.put]) (by simp [Act.eval, Act.put]) ?aP (fun _ hk => hk.elim) (fun _ _ => trivial) ?aO ?aB ?aS ?aL ?_; (case aP => exact fun W' _ => rfl); (case aO => exact Kd.N_drew (Kd.N_drew (Kd.N_mono HX1.out.reads (fun _ _ => trivial)))); (case aB => exact below_drew (below_drew (Below.refl _ _))); (case aS => exact HE1.out.base_le); (case aL => have := HPX.out.2.2; omega); intro v1 w2 ho hb hg hat; have HN2 := Aside0.mk ho; have HB2 := Aside0.mk hb; have HG2 := Aside0.mk hg; have HA2 := Aside0.mk hat; clear ho hb hg hat; obtain ⟨A1, c1, e1⟩ := Kd.N_slice HN2.out; subst e1; have d2 := read_cells HE1.out HX1.out HG2.out.size (fun k hk hne => HG2.out.block k hk hne) gt 2 _ HGT.out (by rw [HX1.out.role]; unfold rl; omega) kx2; have g2 := read_frozen HX1.out HG2.out.size (fun k hk hne => HG2.out.block k hk hne) HGT.out (by rw [HX1.out.role]; unfold rl; omega) fx2)
              all_goals
                refine NoPanic.normal ?_
                obtain ⟨w3, hw3⟩ : ∃ w3, w2.setCell ⟨gt, 2, none⟩ (.slice A1 (x.reads.length + 1) c1) = w3 := ⟨_, rfl⟩
                rw [hw3]
                have hb3 : ∀ k, k < w1.heap.size → ρ k ≠ rl tn 1 → k ≠ gt → w3.heap[k]? = w1.heap[k]? := fun k hk hr hne => by
                  rw [← hw3]; exact (Below.heap_setCell w2 ⟨gt, 2, none⟩ _ k hne).trans (HG2.out.block k hk (fun e => hr (HX1.out.reads.1 k e.symm)))
                have hs3 : w1.heap.size ≤ w3.heap.size := by rw [← hw3, setCell_size]; exact HG2.out.size
                have HP := HE1.out.push_reads ht hcc HX1.out HN2.out HB2.out ⟨HG2.out.os, HG2.out.tape, HG2.out.output, HG2.out.size, HG2.out.block⟩ HA2.out
                rw [show (x.reads ++ [(i : Int)]).length = x.reads.length + 1 from by simp, hw3] at HP
                have HPP := Aside0.mk HP
                have hgtW : gt < W.heap.size := (HH.out.own gt (by rw [HX1.out.role]; unfold rl; omega)).2
                have z1 : ρ (W.heap.size + 1) ≠ rl tn 1 := by rw [HZ.out _ (by omega)]; unfold rl; omega
                have z2 : ρ (W.heap.size + 1 + 1) ≠ rl tn 1 := by rw [HZ.out _ (by omega)]; unfold rl; omega
                have z0 : ρ W.heap.size ≠ rl tn 1 := by rw [HZ.out _ (by omega)]; unfold rl; omega
                have zD : ρ D ≠ rl tn 1 := by rw [HZ.out _ (by have := HD.out; omega)]; unfold rl; omega
                have hDl : D < w1.heap.size := (Array.getElem?_eq_some_iff.1 HK1.out).1
                have M1 := Aside0.mk ((hb3 (W.heap.size + 1) (by omega) z1 (by omega)).trans HL.out)
                have M2 := Aside0.mk ((hb3 (W.heap.size + 1 + 1) (by omega) z2 (by omega)).trans HL1.out)
                have MD := Aside0.mk ((hb3 D hDl zD (by have := HD.out; omega)).trans HK1.out)
                have e0 := cell_of_heap (hb3 W.heap.size (by omega) z0 (by omega)) cl0
                have e1 := cell_of_heap (hb3 g HE1.out.g_lt.2 (by rw [HE1.out.role]; unfold rl; omega) (fun e => by have h1 := HE1.out.role; rw [e, HX1.out.role] at h1; unfold rl at h1; omega)) kg1
                have e2 := cell_of_heap (hb3 gu HGU.out.1 (by rw [HGU.out.2]; unfold rl; omega) hgu) cv0
                have m1 := blk_cell M1.out 0
                have m2 := blk_cell M2.out 0
                have m3 := blk_frozen M1.out 0
                have m4 := blk_frozen M2.out 0
                have HSZ := Aside0.mk hs3
                clear hw3 hb3 HP z0 z1 z2 zD d2 g2 cl0 cl1 cl2 fl1 fl2 kx2 fx2 kx2a n0 kg1 cv0 HN2 HB2 HG2 HA2 hct2
                go_wp2_with fail
                refine wp_region_noPanic ?_
                go_region_law (fail)
                all_goals
                  refine NoPanic.normal ?_
                  go_wp2_with fail
                  obtain ⟨r1, r2⟩ := two_set M1.out M2.out (.int .i64 y) (.int .i64 0)
                  have hKf := (KeepsOthers.setCell (w3.drew.setCell ⟨W.heap.size + 1, 0, none⟩ (.int .i64 y)) ⟨W.heap.size + 1 + 1, 0, none⟩ (.int .i64 0)).same D _ ((KeepsOthers.setCell w3.drew ⟨W.heap.size + 1, 0, none⟩ (.int .i64 y)).same D _ MD.out rfl) rfl
                  refine ⟨by simp, .inl ⟨_, _, rfl, run_takeDeferred hKf, ?_⟩⟩
                  have q4 := Go.cell_kept (W := ((w3.setCell ⟨W.heap.size + 1, 0, none⟩ (.int .i64 y)).setCell ⟨W.heap.size + 1 + 1, 0, none⟩ (.int .i64 0)).drew) r1 (grownBy_putObj' _ D (.deferred none)) (fun r e => by cases e; exact ⟨_, hKf, rfl⟩)
                  have q5 := Go.cell_kept (W := ((w3.setCell ⟨W.heap.size + 1, 0, none⟩ (.int .i64 y)).setCell ⟨W.heap.size + 1 + 1, 0, none⟩ (.int .i64 0)).drew) r2 (grownBy_putObj' _ D (.deferred none)) (fun r e => by cases e; exact ⟨_, hKf, rfl⟩)
                  refine ⟨.tuple #[.int .i64 y, .int .i64 0], by simp [results, Try.results16, go_sem, q4, q5], ?_⟩
                  rw [HE4.out]
                  have hbase := HH.out.base_le
                  have hD := HD.out
                  refine ⟨rfl, EngPost.scratch (HWr.out.trans (HBl.out.mono (by have := HWr.out.size; omega))) hbase (fun k hk => (HH.out.own k hk).2) HPP.out ?_ ?_⟩
                  · exact Kept.of_grown (grownBy_putObj' _ D _) (Kept.setCell (Kept.setCell (Kept.refl w3 _).drew (p := ⟨W.heap.size + 1, 0, none⟩) (.inl ⟨by show _ ≤ W.heap.size + 1; omega, by show W.heap.size + 1 < _; omega⟩) _) (p := ⟨W.heap.size + 1 + 1, 0, none⟩) (.inl ⟨by show _ ≤ W.heap.size + 1 + 1; omega, by show W.heap.size + 1 + 1 < _; omega⟩) _) (fun k e => by injection e with e; subst e; exact .inl ⟨by omega, hDl⟩)
                  · exact (two_below (below_drew (Below.refl _ w3)) (by omega) _ _).grown (grownBy_putObj' _ D _) (by have := HSZ.out; simp; omega) (fun k e => by injection e with e; omega)
        · have HE3 := Aside0.mk (show readE s tn i = (0, f, s) by rw [HE2.out]; simp [hf0])
          clear HE2 hf
          have HL := Aside0.mk bl0
          have HL1 := Aside0.mk bl1
          have HK1 := Aside0.mk kl
          have cl1 := blk_cell bl0 0
          have cl2 := blk_cell bl1 0
          have fl1 := blk_frozen bl0 0
          have fl2 := blk_frozen bl1 0
          clear bl0 bl1 kl
          go_wp2
          obtain ⟨r1, r2⟩ := two_set HL.out HL1.out (.int .i64 0) (.int .i64 f)
          have hKf := (KeepsOthers.setCell (w1.setCell ⟨W.heap.size + 1, 0, none⟩ (.int .i64 0)) ⟨W.heap.size + 1 + 1, 0, none⟩ (.int .i64 f)).same D _ ((KeepsOthers.setCell w1 ⟨W.heap.size + 1, 0, none⟩ (.int .i64 0)).same D _ HK1.out rfl) rfl
          refine ⟨by simp, .inl ⟨_, _, rfl, run_takeDeferred hKf, ?_⟩⟩
          have q4 := Go.cell_kept r1 (grownBy_putObj' _ D (.deferred none)) (fun r e => by cases e; exact ⟨_, hKf, rfl⟩)
          have q5 := Go.cell_kept r2 (grownBy_putObj' _ D (.deferred none)) (fun r e => by cases e; exact ⟨_, hKf, rfl⟩)
          refine ⟨.tuple #[.int .i64 0, .int .i64 f], by simp [results, Try.results16, go_sem, q4, q5], ?_⟩
          rw [HE3.out]
          exact ⟨rfl, EngPost.same HH.out ((two_below (HWr.out.trans (HBl.out.mono (by have := HWr.out.size; omega))) (by omega) _ _).trans (belowK_b (w := W) (Nat.le_refl _) _ D _ _ (by have := HD.out; omega) hKf rfl rfl))⟩
      case stop =>
        rintro D c pre Wr hD hpre ⟨⟨rfl, ini, last, v, rfl, e2, e3, e4, e5⟩, hBr⟩ hK
        have hh := hit_stop HX.out.maps.len hpre e2 e3
        have HE2 := Aside0.mk (show readE s tn n = (v, 0, s) by rw [HE.out, hh])
        gi_wp2
        refine ⟨by simp, .inl ⟨_, _, rfl, run_takeDeferred hK, ?_⟩⟩
        have q4 := Go.cell_kept e4 (grownBy_putObj' _ D (.deferred none)) (fun r e => by cases e; exact ⟨_, hK, rfl⟩)
        have q5 := Go.cell_kept e5 (grownBy_putObj' _ D (.deferred none)) (fun r e => by cases e; exact ⟨_, hK, rfl⟩)
        refine ⟨.tuple #[.int .i64 v, .int .i64 0], by simp [results, Try.results16, go_sem, q4, q5], ?_⟩
        rw [HE2.out]
        exact ⟨rfl, EngPost.same HH.out (hBr.trans (belowK_b (w := W) (Nat.le_refl _) Wr D _ _ (by omega) hK rfl rfl))⟩
end
end Go.Proofs.Ytcnbgamalhfkmaa.P
