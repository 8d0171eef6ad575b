/- tl2: the document's engine: Read. -/
import Derived.Test.YtcnbgamalhfkmaaMG
namespace Go.Proofs.Ytcnbgamalhfkmaa.P
open Go.RowKit Go.Proofs.YtcnbgamalhfkmaaW.PrintWords Go.Proofs.YtcnbgamalhfkmaaW.PrintLast Go.Proofs.YtcnbgamalhfkmaaW.PrintMore
set_option linter.unusedVariables false
set_option linter.unusedSimpArgs false
open Go.WideShapes Go.Maps
attribute [local go_sem] Oper.semAt_some
theorem bestP_step {n : Int} {b : Option RPut} {l : List RPut} {i : Nat} (hi : i < l.length) (ha : bestP n none l = bestP n b (l.drop i)) {b' : Option RPut} (hb : (if betterP n b l[i] then some l[i] else b) = b') : bestP n none l = bestP n b' (l.drop (i + 1)) := by
  rw [ha, List.drop_eq_getElem_cons hi, ← hb]
  rfl
theorem readR_shut {s : REng} {t n : Int} (h : openR s t = false ∨ isR s n = false) : readR s t n = (0, 1, s) := by
  unfold readR
  rw [if_pos]
  rcases h with h | h <;> simp [h]
theorem readR_hit {s : REng} {t n : Int} (h1 : openR s t = true) (h2 : isR s n = true) {p : RPut} (h3 : bestP n none (txR s t).puts = some p) : readR s t n = (p.v, 0, s) := by
  unfold readR
  rw [if_neg (by simp [h1, h2]), h3]
theorem readR_miss {s : REng} {t n : Int} (h1 : openR s t = true) (h2 : isR s n = true) (h3 : bestP n none (txR s t).puts = none) : readR s t n = if lookR s t n != 0 then (0, lookR s t n, s) else ((varR s n).value, 0, if (txR s t).reads.contains n then s else setTR s t { txR s t with reads := (txR s t).reads ++ [n] }) := by
  unfold readR
  rw [if_neg (by simp [h1, h2]), h3]
section
variable {W : World} {base : Nat} {σ : Nat → Nat} {a : Nat} {s : REng} {V : Value} {gt : Nat} {tc : Array Value}
theorem RCells.below {t : Nat} {x : RTx} {rd pu : Value} (hc : RCells W base σ t gt tc x rd pu) {W' : World} (hb : Below W.heap.size W W') : RCells W' base σ t gt tc x rd pu := by
  have k := fun {p : Addr} {v : Value} (h : W.cell? p = some v) => pw_cell_below hb h
  refine ⟨hc.all, Kd.N_below hc.reads hb, Kd.N_below hc.puts hb, fun j => ?_, k hc.c0, k hc.c1, k hc.c2, k hc.c3, k hc.c4, k hc.c5, k hc.c6, k hc.c7⟩
  have := hb.frozen (p := ⟨gt, t * 8 + j, none⟩) (show gt < W.heap.size from World.block_lt_of_cell? W ⟨gt, t * 8, none⟩ hc.c0)
  rw [this]; exact hc.froz j
theorem RefAt.tblk_grownR (h : RefAt W base σ a s V gt tc) {t : Nat} {x : RTx} {rd pu : Value} (hc : RCells W base σ t gt tc x rd pu) {w1 : World} (hg : W.grownBy w1 rd.ownBlock) : w1.heap[gt]? = some (.cells tc 51 (0, 0)) :=
  (hg.block gt (h.own gt (by rw [h.trole]; omega)).2 (fun e => by have := hc.reads.1 gt e.symm; have := h.trole; omega)).trans h.tblk
theorem RefAt.blk_grownR (h : RefAt W base σ a s V gt tc) {t : Nat} {x : RTx} {rd pu : Value} (hc : RCells W base σ t gt tc x rd pu) {w1 : World} (hg : W.grownBy w1 rd.ownBlock) : w1.heap[a]? = some (.cells #[.int .i64 s.clock, V, .slice (some ⟨gt, 0, none⟩) 8 8] 55 (0, 0)) :=
  (hg.block a (h.own a (by rw [h.role]; omega)).2 (fun e => by have := hc.reads.1 a e.symm; have := h.role; omega)).trans h.blk
theorem RefAt.var_grownR {gu n cu : Nat} (h : RefAt W base σ a s (.slice (some ⟨gu, 0, none⟩) n cu) gt tc) {t : Nat} {x : RTx} {rd pu : Value} (hc : RCells W base σ t gt tc x rd pu) {w1 : World} (hg : W.grownBy w1 rd.ownBlock) {i : Nat} {v : Value} (hv : W.cell? ⟨gu, i, none⟩ = some v) : w1.cell? ⟨gu, i, none⟩ = some v := by
  have hu := h.vars.1 gu rfl
  have := hg.block gu (h.own gu (by omega)).2 (fun e => by have := hc.reads.1 gu e.symm; omega)
  rw [← hv]
  simp [World.cell?, this]
set_option maxHeartbeats 8000000 in
set_option maxRecDepth 100000 in
theorem rread_calls (h : RefAt W base σ a s V gt tc) (t n : Int) (hp : openR s t = true → (txR s t).puts.length ≤ 100000 ∧ (txR s t).reads.length ≤ 100000) : Calls Try.prog 47 #[.pointer (some ⟨a, 0, none⟩), .int .i64 t, .int .i64 n] W fun e w' => e = .returned (.tuple #[.int .i64 (readR s t n).1, .int .i64 (readR s t n).2.1]) ∧ RefPost W base σ a (readR s t n).2.2 w' := by
  have HH := Aside0.mk h
  have hop := ropen_calls h t
  have his := ris_calls h n
  cases hb : openR s t with
  | false =>
    have HE := Aside0.mk (readR_shut (n := n) (.inl hb))
    rw [hb] at hop
    generalize isR s n = q at his
    clear h hp
    go_enter Try.func47, Try.ntmps47
    go_wp2_with fail
    refine hop.mono ?_; rintro e w' ⟨rfl, rfl⟩
    clear hop
    go_wp2_with fail
    refine his.mono ?_; rintro e w' ⟨rfl, rfl⟩
    clear his
    go_wp2
    go_ret2
    exact ⟨by rw [HE.out]; rfl, by rw [HE.out]; exact RefPost.refl HH.out⟩
  | true =>
    cases hb2 : isR s n with
    | false =>
      have HE := Aside0.mk (readR_shut (t := t) (.inr hb2))
      rw [hb] at hop
      rw [hb2] at his
      clear h hp
      go_enter Try.func47, Try.ntmps47
      go_wp2_with fail
      refine hop.mono ?_; rintro e w' ⟨rfl, rfl⟩
      clear hop
      go_wp2_with fail
      refine his.mono ?_; rintro e w' ⟨rfl, rfl⟩
      clear his
      go_wp2
      go_ret2
      exact ⟨by rw [HE.out]; rfl, by rw [HE.out]; exact RefPost.refl HH.out⟩
    | true =>
      obtain ⟨tn, rfl, ht⟩ := openR_in hb
      obtain ⟨hpp, hrr⟩ := hp hb
      have ht8 : (tn : Int) < 8 := by omega
      have hn2 := isR_iff.1 hb2
      obtain ⟨m, rfl⟩ : ∃ m : Nat, n = m := ⟨n.toNat, by omega⟩
      have hm : m < s.vars.length := by omega
      obtain ⟨rd, pu, hc⟩ := h.cells ht
      obtain ⟨x, hx⟩ : ∃ x, txR s tn = x := ⟨_, rfl⟩
      have HHit := Aside0.mk (fun p hp => readR_hit (p := p) hb hb2 hp)
      have HMiss := Aside0.mk (readR_miss hb hb2)
      rw [hx] at HHit HMiss hc hpp hrr
      rw [hb] at hop
      rw [hb2] at his
      have k2 := h.cell2
      have k1 := h.cell1
      have HX := Aside0.mk hx
      obtain ⟨A, c, rfl⟩ := Kd.N_slice hc.puts
      have HC := Aside0.mk hc
      have c3 := hc.c3
      clear h hp hc hx hb hb2
      go_enter Try.func47, Try.ntmps47
      go_wp2_with fail
      refine hop.mono ?_; rintro e w' ⟨rfl, rfl⟩
      clear hop
      go_wp2_with fail
      refine his.mono ?_; rintro e w' ⟨rfl, rfl⟩
      clear his
      go_wp2
      go_loopg [10, 11, 12] x.puts.length (fun gg s10 s11 _ wr => ∃ (i : Nat) (b : Option RPut), i ≤ x.puts.length ∧ x.puts.length - i ≤ gg ∧ s11 = .int .i64 i ∧ ((b = none ∧ s10 = .int .i64 (-1)) ∨ ∃ (j : Nat) (hj : j < x.puts.length), s10 = .int .i64 j ∧ b = some x.puts[j]) ∧ Aside0 (Below W.heap.size W wr) ∧ Aside0 (bestP m none x.puts = bestP m b (x.puts.drop i)))
      case atStart => exact ⟨0, none, Nat.zero_le _, by omega, rfl, .inl ⟨rfl, rfl⟩, ⟨Below.refl _ _⟩, ⟨rfl⟩⟩
      case round =>
        obtain ⟨i, b, hi, hg, rfl, hbest, HB, HA⟩ := hrel
        have k2r := pw_cell_below HB.out k2
        have c3r := pw_cell_below HB.out c3
        by_cases hlt : i < x.puts.length
        · have hltz : (i : Int) < (x.puts.length : Int) := by omega
          obtain ⟨gv, cap', e, hcap, c0, c1, c2, cf⟩ := rowW_at (HC.out.below HB.out).puts hlt
          cases e
          clear cf
          go_upto_region 10 with (fail)
          have hb3 := below_1 wr (.cells #[.int .i64 x.puts[i].n, .int .i64 x.puts[i].v, .int .i64 x.puts[i].part] 61)
          have hk3 := blk_new wr (.cells #[.int .i64 x.puts[i].n, .int .i64 x.puts[i].v, .int .i64 x.puts[i].part] 61)
          have HB3 := Aside0.mk (show Below W.heap.size W _ from HB.out.trans (hb3.mono HB.out.size))
          have k2s := pw_cell_below hb3 k2r
          have c3s := pw_cell_below hb3 c3r
          have p0 := blk_cell hk3 0
          have p2 := blk_cell hk3 2
          have hNs := (HC.out.below HB3.out).puts
          generalize wr.alloc (.cells #[.int .i64 x.puts[i].n, .int .i64 x.puts[i].v, .int .i64 x.puts[i].part] 61) = w3 at *
          clear hb3 hk3 k2r c3r c0 c1 c2 HB
          cases e1 : x.puts[i].n == (m : Int) with
          | false =>
            have HS2 := Aside0.mk (bestP_step hlt HA.out (b' := b) (by rw [if_neg]; unfold betterP; rw [e1]; simp))
            clear hNs HA
            generalize x.puts[i].n = yn at *
            generalize x.puts[i].part = yp at *
            rcases hbest with ⟨rfl, rfl⟩ | ⟨j, hj, rfl, rfl⟩
            · go_quiet (fail)
              go_wp2
              go_roundg (x.puts.length - (i + 1))
              case measure => omega
              case rel => exact ⟨i + 1, none, by omega, by omega, by go_num, .inl ⟨rfl, rfl⟩, ⟨pw_below_drewN HB3.out _⟩, ⟨HS2.out⟩⟩
            · go_quiet (fail)
              go_wp2
              go_roundg (x.puts.length - (i + 1))
              case measure => omega
              case rel => exact ⟨i + 1, _, by omega, by omega, by go_num, .inr ⟨j, hj, rfl, rfl⟩, ⟨pw_below_drewN HB3.out _⟩, ⟨HS2.out⟩⟩
          | true =>
            rcases hbest with ⟨rfl, rfl⟩ | ⟨j, hj, rfl, rfl⟩
            · have HS2 := Aside0.mk (bestP_step hlt HA.out (b' := some x.puts[i]) (by rw [if_pos]; unfold betterP; rw [e1]; rfl))
              clear hNs HA
              generalize x.puts[i].n = yn at *
              generalize x.puts[i].part = yp at *
              go_quiet (fail)
              go_wp2
              go_roundg (x.puts.length - (i + 1))
              case measure => omega
              case rel => exact ⟨i + 1, _, by omega, by omega, by go_num, .inr ⟨i, hlt, rfl, rfl⟩, ⟨pw_below_drewN HB3.out _⟩, ⟨HS2.out⟩⟩
            · obtain ⟨_, _, e, _, _, _, d2, _⟩ := rowW_at hNs hj
              cases e
              have hjz : (j : Int) < (x.puts.length : Int) := by omega
              by_cases e3 : x.puts[j].part < x.puts[i].part
              · have HS2 := Aside0.mk (bestP_step hlt HA.out (b' := some x.puts[i]) (by rw [if_pos]; unfold betterP; rw [e1]; simpa using e3))
                clear hNs HA
                generalize x.puts[i].n = yn at *
                generalize x.puts[i].part = yp at *
                generalize x.puts[j].part = zp at *
                go_quiet (fail)
                go_wp2
                go_roundg (x.puts.length - (i + 1))
                case measure => omega
                case rel => exact ⟨i + 1, _, by omega, by omega, by go_num, .inr ⟨i, hlt, rfl, rfl⟩, ⟨pw_below_drewN HB3.out _⟩, ⟨HS2.out⟩⟩
              · have HS2 := Aside0.mk (bestP_step hlt HA.out (b' := some x.puts[j]) (by rw [if_neg]; unfold betterP; rw [e1]; simpa using e3))
                clear hNs HA
                generalize x.puts[i].n = yn at *
                generalize x.puts[i].part = yp at *
                generalize hzp : x.puts[j].part = zp at *
                go_quiet (fail)
                go_wp2
                go_roundg (x.puts.length - (i + 1))
                case measure => omega
                case rel => exact ⟨i + 1, _, by omega, by omega, by go_num, .inr ⟨j, hj, rfl, rfl⟩, ⟨pw_below_drewN HB3.out _⟩, ⟨HS2.out⟩⟩
        · have hltz : ¬ (i : Int) < (x.puts.length : Int) := by omega
          have hA : bestP m none x.puts = b := by rw [HA.out, List.drop_eq_nil_of_le (by omega)]; rfl
          clear HA
          rcases hbest with ⟨rfl, rfl⟩ | ⟨j, hj, rfl, rfl⟩
          · have HR := Aside0.mk (HMiss.out hA)
            clear HHit HMiss hA
            have hl := rlook_calls (HH.out.below HB.out) ht hm
            have HB1 := HB
            obtain ⟨f, hf⟩ : ∃ f, lookR s tn m = f := ⟨_, rfl⟩
            rw [hf] at hl HR
            clear hf
            go_wp2_with fail
            refine hl.mono ?_; rintro e w4 ⟨rfl, hB4⟩
            have HB4 := Aside0.mk (HB1.out.trans (hB4.mono HB1.out.size))
            clear hl hB4 HB1 HB k2r c3r
            by_cases hf0 : f = 0
            · subst hf0
              have HE4 := Aside0.mk (HH.out.below HB4.out)
              have HC4 := Aside0.mk (HC.out.below HB4.out)
              have q1 := HE4.out.cell1
              have q2 := HE4.out.cell2
              have q3 := HC4.out.c2
              obtain ⟨Ar, cr, rfl⟩ := Kd.N_slice HC4.out.reads
              obtain ⟨gu, cu, rfl, hcu, v0, _, _, _⟩ := rowR_at HE4.out.vars hm
              have hmz : (m : Int) < (s.vars.length : Int) := by omega
              have HR2 := Aside0.mk (show readR s tn m = (s.vars[m].value, 0, if x.reads.contains (m : Int) then s else setTR s tn { txR s tn with reads := x.reads ++ [(m : Int)] }) by
                rw [HR.out, varR_at hm, ← HX.out]; rfl)
              generalize s.vars[m].value = val at *
              clear HR
              go_wp2
              go_loopg [14] x.reads.length (fun gg s14 wr => ∃ i : Nat, i ≤ x.reads.length ∧ x.reads.length - i ≤ gg ∧ s14 = .int .i64 i ∧ w4 = wr ∧ Aside0 (x.reads.contains (m : Int) = (x.reads.drop i).contains (m : Int)))
              case atStart => exact ⟨0, Nat.zero_le _, by omega, rfl, rfl, ⟨rfl⟩⟩
              case round =>
                obtain ⟨i, hi, hg, rfl, rfl, HA⟩ := hrel
                by_cases hlt : i < x.reads.length
                · have hltz : (i : Int) < (x.reads.length : Int) := by omega
                  obtain ⟨gr, cap', e, hcap, c0⟩ := rowI_at HC4.out.reads hlt
                  cases e
                  have hdr : (x.reads.drop i).contains (m : Int) = ((m : Int) == x.reads[i] || (x.reads.drop (i + 1)).contains (m : Int)) := by rw [List.drop_eq_getElem_cons hlt, List.contains_cons]
                  have HA2 := Aside0.mk (HA.out.trans hdr)
                  clear hdr HA
                  generalize x.reads[i] = y at *
                  by_cases hy : y = (m : Int)
                  · subst hy
                    have HR3 := Aside0.mk (show readR s tn m = (val, 0, s) by rw [HR2.out, HA2.out]; simp)
                    clear HR2 HA2
                    go_wp2
                    go_ret2
                    rw [HR3.out]
                    exact ⟨rfl, RefPost.same HH.out HB4.out⟩
                  · have HA3 := Aside0.mk (show x.reads.contains (m : Int) = (x.reads.drop (i + 1)).contains (m : Int) by rw [HA2.out, beq_eq_false_iff_ne.2 (fun e => hy e.symm)]; rfl)
                    have hy2 : (y == (m : Int)) = false := beq_eq_false_iff_ne.2 hy
                    clear HA2
                    go_wp2
                    go_roundg (x.reads.length - (i + 1))
                    case measure => omega
                    case rel => exact ⟨i + 1, by omega, by omega, by go_num, rfl, HA3⟩
                · have hltz : ¬ (i : Int) < (x.reads.length : Int) := by omega
                  have HR3 := Aside0.mk (show readR s tn m = (val, 0, setTR s tn { txR s tn with reads := x.reads ++ [(m : Int)] }) by rw [HR2.out, HA.out, List.drop_eq_nil_of_le (by omega)]; rfl)
                  clear HR2 HA
                  go_upto_region 22 with (fail)
                  have n0 := World.new_ne w4 _ q2
                  have n1 := World.new_ne w4 _ q3
                  have q3a : ∀ o : Obj, (w4.alloc o).cell? ⟨gt, tn * 8 + 2, none⟩ = _ := fun o => (World.cell?_alloc_lt w4 o _ (World.block_lt_of_cell? _ _ q3)).trans q3
                  have q2a : ∀ o : Obj, (w4.alloc o).cell? ⟨a, 2, none⟩ = _ := fun o => (World.cell?_alloc_lt w4 o _ (World.block_lt_of_cell? _ _ q2)).trans q2
                  have HD := Aside0.mk (show RefAt w4.drew base σ a s _ gt tc from HE4.out.below (below_drew (Below.refl _ _)))
                  have HCD := Aside0.mk (HC4.out.below (below_drew (Below.refl _ _)))
                  have hag : a ≠ gt := fun e => by have h1 := HD.out.role; have h2 := HD.out.trole; rw [e] at h1; omega
                  have hug : gu ≠ gt := fun e => by have h1 := HD.out.vars.1 gu rfl; have h2 := HD.out.trole; rw [e] at h1; omega
                  go_region_law (refine Kd.N_append_step kI (w0 := w4.drew) (W := w4.drew) base (by rfl) (.tmp 144) (.tmp 146) 29 3 (.int .i64 0) 8 rfl Try.underlying29 info3 rfl (by decide) (by omega) (.slice Ar x.reads.length cr) x.reads (m : Int) [.int .i64 (m : Int)] (fun _ => True) (fun _ => False) (by simp [Act.eval, Act.put]) (by simp [Act.eval, Act.put]) ?aP (fun _ hk => hk.elim) (fun _ _ => trivial) ?aO ?aB ?aS ?aL ?_; (case aP => exact fun W' _ => rfl); (case aO => exact Kd.N_mono HCD.out.reads (fun _ _ => trivial)); (case aB => exact Below.refl _ _); (case aS => exact HD.out.base_le); (case aL => omega); intro v1 w1 ho hb hg hat; have HN := Aside0.mk ho; have HB := Aside0.mk hb; have HG := Aside0.mk hg; have HA := Aside0.mk hat; clear ho hb hg hat; obtain ⟨A1, c1, e1⟩ := Kd.N_slice HN.out; subst e1; have hb1 := HD.out.tblk_grownR HCD.out HG.out; have j3 := (blk_cell hb1 (tn * 8 + 2)).trans ((blk_cell HD.out.tblk _).symm.trans HCD.out.c2); have g3 := blk_frozen hb1 (tn * 8 + 2); have j2 := HD.out.blk_grownR HCD.out HG.out; have ja := blk_cell j2 2; have j1 := blk_cell j2 1; have jv := HD.out.var_grownR HCD.out HG.out v0; clear hb1 j2)
                  all_goals
                    go_wp2
                    go_ret2
                    rw [HR3.out]
                    have hcd := HCD.out
                    rw [← HX.out] at hcd HN HG HA ⊢
                    have hP := HD.out.push_reads ht hcd HN.out HB.out HG.out HA.out
                    rw [show ((txR s tn).reads ++ [(m : Int)]).length = (txR s tn).reads.length + 1 from by simp] at hP
                    exact ⟨rfl, RefPost.after (HB4.out.trans (below_drew (Below.refl _ _))) HH.out.base_le hP⟩
            · have HR2 := Aside0.mk (show readR s tn m = (0, f, s) by rw [HR.out, if_pos (by simpa using hf0)])
              clear HR
              go_wp2
              go_ret2
              rw [HR2.out]
              exact ⟨rfl, RefPost.same HH.out HB4.out⟩
          · have HR := Aside0.mk (HHit.out _ hA)
            obtain ⟨gv, cap', e, hcap, c0, c1, c2, cf⟩ := rowW_at (HC.out.below HB.out).puts hj
            cases e
            have hjz : (j : Int) < (x.puts.length : Int) := by omega
            have hjn : (0 : Int) ≤ (j : Int) := by omega
            clear cf HHit HMiss hA
            go_wp2
            go_ret2
            rw [HR.out]
            exact ⟨rfl, RefPost.same HH.out HB.out⟩
end
end Go.Proofs.Ytcnbgamalhfkmaa.P
