/- tl2: the document's engine: Write. -/
import Derived.Test.YtcnbgamalhfkmaaMG
namespace Go.Proofs.Ytcnbgamalhfkmaa.P
open Go.RowKit Go.Proofs.YtcnbgamalhfkmaaW.PrintWords Go.Proofs.YtcnbgamalhfkmaaW.PrintLast Go.Proofs.YtcnbgamalhfkmaaW.PrintMore
set_option linter.unusedVariables false
set_option linter.unusedSimpArgs false
open Go.WideShapes Go.Maps
section
variable {W : World} {base : Nat} {σ : Nat → Nat} {a : Nat} {s : REng} {V : Value} {gt : Nat} {tc : Array Value}
theorem RefAt.drew (h : RefAt W base σ a s V gt tc) : RefAt W.drew base σ a s V gt tc := h.below (below_drew (Below.refl _ _))
theorem RefPost.of_drew {s' : REng} {W2 : World} (h : RefAt W base σ a s V gt tc) (hp : RefPost W.drew base σ a s' W2) : RefPost W base σ a s' W2 := RefPost.after (below_drew (Below.refl _ _)) h.base_le hp
theorem RefAt.tblk_grown (h : RefAt W base σ a s V gt tc) {t : Nat} {x : RTx} {rd pu : Value} (hc : RCells W base σ t gt tc x rd pu) {w1 : World} (hg : W.grownBy w1 pu.ownBlock) : w1.heap[gt]? = some (.cells tc 51 (0, 0)) :=
  (hg.block gt (h.own gt (by rw [h.trole]; omega)).2 (fun e => by have := hc.puts.1 gt e.symm; have := h.trole; omega)).trans h.tblk
theorem RefAt.cell2_grown (h : RefAt W base σ a s V gt tc) {t : Nat} {x : RTx} {rd pu : Value} (hc : RCells W base σ t gt tc x rd pu) {w1 : World} (hg : W.grownBy w1 pu.ownBlock) : w1.cell? ⟨a, 2, none⟩ = some (.slice (some ⟨gt, 0, none⟩) 8 8) :=
  blk_cell ((hg.block a (h.own a (by rw [h.role]; omega)).2 (fun e => by have := hc.puts.1 a e.symm; have := h.role; omega)).trans h.blk) 2
set_option maxHeartbeats 8000000 in
set_option maxRecDepth 100000 in
theorem rwrite_calls (h : RefAt W base σ a s V gt tc) (t n v : Int) (hp : openR s t = true → (txR s t).puts.length ≤ 100000) : Calls Try.prog 48 #[.pointer (some ⟨a, 0, none⟩), .int .i64 t, .int .i64 n, .int .i64 v] W fun e w' => e = .returned (.int .i64 (writeR s t n v).1) ∧ RefPost W base σ a (writeR s t n v).2 w' := by
  have HO := Aside0.mk (show writeR s t n v = if !openR s t || !isR s n then (1, s) else (0, setTR s t { txR s t with puts := putL n v (txR s t).parts (txR s t).puts }) from rfl)
  have HH := Aside0.mk h
  have hop := ropen_calls h t
  have his := ris_calls h n
  cases hb : openR s t with
  | false =>
    have HE := Aside0.mk (show writeR s t n v = (1, s) by rw [HO.out, hb]; rfl)
    rw [hb] at hop
    generalize isR s n = q at his
    clear h HO hp
    go_enter Try.func48, Try.ntmps48
    go_wp2_with fail
    refine hop.mono ?_; rintro e w' ⟨rfl, rfl⟩
    clear hop
    go_wp2_with fail
    refine his.mono ?_; rintro e w' ⟨rfl, rfl⟩
    clear his
    go_wp2
    go_ret
    exact ⟨by rw [HE.out]; rfl, by rw [HE.out]; exact RefPost.refl HH.out⟩
  | true =>
    cases hb2 : isR s n with
    | false =>
      have HE := Aside0.mk (show writeR s t n v = (1, s) by rw [HO.out, hb, hb2]; rfl)
      rw [hb] at hop
      rw [hb2] at his
      clear h HO hp
      go_enter Try.func48, Try.ntmps48
      go_wp2_with fail
      refine hop.mono ?_; rintro e w' ⟨rfl, rfl⟩
      clear hop
      go_wp2_with fail
      refine his.mono ?_; rintro e w' ⟨rfl, rfl⟩
      clear his
      go_wp2
      go_ret
      exact ⟨by rw [HE.out]; rfl, by rw [HE.out]; exact RefPost.refl HH.out⟩
    | true =>
      obtain ⟨tn, rfl, ht⟩ := openR_in hb
      have hpp := hp hb
      have ht8 : (tn : Int) < 8 := by omega
      have hD := h.drew
      obtain ⟨rd, pu, hc⟩ := hD.cells ht
      have HE := Aside0.mk (show writeR s tn n v = (0, setTR s tn { txR s tn with puts := putL n v (txR s tn).parts (txR s tn).puts }) by rw [HO.out, hb, hb2]; rfl)
      rw [hb] at hop
      rw [hb2] at his
      obtain ⟨A, c, rfl⟩ := Kd.N_slice hc.puts
      have k2 := h.cell2
      have c3 : W.cell? ⟨gt, tn * 8 + 3, none⟩ = _ := hc.c3
      have c4 : W.cell? ⟨gt, tn * 8 + 4, none⟩ = _ := hc.c4
      have hput := put_calls hc.puts hD.base_le (by omega) n v (txR s tn).parts
      have HC := Aside0.mk hc
      have HD := Aside0.mk hD
      obtain ⟨x, hx⟩ : ∃ x, txR s tn = x := ⟨_, rfl⟩
      have HX := Aside0.mk hx
      have hcx := hc
      rw [hx] at c3 c4 hpp hput hcx
      have HCX := Aside0.mk hcx
      clear h HO hc hcx hp hx hD hb hb2
      go_enter Try.func48, Try.ntmps48
      go_wp2_with fail
      refine hop.mono ?_; rintro e w' ⟨rfl, rfl⟩
      clear hop
      go_wp2_with fail
      refine his.mono ?_; rintro e w' ⟨rfl, rfl⟩
      clear his
      go_wp2_with fail
      go_region_law (go_simp; refine hput.mono ?_; rintro e w1 ⟨v1, rfl, HN, HB, HG, HA⟩; obtain ⟨A1, c1, rfl⟩ := Kd.N_slice HN.out; have hb1 := HD.out.tblk_grown HCX.out HG.out; have j3 := (blk_cell hb1 (tn * 8 + 3)).trans ((blk_cell HD.out.tblk _).symm.trans HCX.out.c3); have g3 := blk_frozen hb1 (tn * 8 + 3); have j2 := HD.out.cell2_grown HCX.out HG.out; clear hb1)
      all_goals
        go_wp2
        go_ret
        rw [HE.out]
        rw [← HX.out] at HN HG HA ⊢
        have hP := HD.out.push_puts ht HC.out HN.out HB.out HG.out HA.out
        exact ⟨rfl, RefPost.of_drew HH.out hP⟩
end
end Go.Proofs.Ytcnbgamalhfkmaa.P
