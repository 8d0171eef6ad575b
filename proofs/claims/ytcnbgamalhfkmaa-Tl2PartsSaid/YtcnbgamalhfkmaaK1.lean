/- tl2: valid, Valid. -/
import Derived.Test.YtcnbgamalhfkmaaH1
namespace Go.Proofs.Ytcnbgamalhfkmaa.P
open Go.RowKit Go.Proofs.YtcnbgamalhfkmaaW.PrintWords Go.Proofs.YtcnbgamalhfkmaaW.PrintLast Go.Proofs.YtcnbgamalhfkmaaW.PrintMore
set_option linter.unusedVariables false
set_option linter.unusedSimpArgs false
open Go.WideShapes Go.Maps Go.Shelf
section
variable {W : World} {base : Nat} {ρ : Nat → Nat} {g : Nat} {s : PEng} {cells : Array Value} {vs : Value}
set_option maxHeartbeats 4000000 in
set_option maxRecDepth 100000 in
theorem valid_calls (h : EngAt W base ρ g s cells vs) {t gt : Nat} {x : PTx} {rd pa lf : Value} {ms : List Nat} (hx : TxAt W base ρ t gt x rd pa lf ms) (hr : ∀ n ∈ x.reads, isE s n = true) (hl : x.reads.length ≤ 100000) :
    Calls Try.prog 56 #[.pointer (some ⟨g, 0, none⟩), .int .i64 t, .pointer (some ⟨gt, 0, none⟩)] W fun e w' => e = .returned (.int .i64 (validL s t x.start x.reads)) ∧ Below W.heap.size W w' := by
  obtain ⟨A, c, rfl⟩ := Kd.N_slice hx.reads
  have k2 := blk_cell hx.blk 2
  have HX := Aside0.mk hx
  have HH := Aside0.mk h
  have HR := Aside0.mk hr
  have hgt := (h.own gt (by rw [hx.role]; unfold rl; omega)).2
  have HGT := Aside0.mk hgt
  clear hx h hr hgt
  go_enter Try.func56, Try.ntmps56
  go_wp2
  go_loopg [8, 9, 15] x.reads.length (fun gg _ _ s15 wr => ∃ i : Nat, i ≤ x.reads.length ∧ x.reads.length - i ≤ gg ∧ s15 = .int .i64 i ∧ Aside0 (Below W.heap.size W wr) ∧ Aside0 (validL s t x.start (x.reads.drop i) = validL s t x.start x.reads))
  case atStart => exact ⟨0, Nat.zero_le _, by omega, rfl, ⟨Below.refl _ W⟩, ⟨rfl⟩⟩
  case round =>
    obtain ⟨i, hi, hg, rfl, BW, AA⟩ := hrel
    by_cases hlt : i < x.reads.length
    · have hltz : (i : Int) < (x.reads.length : Int) := by omega
      obtain ⟨gv, cap', e, hcap, c0⟩ := rowI_at (Kd.N_below HX.out.reads BW.out) hlt
      cases e
      have hin := isE_iff.1 (HR.out _ (List.getElem_mem hlt))
      have hdr : x.reads.drop i = x.reads[i] :: x.reads.drop (i + 1) := List.drop_eq_getElem_cons hlt
      have hA := AA.out
      rw [hdr] at hA
      have HA := Aside0.mk (show (if lookE s t x.start x.reads[i] != 0 then lookE s t x.start x.reads[i] else validL s t x.start (x.reads.drop (i + 1))) = validL s t x.start x.reads from hA)
      clear hA hdr AA
      generalize x.reads[i] = n at *
      obtain ⟨m, rfl⟩ : ∃ m : Nat, n = m := ⟨n.toNat, by omega⟩
      have hm : m < s.vars.length := by omega
      have hXr := HX.out.below HH.out BW.out
      have hlk := look_calls (HH.out.below BW.out) t (blk_cell hXr.blk 0) (Nat.lt_of_lt_of_le HGT.out BW.out.size) hm
      generalize hf : lookE s t x.start m = f at *
      clear hXr hf hin
      go_wp2_with fail
      refine hlk.mono ?_; rintro e w' ⟨rfl, hb'⟩
      have HB := Aside0.mk hb'
      clear hlk hb' c0
      by_cases hf0 : f = 0
      · subst hf0
        go_wp2
        go_roundg (x.reads.length - (i + 1))
        case measure => omega
        case rel => exact ⟨i + 1, by omega, by omega, by go_num, ⟨BW.out.trans (HB.out.mono BW.out.size)⟩, ⟨HA.out⟩⟩
      · have HF := Aside0.mk (show f = validL s t x.start x.reads by rw [← HA.out, if_pos (by simpa using hf0)])
        clear HA
        go_wp2
        go_ret
        exact ⟨by rw [← HF.out]; rfl, BW.out.trans (HB.out.mono BW.out.size)⟩
    · have hltz : ¬ (i : Int) < (x.reads.length : Int) := by omega
      have HA := Aside0.mk (show validL s t x.start x.reads = 0 by rw [← AA.out, List.drop_eq_nil_of_le (by omega)]; rfl)
      go_wp2
      go_ret
      exact ⟨by rw [HA.out]; rfl, BW.out⟩
set_option maxHeartbeats 4000000 in
theorem Valid_calls (h : EngAt W base ρ g s cells vs) (t : Int) (hr : ∀ x, openE s t = some x → (∀ n ∈ x.reads, isE s n = true) ∧ x.reads.length ≤ 100000) :
    Calls Try.prog 51 #[.pointer (some ⟨g, 0, none⟩), .int .i64 t] W fun e w' => e = .returned (.int .i64 (validE s t)) ∧ Below W.heap.size W w' := by
  have HO := Aside0.mk (show validE s t = match openE s t with | none => 1 | some x => validL s t x.start x.reads from rfl)
  have HH := Aside0.mk h
  have HR := Aside0.mk hr
  have hof := open_calls h t
  clear h hr
  go_enter Try.func51, Try.ntmps51
  go_wp2_with fail
  refine hof.mono ?_; rintro e w' ⟨⟨p, rfl, hp⟩, rfl⟩
  clear hof
  rcases hp.form with ⟨e0, rfl⟩ | ⟨x, tn, gt, rd, pa, lf, ms, e0, rfl, ht, rfl, hcc, hx⟩
  · have HE := Aside0.mk (show validE s t = 1 by rw [HO.out, e0])
    clear hp e0 HO
    go_wp2
    go_ret
    exact ⟨by rw [HE.out]; rfl, Below.refl _ _⟩
  · have hvc := valid_calls HH.out hx (HR.out x e0).1 (HR.out x e0).2
    have HE := Aside0.mk (show validE s tn = validL s tn x.start x.reads by rw [HO.out, e0])
    clear hp e0 HO hx
    go_wp2_with fail
    refine hvc.mono ?_; rintro e w' ⟨rfl, hb⟩
    have HB := Aside0.mk hb
    clear hvc hb
    go_wp2
    go_ret
    exact ⟨by rw [HE.out]; rfl, HB.out⟩
end
end Go.Proofs.Ytcnbgamalhfkmaa.P
