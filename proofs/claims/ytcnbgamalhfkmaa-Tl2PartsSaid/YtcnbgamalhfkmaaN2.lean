/- tl2: Step. -/
import Derived.Test.YtcnbgamalhfkmaaN1
import Derived.Test.YtcnbgamalhfkmaaL2
namespace Go.Proofs.Ytcnbgamalhfkmaa.P
open Go.RowKit Go.Proofs.YtcnbgamalhfkmaaW.PrintWords Go.Proofs.YtcnbgamalhfkmaaW.PrintLast Go.Proofs.YtcnbgamalhfkmaaW.PrintMore
set_option linter.unusedVariables false
set_option linter.unusedSimpArgs false
open Go.WideShapes Go.Maps Go.Shelf
structure StepOK (s : PEng) (x : PTx) : Prop where
  one : x.parts ≠ []
  few : x.parts.length ≤ 100000
  small : (x.parts.getD 0 []).length ≤ 100000
  keys : ∀ n ∈ keysM (x.parts.getD 0 []), isE s n = true ∧ in64 n
  reads : ∀ n ∈ x.reads, isE s n = true
  short : x.reads.length ≤ 100000
  left : x.pointed = true → ∃ n r, x.left = n :: r ∧ isE s n = true ∧ in64 n ∧ r.length ≤ 100000
  clock : 0 ≤ s.clock ∧ s.clock ≤ 1000000000000
section
variable {s : PEng} {t : Int} {x : PTx}
theorem stepE_many (h : ofE s t = some x) (h1 : 1 < x.parts.length) : stepE s t = (0, 1, s) := by unfold stepE; rw [h]; simp only [h1, if_true]
theorem stepE_point {n : Int} {r : List Int} (h : ofE s t = some x) (h1 : ¬ 1 < x.parts.length) (h2 : x.pointed = true) (h3 : x.left = n :: r) :
    stepE s t = ((wstepE (setTx s t (some { x with commits := true })) t { x with commits := true } n r).1, 0, (wstepE (setTx s t (some { x with commits := true })) t { x with commits := true } n r).2) := by
  unfold stepE wstepE
  rw [h]
  simp only [h1, if_false, h2, if_true, h3]
  cases r <;> simp [setTx, setVar]
theorem stepE_lock {n : Int} (h : ofE s t = some x) (h1 : ¬ 1 < x.parts.length) (h2 : x.pointed = false) (h3 : lockL s t (keysM (x.parts.getD 0 [])) = some n) :
    stepE s t = if (varE s n).lock == -1 then (1, 0, setVar (setTx s t (some { x with commits := true })) n { varE s n with lock := t }) else (0, 32, setTx s t (some { x with commits := true })) := by
  unfold stepE
  rw [h]
  have h4 := h3
  rw [← lockL_setTx s t (some { x with commits := true })] at h4
  unfold keysM at h3 h4
  simp only [h1, if_false, h2, h3, h4, Bool.false_eq_true]
theorem stepE_rest (h : ofE s t = some x) (h1 : ¬ 1 < x.parts.length) (h2 : x.pointed = false) (h3 : lockL s t (keysM (x.parts.getD 0 [])) = none) :
    stepE s t = if validL s t x.start x.reads != 0 then (0, validL s t x.start x.reads, setTx s t (some { x with commits := true })) else
      if (keysM (x.parts.getD 0 [])).isEmpty then (4, 0, setTx (setTx s t (some { x with commits := true })) t none) else
      (2, 0, { setTx s t (some { x with commits := true, pointed := true, stamp := s.clock + 1, left := keysM (x.parts.getD 0 []) }) with clock := s.clock + 1 }) := by
  unfold stepE
  rw [h]
  unfold keysM at h3 ⊢
  simp only [h1, if_false, h2, h3, Bool.false_eq_true]
  split
  · rfl
  · split
    · rfl
    · simp [setTx]
end
section
variable {W : World} {base : Nat} {ρ : Nat → Nat} {g : Nat} {s : PEng} {cells : Array Value} {vs : Value}
set_option maxHeartbeats 8000000 in
set_option maxRecDepth 100000 in
theorem step_calls (h : EngAt W base ρ g s cells vs) (t : Int) (hp : ∀ x, ofE s t = some x → StepOK s x) :
    Calls Try.prog 21 #[.pointer (some ⟨g, 0, none⟩), .int .i64 t] W fun e w' => e = .returned (.tuple #[.int .i64 (stepE s t).1, .int .i64 (stepE s t).2.1]) ∧ EngPost W base ρ g (stepE s t).2.2 w' := by
  have HH := Aside0.mk h
  have HP := Aside0.mk hp
  have hof := of_calls h t
  clear h hp
  go_enter Try.func21, Try.ntmps21
  go_wp2_with fail
  refine hof.mono ?_; rintro e w' ⟨⟨p, rfl, hp⟩, rfl⟩
  clear hof
  rcases hp.form with ⟨e0, rfl⟩ | ⟨x, tn, gt, rd, pa, lf, ms, e0, rfl, ht, rfl, hcc, hx⟩
  · have HE := Aside0.mk (show stepE s t = (0, 1, s) by unfold stepE; rw [e0])
    clear hp e0
    go_wp2
    go_ret2
    rw [HE.out]
    exact ⟨rfl, ρ, _, _, HH.out, Did.refl⟩
  · have HK := Aside0.mk (HP.out x e0)
    have HE0 := Aside0.mk e0
    obtain ⟨A, c, rfl⟩ := Kd.N_slice hx.parts
    have k3 := blk_cell hx.blk 3
    have k4 := blk_cell hx.blk 4
    have f4 := blk_frozen hx.blk 4
    have HX := Aside0.mk hx
    have hml : ms.length ≤ 100000 := by rw [hx.maps.len]; exact HK.out.few
    have hml0 : 0 < ms.length := by rw [hx.maps.len]; exact List.length_pos_iff.2 HK.out.one
    by_cases h2 : 1 < ms.length
    · have HE := Aside0.mk (stepE_many e0 (by rw [← hx.maps.len]; exact h2))
      have h2z : (1 : Int) < (ms.length : Int) := by omega
      clear hp e0 hx
      go_wp2
      go_ret2
      rw [HE.out]
      exact ⟨rfl, ρ, _, _, HH.out, Did.refl⟩
    · have h2z : ¬ (1 : Int) < (ms.length : Int) := by omega
      have H2 := Aside0.mk (show ¬ 1 < x.parts.length by rw [← hx.maps.len]; exact h2)
      clear hp e0 hx
      go_upto_region 5 with (fail)
      obtain ⟨W1, hW1⟩ : ∃ W1, W.setCell ⟨gt, 4, none⟩ (.bool true) = W1 := ⟨_, rfl⟩
      have hset : ∀ i, i ≠ gt → W1.heap[i]? = W.heap[i]? := fun i hi => by rw [← hW1]; exact Below.heap_setCell W ⟨gt, 4, none⟩ _ i hi
      have hg1 : W.grownBy W1 (some gt) := by rw [← hW1]; exact setCell_grown W ⟨gt, 4, none⟩ _
      have hX1 : TxAt W1 base ρ tn gt { x with commits := true } rd (.slice A ms.length c) lf ms := HX.out.turn hset (by rw [← hW1]; exact blk_set HX.out.blk 4 _) rfl rfl (Kd.V_step HX.out.left (fun k hk hlt => hset k (fun e => by rw [e, HX.out.role] at hk; unfold rl at hk; omega)))
      obtain ⟨hE1, hD1⟩ := HH.out.at_tx ht hcc HX.out.role HX.out.ge hg1 hX1
      rw [hW1]
      have HX1 := Aside0.mk hX1
      have HE1 := Aside0.mk hE1
      have HD1 := Aside0.mk hD1
      obtain ⟨gp, cp, e1, hcp, p0⟩ := rowP_at hX1.parts hml0
      obtain ⟨rfl, rfl⟩ : A = some ⟨gp, 0, none⟩ ∧ c = cp := by injection e1 with a b c; exact ⟨a, c⟩
      have hxp : 0 < x.parts.length := List.length_pos_iff.2 HK.out.one
      have hma := (hX1.maps.at_ 0 _ _ (List.getElem?_eq_getElem hml0) (show x.parts[0]? = some (x.parts[0]'hxp) from List.getElem?_eq_getElem hxp)).2.2
      have hpd : x.parts.getD 0 [] = x.parts[0]'hxp := by rw [List.getD_eq_getElem?_getD, List.getElem?_eq_getElem hxp]; rfl
      rw [← hpd] at hma
      have hsc := sorted_calls hma HK.out.small
      have k31 := blk_cell hX1.blk 3
      have hmz : (0 : Int) < (ms.length : Int) := by omega
      clear hE1 hX1 hD1 hma hpd hset hg1 hW1 k3 k4 f4 e1 HX
      generalize ms[0]'hml0 = m0 at *
      go_wp2_with fail
      refine hsc.mono ?_; rintro e W2 ⟨v, rfl, hN, hB⟩
      obtain ⟨A2, c2, rfl⟩ := Kd.N_slice hN
      have HN := Aside0.mk hN
      have HB := Aside0.mk hB
      have hX2 := HX1.out.below HE1.out hB
      have k5 := blk_cell hX2.blk 5
      have hkl : (keysM (x.parts.getD 0 [])).length ≤ 100000 := by unfold keysM; rw [List.length_map]; exact HK.out.small
      clear hsc hN hB p0 k31 h2 h2z
      by_cases hpt : x.pointed = true
      · obtain ⟨n, r, hlf, hin, h64, hrl⟩ := HK.out.left hpt
        have HE := Aside0.mk (stepE_point HE0.out H2.out hpt hlf)
        have hn := isE_iff.1 hin
        obtain ⟨m, rfl⟩ : ∃ m : Nat, n = m := ⟨n.toNat, by omega⟩
        have hws := wstep_calls (HE1.out.below HB.out) ht hcc hX2 (show ({ x with commits := true } : PTx).left = (m : Int) :: r from hlf) HK.out.one (by show m < s.vars.length; omega) h64 hrl
        generalize hws1 : wstepE (setTx s tn (some { x with commits := true })) tn { x with commits := true } m r = ws at hws HE
        rw [show (#[Value.int .i64 ({ x with commits := true } : PTx).start, .int .i64 ({ x with commits := true } : PTx).stamp, rd, .slice (some ⟨gp, 0, none⟩) ms.length c, .bool ({ x with commits := true } : PTx).commits, .bool ({ x with commits := true } : PTx).pointed, lf] : Array Value)[5]? = some (.bool true) from by show some (Value.bool x.pointed) = _; rw [hpt]] at k5
        clear hX2 hws1
        go_wp2_with fail
        refine hws.mono ?_; rintro e W3 ⟨rfl, hP⟩
        have HP3 := Aside0.mk hP
        clear hws hP
        go_wp2
        go_ret2
        rw [HE.out]
        exact ⟨rfl, EngPost.via HD1.out (EngPost.after HB.out HE1.out.base_le HP3.out)⟩
      · have hpf : x.pointed = false := by simpa using hpt
        have HPF := Aside0.mk hpf
        rw [show (#[Value.int .i64 ({ x with commits := true } : PTx).start, .int .i64 ({ x with commits := true } : PTx).stamp, rd, .slice (some ⟨gp, 0, none⟩) ms.length c, .bool ({ x with commits := true } : PTx).commits, .bool ({ x with commits := true } : PTx).pointed, lf] : Array Value)[5]? = some (.bool false) from by show some (Value.bool x.pointed) = _; rw [hpf]] at k5
        have HE2 := Aside0.mk (HE1.out.below HB.out)
        have HX2 := Aside0.mk hX2
        have kg1 := HE2.out.cell1
        have HKS := Aside0.mk (show ∀ n ∈ keysM (x.parts.getD 0 []), isE s n = true ∧ in64 n from HK.out.keys)
        have HLK := Aside0.mk (fun n (h3 : lockL s tn (keysM (x.parts.getD 0 [])) = some n) => stepE_lock HE0.out H2.out hpf h3)
        have HRS := Aside0.mk (fun (h3 : lockL s tn (keysM (x.parts.getD 0 [])) = none) => stepE_rest HE0.out H2.out hpf h3)
        obtain ⟨ks, hks⟩ : ∃ ks, keysM (x.parts.getD 0 []) = ks := ⟨_, rfl⟩
        rw [hks] at HN hkl HKS HLK HRS ⊢
        clear hX2 hpt hpf hks
        go_wp2
        go_loopg [9, 44, 56, 59] ks.length (fun gg _ s44 _ _ wr => ∃ i : Nat, i ≤ ks.length ∧ ks.length - i ≤ gg ∧ s44 = .int .i64 i ∧ W2 = wr ∧ Aside0 (lockL s tn (ks.drop i) = lockL s tn ks))
        case atStart => exact ⟨0, Nat.zero_le _, by omega, rfl, rfl, ⟨rfl⟩⟩
        case round =>
          obtain ⟨i, hi, hg, rfl, rfl, AA⟩ := hrel
          by_cases hlt : i < ks.length
          · have hltz : (i : Int) < (ks.length : Int) := by omega
            obtain ⟨gv, cap', e, hcap, c0⟩ := rowI_at HN.out hlt
            cases e
            have hin := HKS.out _ (List.getElem_mem hlt)
            have hdr : ks.drop i = ks[i] :: ks.drop (i + 1) := List.drop_eq_getElem_cons hlt
            have hA := AA.out
            rw [hdr] at hA
            have HA := Aside0.mk (show (if (varE s ks[i]).lock == (tn : Int) then lockL s tn (ks.drop (i + 1)) else some ks[i]) = lockL s tn ks from hA)
            clear hA hdr AA
            generalize ks[i] = n at *
            have hn := isE_iff.1 hin.1
            obtain ⟨m, rfl⟩ : ∃ m : Nat, n = m := ⟨n.toNat, by omega⟩
            have hm : m < s.vars.length := by omega
            have hNv : Kd.N kV 92 W2 base (fun k => ρ k = 2) vs s.vars := HE2.out.vars
            obtain ⟨gu, cu, rfl, hcu, v0, v1, v2, vf⟩ := rowV_at hNv hm
            have vf2 := vf 2
            have hve := varE_at hm
            have HVE := Aside0.mk hve
            rw [hve] at HA
            have hmz : (m : Int) < (s.vars.length : Int) := by omega
            clear hNv vf v0 v1 hve hin hn
            by_cases hl1 : s.vars[m].lock = (tn : Int)
            · have HA2 := Aside0.mk (show lockL s tn (ks.drop (i + 1)) = lockL s tn ks by have := HA.out; rwa [if_pos (by simpa using hl1)] at this)
              rw [hl1] at v2
              clear HA HVE
              go_wp2
              go_roundg (ks.length - (i + 1))
              case measure => omega
              case rel => exact ⟨i + 1, by omega, by omega, by go_num, rfl, ⟨HA2.out⟩⟩
            · have h3 : lockL s tn ks = some (m : Int) := by have := HA.out; rw [if_neg (by simpa using hl1)] at this; exact this.symm
              have hst := HLK.out _ h3
              rw [HVE.out] at hst
              by_cases hl2 : s.vars[m].lock = -1
              · have HE := Aside0.mk (show stepE s tn = (1, 0, setVar (setTx s tn (some { x with commits := true })) m { s.vars[m] with lock := tn }) by rw [hst, if_pos (by simpa using hl2)])
                have hl3 : ¬ (-1 : Int) = (tn : Int) := by omega
                rw [hl2] at v2
                have HV := Aside0.mk (show varE (setTx s tn (some { x with commits := true })) (m : Int) = s.vars[m] from HVE.out)
                clear HA HVE h3 hst hl1 HLK HRS
                go_wp2
                go_ret2
                rw [HE.out]
                obtain ⟨hE3, hD3⟩ := HE2.out.set_var (gv := gu) (cap := cu) (i := m) (j := 2) (seg := [.int .i64 (tn : Int)]) rfl hm (by simp) { s.vars[m] with lock := tn } (by rw [HV.out]; rfl)
                exact ⟨rfl, EngPost.via HD1.out (EngPost.after HB.out HE1.out.base_le ⟨ρ, _, _, hE3, hD3⟩)⟩
              · have HE := Aside0.mk (show stepE s tn = (0, 32, setTx s tn (some { x with commits := true })) by rw [hst, if_neg (by simpa using hl2)])
                clear HA HVE h3 hst HLK HRS
                generalize s.vars[m].lock = lk at *
                go_wp2
                go_ret2
                rw [HE.out]
                exact ⟨rfl, EngPost.via HD1.out (EngPost.after HB.out HE1.out.base_le ⟨ρ, _, _, HE2.out, Did.refl⟩)⟩
          · have hltz : ¬ (i : Int) < (ks.length : Int) := by omega
            have h3 : lockL s tn ks = none := by rw [← AA.out, List.drop_eq_nil_of_le (by omega)]; rfl
            have hst := HRS.out h3
            have hvc := valid_calls HE2.out HX2.out (fun n hn => HK.out.reads n hn) HK.out.short
            rw [validL_setTx] at hvc
            have HST := Aside0.mk hst
            change Calls Try.prog 56 _ _ (fun e w' => e = .returned (.int .i64 (validL s tn x.start x.reads)) ∧ Below W2.heap.size W2 w') at hvc
            generalize validL s tn x.start x.reads = f at *
            clear hst h3 AA HLK HRS HKS
            go_wp2_with fail
            refine hvc.mono ?_; rintro e W3 ⟨rfl, hB3⟩
            have HB3 := Aside0.mk hB3
            clear hvc hB3 kg1 k5
            by_cases hf : f = 0
            · subst hf
              have HE3 := Aside0.mk (HE2.out.below HB3.out)
              have HB13 := Aside0.mk (show Below W1.heap.size W1 W3 from HB.out.trans (HB3.out.mono HB.out.size))
              cases ks with
              | nil =>
                have HE := Aside0.mk (show stepE s tn = (4, 0, setTx (setTx s tn (some { x with commits := true })) tn none) from HST.out)
                have ht0 : (0 : Int) ≤ (tn : Int) := by omega
                have ht8 : (tn : Int) < 8 := by omega
                have kt := (blk_cell HE3.out.blk (2 + tn)).trans hcc
                have ft := blk_frozen HE3.out.blk (2 + tn)
                clear HST
                go_wp2
                go_ret2
                rw [HE.out]
                obtain ⟨h3, d3⟩ := HE3.out.nil_tx ht
                exact ⟨rfl, EngPost.via HD1.out (EngPost.after HB13.out HE1.out.base_le ⟨ρ, _, _, h3, d3⟩)⟩
              | cons k0 k1 =>
                have HE := Aside0.mk (show stepE s tn = (2, 0, { setTx s tn (some { x with commits := true, pointed := true, stamp := s.clock + 1, left := k0 :: k1 }) with clock := s.clock + 1 }) from HST.out)
                have hX3 := HX2.out.below HE2.out HB3.out
                have c0 : W3.cell? ⟨g, 0, none⟩ = some (.int .i64 s.clock) := HE3.out.cell0
                have fc := blk_frozen HE3.out.blk 0
                have x5 := blk_cell hX3.blk 5
                have x1 := blk_cell hX3.blk 1
                have x6 := blk_cell hX3.blk 6
                have y5 := blk_frozen hX3.blk 5
                have y1 := blk_frozen hX3.blk 1
                have y6 := blk_frozen hX3.blk 6
                have hck := HK.out.clock
                have hw : IntKind.i64.wrap (s.clock + 1) = s.clock + 1 := IntWalk.i64_in _ (by omega)
                have hw2 : wrap64 (s.clock + 1) = s.clock + 1 := IntWalk.wrap64_in _ (by omega)
                have hkz : ¬ (k1.length : Int) + 1 = 0 := by omega
                have HP := Aside0.mk (step_point HE1.out ht hcc HX1.out HB13.out (Kd.N_below HN.out (by exact HB3.out)) (s.clock + 1))
                clear HST hX3
                go_wp2
                go_ret2
                rw [HE.out]
                have HPo := HP.out
                simp only [setTx_twice] at HPo
                exact ⟨rfl, EngPost.via HD1.out HPo⟩
            · have HE := Aside0.mk (show stepE s tn = (0, f, setTx s tn (some { x with commits := true })) by rw [HST.out, if_pos (by simpa using hf)])
              clear HST
              go_wp2
              go_ret2
              rw [HE.out]
              exact ⟨rfl, EngPost.via HD1.out (EngPost.after HB.out HE1.out.base_le ⟨ρ, _, _, HE2.out.below HB3.out, Did.of_below HB3.out HE2.out.base_le⟩)⟩
end
end Go.Proofs.Ytcnbgamalhfkmaa.P
