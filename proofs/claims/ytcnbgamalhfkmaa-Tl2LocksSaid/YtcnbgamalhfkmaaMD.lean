/- tl2: write. -/
import Derived.Test.YtcnbgamalhfkmaaMB
import Derived.Deep.RegionHeld3
namespace Go.Proofs.Ytcnbgamalhfkmaa.P
open Go.RowKit Go.Proofs.YtcnbgamalhfkmaaW.PrintWords Go.Proofs.YtcnbgamalhfkmaaW.PrintLast Go.Proofs.YtcnbgamalhfkmaaW.PrintMore
set_option linter.unusedVariables false
set_option linter.unusedSimpArgs false
open Go.WideShapes Go.Maps Go.Shelf
theorem setCell_grown (W : World) (p : Addr) (v : Value) : W.grownBy (W.setCell p v) (some p.block) := ⟨rfl, rfl, rfl, by simp [World.setCell], fun k hk hne => Below.heap_setCell W p v k (fun e => hne (by rw [e]))⟩
def wstepE (s : PEng) (t : Int) (x : PTx) (n : Int) (r : List Int) : Int × PEng :=
  let s1 := setTx s t (some { x with left := r })
  let s2 := setVar s1 n ⟨(getM (x.parts.getD 0 []) n).getD 0, x.stamp, -1⟩
  if r.isEmpty then (4, setTx s2 t none) else (3, s2)
section
variable {W : World} {base : Nat} {ρ : Nat → Nat} {g : Nat} {s : PEng} {cells : Array Value} {vs : Value}
theorem wstep_mid {s1 : PEng} {t gt gu cu n : Nat} {W1 W2 : World} {x1 : PTx} {rd pa lf : Value} {ms : List Nat} {cv st : Int} (h : EngAt W1 base ρ g s1 cells (.slice (some ⟨gu, 0, none⟩) s1.vars.length cu)) (hd : Did W base ρ ρ W1) (hx : TxAt W1 base ρ t gt x1 rd pa lf ms) (hn : n < s1.vars.length)
    (hW2 : (((W1.setCell ⟨gu, n * 3, none⟩ (.int .i64 cv)).setCell ⟨gu, n * 3 + 1, none⟩ (.int .i64 st)).setCell ⟨gu, n * 3 + 2, none⟩ (.int .i64 (-1))).drew = W2) :
    Aside0 (EngAt W2 base ρ g (P.setVar s1 (n : Int) ⟨cv, st, -1⟩) cells (.slice (some ⟨gu, 0, none⟩) s1.vars.length cu)) ∧ Aside0 (Did W base ρ ρ W2) ∧ Aside0 (W2.cell? ⟨gt, 6, none⟩ = some lf) ∧ Aside0 (W2.frozen? ⟨gt, 6, none⟩ = false) := by
  obtain ⟨hE2, hD2⟩ := h.set_var (gv := gu) (cap := cu) (i := n) (j := 0) (seg := [.int .i64 cv, .int .i64 st, .int .i64 (-1)]) rfl hn (by simp) ⟨cv, st, -1⟩ rfl
  have hBd : Below (W1.setCells gu (n * 3 + 0) [.int .i64 cv, .int .i64 st, .int .i64 (-1)]).heap.size (W1.setCells gu (n * 3 + 0) [.int .i64 cv, .int .i64 st, .int .i64 (-1)]) W2 := by rw [← hW2]; exact below_drew (Below.refl _ _)
  have hne : gt ≠ gu := fun e => by have h1 := h.vars.1 gu rfl; rw [← e, hx.role] at h1; unfold rl at h1; omega
  have hb : W2.heap[gt]? = W1.heap[gt]? := by
    rw [← hW2]
    exact (Below.heap_setCell _ ⟨gu, n * 3 + 2, none⟩ _ gt hne).trans ((Below.heap_setCell _ ⟨gu, n * 3 + 1, none⟩ _ gt hne).trans (Below.heap_setCell W1 ⟨gu, n * 3, none⟩ _ gt hne))
  exact ⟨⟨hE2.below hBd⟩, ⟨hd.trans (hD2.trans (Did.of_below hBd hE2.base_le))⟩, ⟨blk_cell (hb.trans hx.blk) 6⟩, ⟨blk_frozen (hb.trans hx.blk) 6⟩⟩
set_option maxHeartbeats 8000000 in
set_option maxRecDepth 100000 in
theorem wstep_calls (h : EngAt W base ρ g s cells vs) {t gt : Nat} (ht : t < 8) (hcc : cells[2 + t]? = some (.pointer (some ⟨gt, 0, none⟩))) {x : PTx} {rd pa lf : Value} {ms : List Nat} (hx : TxAt W base ρ t gt x rd pa lf ms) {n : Nat} {r : List Int} (hl : x.left = (n : Int) :: r) (hp : x.parts ≠ []) (hn : n < s.vars.length) (hnb : in64 n) (hrl : r.length ≤ 100000) :
    Calls Try.prog 55 #[.pointer (some ⟨g, 0, none⟩), .int .i64 t, .pointer (some ⟨gt, 0, none⟩)] W fun e w' => e = .returned (.int .i64 (wstepE s t x n r).1) ∧ EngPost W base ρ g (wstepE s t x n r).2 w' := by
  have HO := Aside0.mk (show wstepE s t x n r = if r.isEmpty then (4, setTx (setVar (setTx s t (some { x with left := r })) n ⟨(getM (x.parts.getD 0 []) n).getD 0, x.stamp, -1⟩) t none) else (3, setVar (setTx s t (some { x with left := r })) n ⟨(getM (x.parts.getD 0 []) n).getD 0, x.stamp, -1⟩) from rfl)
  have hV := hx.left
  rw [hl] at hV
  have HX := Aside0.mk hx
  have HH := Aside0.mk h
  have hgt := (h.own gt (by rw [hx.role]; unfold rl; omega)).2
  have k6 := blk_cell hx.blk 6
  have f6 := blk_frozen hx.blk 6
  obtain ⟨A, c, rfl, hcl, hF⟩ := hV
  obtain ⟨ad, cs, rfl, hcsl, hK, hcc0, _⟩ := Kd.F_get hF 0 0 (by omega) (by simp)
  have e : cs = [.int .i64 (n : Int)] := Kd.FK_now hK
  subst e
  have c0 := hcc0 0 _ rfl
  have hcl' : r.length + 1 ≤ c := hcl
  have hV2 := V_rest (base := base) (ok := fun k => ρ k = rl t 3) (w := W) (ad := ad) (c := c) (n := n) (l := r) ⟨_, _, rfl, hcl, hF⟩
  have HV2 := Aside0.mk hV2
  have HCC := Aside0.mk hcc0
  have c0' : W.cell? ad = some (.int .i64 (n : Int)) := by cases ad; exact c0
  rw [show ((n : Int) :: r).length = r.length + 1 from rfl] at k6
  have q1 : (1 : Int) ≤ (r.length : Int) + 1 := by omega
  have q2 : (r.length : Int) + 1 ≤ (c : Int) := by omega
  have q3 : (0 : Int) < (r.length : Int) + 1 := by omega
  have HHF := Aside0.mk hF
  clear hV2 hcc0 hF hK hcl hcsl h hx
  cases ad with | mk b o sp =>
  go_enter Try.func55, Try.ntmps55
  go_wp2_with fail
  case inl =>
    have HVR := Aside0.mk (show Kd.V kI 3 W base (fun k => ρ k = rl t 3) (.slice (some ⟨b, o, sp⟩) r.length 0) r by
      have hc1 : c = 1 := by assumption
      have h2 := HV2.out; rw [if_pos hc1, hc1] at h2; exact h2)
    obtain ⟨W1, hW1⟩ : ∃ W1, W.setCell ⟨gt, 6, none⟩ (.slice (some ⟨b, o, sp⟩) r.length 0) = W1 := ⟨_, rfl⟩
    have hset : ∀ i, i ≠ gt → W1.heap[i]? = W.heap[i]? := fun i hi => by rw [← hW1]; exact Below.heap_setCell W ⟨gt, 6, none⟩ _ i hi
    have hg1 : W.grownBy W1 (some gt) := by rw [← hW1]; exact setCell_grown W ⟨gt, 6, none⟩ _
    have hX1 : TxAt W1 base ρ t gt { x with left := r } rd pa (.slice (some ⟨b, o, sp⟩) r.length 0) ms := HX.out.turn hset (by rw [← hW1]; exact blk_set HX.out.blk 6 _) rfl rfl (Kd.V_step HVR.out (fun k hk hlt => hset k (fun e => by rw [e, HX.out.role] at hk; unfold rl at hk; omega)))
    obtain ⟨hE1, hD1⟩ := HH.out.at_tx ht hcc HX.out.role HX.out.ge hg1 hX1
    rw [hW1]
    have HX1 := Aside0.mk hX1
    have HE1 := Aside0.mk hE1
    have HD1 := Aside0.mk hD1
    have hNv : Kd.N kV 92 W1 base (fun k => ρ k = 2) vs s.vars := hE1.vars
    obtain ⟨gu, cu, rfl, hcu, v0, v1, v2, vf⟩ := rowV_at hNv hn
    have hml : 0 < ms.length := by rw [HX.out.maps.len]; exact List.length_pos_iff.2 hp
    have hxp : 0 < x.parts.length := List.length_pos_iff.2 hp
    obtain ⟨gp, cp, rfl, hcp, p0⟩ := rowP_at hX1.parts hml
    have hma := (hX1.maps.at_ 0 _ _ (List.getElem?_eq_getElem hml) (show x.parts[0]? = some (x.parts[0]'hxp) from List.getElem?_eq_getElem hxp)).2.2
    have hpd : x.parts.getD 0 [] = x.parts[0]'hxp := by rw [List.getD_eq_getElem?_getD, List.getElem?_eq_getElem hxp]; rfl
    obtain ⟨cv, hrun, hat, hwc⟩ := World.ownsMap.lookup_int (H := Unit) (P := Try.prog) (w := W1.drew) (t := 78) (show W1.drew.ownsMap Try.prog 3 (plainElem Try.prog 3) _ _ (toD (x.parts[0]'hxp)) from hma) lawM Try.underlying78 Try.underlying3 (zeroM _) (key_in hnb)
    have hcv : (getM (x.parts[0]'hxp) n).getD 0 = cv := (Lit.int.inj (DataW.lit.inj ((at_toD (x.parts[0]'hxp) n).symm.trans hat))).2
    have HO2 := Aside0.mk (show wstepE s t x n r = if r.isEmpty then (4, setTx (setVar (setTx s t (some { x with left := r })) n ⟨cv, x.stamp, -1⟩) t none) else (3, setVar (setTx s t (some { x with left := r })) n ⟨cv, x.stamp, -1⟩) by rw [HO.out, hpd, hcv])
    have kg1 := hE1.cell1
    have k3 := blk_cell hX1.blk 3
    have k1 := blk_cell hX1.blk 1
    have vf0 : W1.frozen? ⟨gu, n * 3, none⟩ = false := vf 0
    have vf1 := vf 1
    have vf2 := vf 2
    clear hE1 hX1 hD1 hNv hma hpd hat hcv HO hset hg1 hW1 k6 f6 c0 c0' HCC HHF vf HVR
    generalize ms[0]'hml = m0 at *
    have hnz : (n : Int) < (s.vars.length : Int) := by omega
    have hmz : (0 : Int) < (ms.length : Int) := by omega
    refine wp_region_noPanic ?_
    go_region_law (fail)
    all_goals
      refine NoPanic.normal ?_
      obtain ⟨W2, hW2⟩ : ∃ W2, (((W1.setCell ⟨gu, n * 3, none⟩ (.int .i64 cv)).setCell ⟨gu, n * 3 + 1, none⟩ (.int .i64 x.stamp)).setCell ⟨gu, n * 3 + 2, none⟩ (.int .i64 (-1))).drew = W2 := ⟨_, rfl⟩
      rw [hW2]
      obtain ⟨HE2, HD2, HX6, HF6⟩ := wstep_mid HE1.out HD1.out HX1.out hn hW2
      clear hW2 v0 v1 v2 vf0 vf1 vf2 k3 k1 kg1 p0 hrun hnz hmz HE1 HX1 HD1 HX HV2
      have ht0 : (0 : Int) ≤ (t : Int) := by omega
      have ht8 : (t : Int) < 8 := by omega
      have kt := (blk_cell HE2.out.blk (2 + t)).trans hcc
      have ft := blk_frozen HE2.out.blk (2 + t)
      have x6 := HX6.out
      have xf6 := HF6.out
      cases r with
      | nil =>
        have HEQ := Aside0.mk HO2.out
        clear HO2
        go_wp2
        go_ret
        rw [HEQ.out]
        obtain ⟨h3, d3⟩ := HE2.out.nil_tx ht
        exact ⟨rfl, ρ, _, _, h3, HD2.out.trans d3⟩
      | cons r0 r1 =>
        have HEQ := Aside0.mk HO2.out
        clear HO2
        have hr1 : (0 : Int) < (r1.length : Int) + 1 := by omega
        go_wp2
        go_ret
        rw [HEQ.out]
        exact ⟨rfl, ρ, _, _, HE2.out, HD2.out⟩
  case inr =>
    have HVR := Aside0.mk (show Kd.V kI 3 W base (fun k => ρ k = rl t 3) (.slice (some ⟨b, o + 1, none⟩) r.length (c - 1)) r by
      have h2 := HV2.out; rw [if_neg (by assumption)] at h2; exact h2)
    obtain ⟨W1, hW1⟩ : ∃ W1, W.setCell ⟨gt, 6, none⟩ (.slice (some ⟨b, o + 1, none⟩) r.length (c - 1)) = W1 := ⟨_, rfl⟩
    have hset : ∀ i, i ≠ gt → W1.heap[i]? = W.heap[i]? := fun i hi => by rw [← hW1]; exact Below.heap_setCell W ⟨gt, 6, none⟩ _ i hi
    have hg1 : W.grownBy W1 (some gt) := by rw [← hW1]; exact setCell_grown W ⟨gt, 6, none⟩ _
    have hX1 : TxAt W1 base ρ t gt { x with left := r } rd pa (.slice (some ⟨b, o + 1, none⟩) r.length (c - 1)) ms := HX.out.turn hset (by rw [← hW1]; exact blk_set HX.out.blk 6 _) rfl rfl (Kd.V_step HVR.out (fun k hk hlt => hset k (fun e => by rw [e, HX.out.role] at hk; unfold rl at hk; omega)))
    obtain ⟨hE1, hD1⟩ := HH.out.at_tx ht hcc HX.out.role HX.out.ge hg1 hX1
    rw [hW1]
    have HX1 := Aside0.mk hX1
    have HE1 := Aside0.mk hE1
    have HD1 := Aside0.mk hD1
    have hNv : Kd.N kV 92 W1 base (fun k => ρ k = 2) vs s.vars := hE1.vars
    obtain ⟨gu, cu, rfl, hcu, v0, v1, v2, vf⟩ := rowV_at hNv hn
    have hml : 0 < ms.length := by rw [HX.out.maps.len]; exact List.length_pos_iff.2 hp
    have hxp : 0 < x.parts.length := List.length_pos_iff.2 hp
    obtain ⟨gp, cp, rfl, hcp, p0⟩ := rowP_at hX1.parts hml
    have hma := (hX1.maps.at_ 0 _ _ (List.getElem?_eq_getElem hml) (show x.parts[0]? = some (x.parts[0]'hxp) from List.getElem?_eq_getElem hxp)).2.2
    have hpd : x.parts.getD 0 [] = x.parts[0]'hxp := by rw [List.getD_eq_getElem?_getD, List.getElem?_eq_getElem hxp]; rfl
    obtain ⟨cv, hrun, hat, hwc⟩ := World.ownsMap.lookup_int (H := Unit) (P := Try.prog) (w := W1.drew) (t := 78) (show W1.drew.ownsMap Try.prog 3 (plainElem Try.prog 3) _ _ (toD (x.parts[0]'hxp)) from hma) lawM Try.underlying78 Try.underlying3 (zeroM _) (key_in hnb)
    have hcv : (getM (x.parts[0]'hxp) n).getD 0 = cv := (Lit.int.inj (DataW.lit.inj ((at_toD (x.parts[0]'hxp) n).symm.trans hat))).2
    have HO2 := Aside0.mk (show wstepE s t x n r = if r.isEmpty then (4, setTx (setVar (setTx s t (some { x with left := r })) n ⟨cv, x.stamp, -1⟩) t none) else (3, setVar (setTx s t (some { x with left := r })) n ⟨cv, x.stamp, -1⟩) by rw [HO.out, hpd, hcv])
    have kg1 := hE1.cell1
    have k3 := blk_cell hX1.blk 3
    have k1 := blk_cell hX1.blk 1
    have vf0 : W1.frozen? ⟨gu, n * 3, none⟩ = false := vf 0
    have vf1 := vf 1
    have vf2 := vf 2
    clear hE1 hX1 hD1 hNv hma hpd hat hcv HO hset hg1 hW1 k6 f6 c0 c0' HCC HHF vf HVR
    generalize ms[0]'hml = m0 at *
    have hnz : (n : Int) < (s.vars.length : Int) := by omega
    have hmz : (0 : Int) < (ms.length : Int) := by omega
    refine wp_region_noPanic ?_
    go_region_law (fail)
    all_goals
      refine NoPanic.normal ?_
      obtain ⟨W2, hW2⟩ : ∃ W2, (((W1.setCell ⟨gu, n * 3, none⟩ (.int .i64 cv)).setCell ⟨gu, n * 3 + 1, none⟩ (.int .i64 x.stamp)).setCell ⟨gu, n * 3 + 2, none⟩ (.int .i64 (-1))).drew = W2 := ⟨_, rfl⟩
      rw [hW2]
      obtain ⟨HE2, HD2, HX6, HF6⟩ := wstep_mid HE1.out HD1.out HX1.out hn hW2
      clear hW2 v0 v1 v2 vf0 vf1 vf2 k3 k1 kg1 p0 hrun hnz hmz HE1 HX1 HD1 HX HV2
      have ht0 : (0 : Int) ≤ (t : Int) := by omega
      have ht8 : (t : Int) < 8 := by omega
      have kt := (blk_cell HE2.out.blk (2 + t)).trans hcc
      have ft := blk_frozen HE2.out.blk (2 + t)
      have x6 := HX6.out
      have xf6 := HF6.out
      cases r with
      | nil =>
        have HEQ := Aside0.mk HO2.out
        clear HO2
        go_wp2
        go_ret
        rw [HEQ.out]
        obtain ⟨h3, d3⟩ := HE2.out.nil_tx ht
        exact ⟨rfl, ρ, _, _, h3, HD2.out.trans d3⟩
      | cons r0 r1 =>
        have HEQ := Aside0.mk HO2.out
        clear HO2
        have hr1 : (0 : Int) < (r1.length : Int) + 1 := by omega
        go_wp2
        go_ret
        rw [HEQ.out]
        exact ⟨rfl, ρ, _, _, HE2.out, HD2.out⟩
end
end Go.Proofs.Ytcnbgamalhfkmaa.P
