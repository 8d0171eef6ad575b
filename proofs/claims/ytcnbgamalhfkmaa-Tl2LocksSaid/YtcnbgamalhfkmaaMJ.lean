/- tl2: the document's engine: Step. -/
import Derived.Test.YtcnbgamalhfkmaaMK
namespace Go.Proofs.Ytcnbgamalhfkmaa.P
open Go.RowKit Go.Proofs.YtcnbgamalhfkmaaW.PrintWords Go.Proofs.YtcnbgamalhfkmaaW.PrintLast Go.Proofs.YtcnbgamalhfkmaaW.PrintMore
set_option linter.unusedVariables false
set_option linter.unusedSimpArgs false
open Go.WideShapes Go.Maps
theorem setTR_twice2 (s : REng) (t : Int) (x x' : RTx) : setTR (setTR s t x) t x' = setTR s t x' := by simp [setTR]
theorem txR_set2 {s : REng} {t : Nat} (ht : t < s.txs.length) (x : RTx) : txR (setTR s (t : Int) x) t = x := by simp [txR, setTR, List.getD_eq_getElem?_getD, ht]
theorem setVR_TR (s : REng) (n t : Int) (v : PVar) (x : RTx) : setTR (setVR s n v) t x = setVR (setTR s t x) n v := rfl
theorem validRL_setTR (s : REng) {t : Nat} (ht : t < s.txs.length) (x : RTx) (hx : x.start = (txR s t).start) : ∀ l, validRL (setTR s (t : Int) x) t l = validRL s t l
  | [] => rfl
  | n :: r => by
    have h : lookR (setTR s (t : Int) x) t n = lookR s t n := by unfold lookR; rw [txR_set2 ht, hx]; rfl
    show (if lookR (setTR s (t : Int) x) t n != 0 then lookR (setTR s (t : Int) x) t n else validRL (setTR s (t : Int) x) t r) = _
    rw [h, validRL_setTR s ht x hx r]
    rfl
theorem lockRL_setTR (s : REng) (t' : Int) (x : RTx) (t : Int) : ∀ l, lockRL (setTR s t' x) t l = lockRL s t l
  | [] => rfl
  | p :: r => by
    show (if (varR s p.n).lock == t then lockRL (setTR s t' x) t r else some p.n) = _
    rw [lockRL_setTR s t' x t r]
    rfl
theorem below_dr (w : World) : Below w.heap.size w w.drew := below_drew (Below.refl _ _)
/-- What Step must be given. -/
structure RStepOK (s : REng) (x : RTx) : Prop where
  few : x.puts.length ≤ 100000
  vars : ∀ p ∈ x.puts, isR s p.n = true
  reads : ∀ n ∈ x.reads, isR s n = true
  short : x.reads.length ≤ 100000
  done : 0 < x.stamp → 0 ≤ x.done ∧ x.done < (sortedR x.puts 1).length
  clock : 0 ≤ s.clock ∧ s.clock ≤ 1000000000000
theorem sortedF_mem (l : List RPut) (part : Int) : ∀ (k : Nat) (last : Int), ∀ p ∈ sortedF l part k last, p ∈ l
  | 0, _, p, h => by cases h
  | k + 1, last, p, h => by
    unfold sortedF at h
    cases hn : nextP part last none l with
    | none => rw [hn] at h; cases h
    | some q =>
      rw [hn] at h
      rcases List.mem_cons.1 h with rfl | h
      · exact (nextP_above hn).1
      · exact sortedF_mem l part k q.n p h
section
variable {s : REng} {t : Int}
theorem stepR_no (h : hasR s t = false ∨ 1 < (txR s t).parts) : stepR s t = (0, 1, s) := by
  unfold stepR
  rw [if_pos]
  rcases h with h | h <;> simp [h]
theorem stepR_point (h1 : hasR s t = true) (h2 : ¬ 1 < (txR s t).parts) (h3 : 0 < (txR s t).stamp) : stepR s t = (let x1 := { txR s t with commits := true }; let l := sortedR x1.puts 1; let p := l.getD x1.done.toNat zP; let s2 := setVR (setTR s t x1) p.n ⟨p.v, x1.stamp, -1⟩;
    if decide (x1.done + 1 < l.length) then (3, 0, setTR s2 t { x1 with done := x1.done + 1 }) else (4, 0, setTR s2 t zR)) := by
  unfold stepR
  rw [if_neg (by simp [h1, h2])]
  show (if decide (0 < (txR s t).stamp) = true then _ else _) = _
  rw [if_pos (decide_eq_true h3)]
theorem stepR_point3 {x1 : RTx} {s1 s4 : REng} {p : RPut} {d m : Int} {ks : List RPut} (h1 : hasR s t = true) (h2 : ¬ 1 < (txR s t).parts) (h3 : 0 < x1.stamp) (hx1 : { txR s t with commits := true } = x1) (hs1 : setTR s t x1 = s1) (hks : sortedR x1.puts 1 = ks) (hp : ks.getD x1.done.toNat zP = p) (hpn : p.n = m)
    (hs4 : setVR s1 m ⟨p.v, x1.stamp, -1⟩ = s4) (hd : x1.done = d) : stepR s t = if decide (d + 1 < ks.length) then (3, 0, setTR s4 t { x1 with done := d + 1 }) else (4, 0, setTR s4 t zR) := by
  subst hd hs4 hpn hp hks hs1 hx1
  exact stepR_point h1 h2 h3
theorem stepR_locked (h1 : hasR s t = true) (h2 : ¬ 1 < (txR s t).parts) (h3 : ¬ 0 < (txR s t).stamp) {n : Int} (h : lockRL s t (sortedR (txR s t).puts 1) = some n) : stepR s t = if decide (0 ≤ (varR s n).lock) then (0, 32, setTR s t { txR s t with commits := true }) else (1, 0, setVR (setTR s t { txR s t with commits := true }) n { varR s n with lock := t }) := by
  unfold stepR
  rw [if_neg (by simp [h1, h2])]
  show (if decide (0 < (txR s t).stamp) = true then _ else _) = _
  rw [if_neg (by simpa using h3)]
  dsimp only
  rw [h]
theorem stepR_free (h1 : hasR s t = true) (h2 : ¬ 1 < (txR s t).parts) (h3 : ¬ 0 < (txR s t).stamp) (h : lockRL s t (sortedR (txR s t).puts 1) = none) : stepR s t = if validRL s t (txR s t).reads != 0 then (0, validRL s t (txR s t).reads, setTR s t { txR s t with commits := true }) else
      if (sortedR (txR s t).puts 1).isEmpty then (4, 0, setTR (setTR s t { txR s t with commits := true }) t zR) else
      (2, 0, { setTR (setTR s t { txR s t with commits := true }) t { txR s t with commits := true, stamp := s.clock + 1 } with clock := s.clock + 1 }) := by
  unfold stepR
  rw [if_neg (by simp [h1, h2])]
  show (if decide (0 < (txR s t).stamp) = true then _ else _) = _
  rw [if_neg (by simpa using h3)]
  dsimp only
  rw [h]
theorem stepR_locked2 {x1 : RTx} {s1 : REng} {ks : List RPut} {n : Int} (h1 : hasR s t = true) (h2 : ¬ 1 < (txR s t).parts) (h3 : ¬ 0 < x1.stamp) (hx1 : { txR s t with commits := true } = x1) (hs1 : setTR s t x1 = s1) (hks : sortedR x1.puts 1 = ks) (h : lockRL s t ks = some n) : stepR s t = if decide (0 ≤ (varR s n).lock) then (0, 32, s1) else (1, 0, setVR s1 n { varR s n with lock := t }) := by
  subst hks hs1 hx1
  exact stepR_locked h1 h2 h3 h
theorem stepR_free2 {x1 : RTx} {s1 : REng} {ks : List RPut} (h1 : hasR s t = true) (h2 : ¬ 1 < (txR s t).parts) (h3 : ¬ 0 < x1.stamp) (hx1 : { txR s t with commits := true } = x1) (hs1 : setTR s t x1 = s1) (hks : sortedR x1.puts 1 = ks) (h : lockRL s t ks = none) : stepR s t = if validRL s t x1.reads != 0 then (0, validRL s t x1.reads, s1) else
      if ks.isEmpty then (4, 0, setTR s1 t zR) else (2, 0, { setTR s1 t { x1 with stamp := s.clock + 1 } with clock := s.clock + 1 }) := by
  subst hks hs1 hx1
  exact stepR_free h1 h2 h3 h
end
section
variable {W : World} {base : Nat} {σ : Nat → Nat} {a : Nat} {s : REng} {V : Value} {gt : Nat} {tc : Array Value}
set_option maxHeartbeats 8000000 in
set_option maxRecDepth 100000 in
theorem rstep_calls (h : RefAt W base σ a s V gt tc) (t : Int) (hp : hasR s t = true → RStepOK s (txR s t)) :
    Calls Try.prog 34 #[.pointer (some ⟨a, 0, none⟩), .int .i64 t] W fun e w' => e = .returned (.tuple #[.int .i64 (stepR s t).1, .int .i64 (stepR s t).2.1]) ∧ RefPost W base σ a (stepR s t).2.2 w' := by
  have HH := Aside0.mk h
  have hop := rhas_calls h t
  cases hb : hasR s t with
  | false =>
    have HE := Aside0.mk (stepR_no (.inl hb))
    rw [hb] at hop
    clear h hp
    go_enter Try.func34, Try.ntmps34
    go_wp2_with fail
    refine hop.mono ?_; rintro e w' ⟨rfl, rfl⟩
    clear hop
    go_wp2
    go_ret2
    exact ⟨by rw [HE.out]; rfl, by rw [HE.out]; exact RefPost.refl HH.out⟩
  | true =>
    obtain ⟨tn, rfl, ht⟩ := hasR_in hb
    have ht8 : (tn : Int) < 8 := by omega
    have htl : tn < s.txs.length := by rw [h.len]; exact ht
    obtain ⟨rd, pu, hc⟩ := h.cells ht
    have HK := Aside0.mk (hp hb)
    rw [hb] at hop
    have k2 := h.cell2
    have c4 := hc.c4
    by_cases h1 : 1 < (txR s tn).parts
    · have HE := Aside0.mk (stepR_no (t := tn) (.inr h1))
      generalize (txR s tn).parts = np at *
      clear h hp hc hb
      go_enter Try.func34, Try.ntmps34
      go_wp2_with fail
      refine hop.mono ?_; rintro e w' ⟨rfl, rfl⟩
      clear hop
      go_wp2
      go_ret2
      exact ⟨by rw [HE.out]; rfl, by rw [HE.out]; exact RefPost.refl HH.out⟩
    · have HP := Aside0.mk (fun h3 => stepR_point (t := tn) hb h1 h3)
      have HHB := Aside0.mk hb
      have HH1 := Aside0.mk h1
      have c5 := hc.c5
      have f5 := hc.froz 5
      have HC := Aside0.mk hc
      obtain ⟨np, hnp⟩ : ∃ np, (txR s tn).parts = np := ⟨_, rfl⟩
      rw [hnp] at c4 h1
      clear h hp hc hb hnp
      go_enter Try.func34, Try.ntmps34
      go_wp2_with fail
      refine hop.mono ?_; rintro e w' ⟨rfl, rfl⟩
      clear hop
      go_upto_region 5 with (fail)
      obtain ⟨tc1, hR1, hD1⟩ := HH.out.seg' ht HC.out 5 [.bool true] (show 5 + 1 ≤ 8 by decide) (x' := { txR s tn with commits := true }) (.inl ⟨rfl, rfl⟩) (.inl ⟨rfl, rfl⟩) rfl
      change RefAt (W.setCell ⟨gt, tn * 8 + 5, none⟩ (.bool true)) base σ a _ V gt tc1 at hR1
      change Did W base σ σ (W.setCell ⟨gt, tn * 8 + 5, none⟩ (.bool true)) at hD1
      obtain ⟨W1, hW1⟩ : ∃ W1, W.setCell ⟨gt, tn * 8 + 5, none⟩ (.bool true) = W1 := ⟨_, rfl⟩
      rw [hW1] at hR1 hD1 ⊢
      obtain ⟨x1, hx1⟩ : ∃ x1, { txR s tn with commits := true } = x1 := ⟨_, rfl⟩
      rw [hx1] at hR1
      have HX1 := Aside0.mk hx1
      have HD1 := Aside0.mk hD1
      have hxp : (txR s tn).puts = x1.puts ∧ (txR s tn).reads = x1.reads ∧ (txR s tn).stamp = x1.stamp ∧ (txR s tn).done = x1.done ∧ (txR s tn).start = x1.start := by rw [← hx1]; exact ⟨rfl, rfl, rfl, rfl, rfl⟩
      have HXP := Aside0.mk hxp
      obtain ⟨s1, hs1⟩ : ∃ s1, setTR s tn x1 = s1 := ⟨_, rfl⟩
      have ht1 : txR s1 tn = x1 := by rw [← hs1]; exact txR_set2 htl x1
      have hv1 : s1.vars = s.vars ∧ s1.clock = s.clock := by rw [← hs1]; exact ⟨rfl, rfl⟩
      have HS1 := Aside0.mk hs1
      have HV1 := Aside0.mk hv1
      rw [hs1] at hR1
      obtain ⟨rd1, pu1, hc1⟩ := hR1.cells ht
      rw [ht1] at hc1
      obtain ⟨A1, c1, rfl⟩ := Kd.N_slice hc1.puts
      have q2 := hR1.cell2
      have q3 := hc1.c3
      have hkf : x1.puts.length ≤ 100000 := by rw [← hxp.1]; exact HK.out.few
      have hso := rsorted_calls hc1.puts (by omega) 1
      have HR1 := Aside0.mk hR1
      have HC1 := Aside0.mk hc1
      have HT1 := Aside0.mk ht1
      clear hR1 hD1 hW1 hx1 hs1 hv1 hc1 k2 c5 f5 c4 ht1 hxp
      go_wp2_with fail
      refine hso.mono ?_; rintro e W2 ⟨v7, rfl, HN, HB⟩
      clear hso q2 q3
      have HR2 := Aside0.mk (HR1.out.below HB.out)
      obtain ⟨rd2, pu2, hc2⟩ := HR2.out.cells ht
      rw [HT1.out] at hc2
      have q2 := HR2.out.cell2
      have q6 := hc2.c6
      have q7 := hc2.c7
      have HC2 := Aside0.mk hc2
      have HKM := Aside0.mk (fun p hp => sortedF_mem x1.puts 1 _ _ p hp : ∀ p ∈ sortedR x1.puts 1, p ∈ x1.puts)
      have hkl : (sortedR x1.puts 1).length ≤ 100000 := Nat.le_trans (Nat.le_trans (sortedF_len _ _ _ _) (above_le _ _ _)) hkf
      clear hc2
      by_cases h3 : 0 < x1.stamp
      · have hd := HK.out.done (by rw [HXP.out.2.2.1]; exact h3)
        rw [HXP.out.1, HXP.out.2.2.2.1] at hd
        obtain ⟨ks, hks⟩ : ∃ ks, sortedR x1.puts 1 = ks := ⟨_, rfl⟩
        rw [hks] at hkl HN HKM hd
        have HKS := Aside0.mk hks
        obtain ⟨d, hdd⟩ : ∃ d : Nat, x1.done = d := ⟨x1.done.toNat, by omega⟩
        have hdl : d < ks.length := by omega
        have hdz : (d : Int) < (ks.length : Int) := by omega
        rw [hdd] at q7
        obtain ⟨g7, c7, rfl, hc7, v0, v1, v2, vf⟩ := rowW_at HN.out hdl
        have hin := isR_iff.1 (HK.out.vars _ (by rw [HXP.out.1]; exact HKM.out _ (List.getElem_mem hdl)))
        have HPD := Aside0.mk (show ks.getD x1.done.toNat zP = ks[d] by rw [hdd, Int.toNat_natCast, List.getD_eq_getElem?_getD, List.getElem?_eq_getElem hdl, Option.getD_some])
        have HDD := Aside0.mk hdd
        generalize ks[d] = p at *
        obtain ⟨m, hm0⟩ : ∃ m : Nat, p.n = m := ⟨p.n.toNat, by omega⟩
        have hm : m < s1.vars.length := by rw [HV1.out.1]; omega
        rw [hm0] at v0
        have HPN := Aside0.mk hm0
        clear vf hin hks hdd hd hm0
        go_upto_region 8 with (fail)
        have hb3 := below_1 W2 (.cells #[.int .i64 m, .int .i64 p.v, .int .i64 p.part] 61)
        have hk3 := blk_new W2 (.cells #[.int .i64 m, .int .i64 p.v, .int .i64 p.part] 61)
        have HR3 := Aside0.mk (HR2.out.below hb3)
        have p0 := blk_cell hk3 0
        have p1 := blk_cell hk3 1
        have HN3 := Aside0.mk (Kd.N_below HN.out hb3)
        have HB3 := Aside0.mk (show Below W1.heap.size W1 _ from HB.out.trans (hb3.mono HB.out.size))
        have q2 := HR3.out.cell2
        have q1 := HR3.out.cell1
        obtain ⟨rd3, pu3, hc3⟩ := HR3.out.cells ht
        rw [HT1.out] at hc3
        have q6 := hc3.c6
        obtain ⟨gv, cv, rfl, hcv, u0, u1, u2, uf⟩ := rowR_at HR3.out.vars hm
        have w0 : (W2.alloc (.cells #[.int .i64 m, .int .i64 p.v, .int .i64 p.part] 61)).frozen? ⟨gv, m * 3, none⟩ = false := uf 0
        have w1 := uf 1
        have w2 := uf 2
        have hmz : (m : Int) < (s1.vars.length : Int) := by omega
        generalize W2.alloc (.cells #[.int .i64 m, .int .i64 p.v, .int .i64 p.part] 61) = w3 at *
        generalize s1.vars[m] = y at *
        clear hb3 hk3 uf hc3 q7 v0 v1 v2
        go_still_tail 18, (by kernel_rfl)
        change wpList _ _ _ _ _ w3.drew
        have d2 := pw_cell_below (below_drew (Below.refl _ w3)) q2
        go_upto_region 9 with (fail)
        obtain ⟨hR4, hD4⟩ := HR3.out.set_var (gv := gv) (cap := cv) (i := m) (j := 0) (seg := [.int .i64 p.v, .int .i64 x1.stamp, .int .i64 (-1)]) rfl hm (by simp) ⟨p.v, x1.stamp, -1⟩ rfl
        have hbd := below_dr (((w3.setCell ⟨gv, m * 3, none⟩ (.int .i64 p.v)).setCell ⟨gv, m * 3 + 1, none⟩ (.int .i64 x1.stamp)).setCell ⟨gv, m * 3 + 2, none⟩ (.int .i64 (-1)))
        have hD5 := Did.of_below (ρ := σ) hbd (RefAt.base_le hR4)
        have hR5 := RefAt.below hR4 hbd
        change Did w3 base σ σ (((w3.setCell ⟨gv, m * 3, none⟩ (.int .i64 p.v)).setCell ⟨gv, m * 3 + 1, none⟩ (.int .i64 x1.stamp)).setCell ⟨gv, m * 3 + 2, none⟩ (.int .i64 (-1))) at hD4
        have HD4 := Aside0.mk (((HD1.out.trans (Did.of_below HB3.out HR1.out.base_le)).trans hD4).trans hD5)
        clear hD4 hD5 hR4 hbd
        obtain ⟨w4, hw4⟩ : ∃ w4, (((w3.setCell ⟨gv, m * 3, none⟩ (.int .i64 p.v)).setCell ⟨gv, m * 3 + 1, none⟩ (.int .i64 x1.stamp)).setCell ⟨gv, m * 3 + 2, none⟩ (.int .i64 (-1))).drew = w4 := ⟨_, rfl⟩
        rw [hw4] at hR5 HD4 ⊢
        obtain ⟨s4, hs4⟩ : ∃ s4, setVR s1 m ⟨p.v, x1.stamp, -1⟩ = s4 := ⟨_, rfl⟩
        rw [hs4] at hR5
        have ht4 : txR s4 tn = x1 := by rw [← hs4]; exact HT1.out
        have HS4 := Aside0.mk hs4
        obtain ⟨rd4, pu4, hc4⟩ := hR5.cells ht
        have HC4 := Aside0.mk hc4
        rw [ht4] at hc4
        have q2 := hR5.cell2
        have q7 := hc4.c7
        have q7f := hc4.froz 7
        have hdone : x1.done = (d : Int) := HDD.out
        rw [hdone] at q7
        have hwd : wrap64 ((d : Int) + 1) = (d : Int) + 1 := IntWalk.wrap64_in _ (by omega)
        have HR5 := Aside0.mk hR5
        have HT4 := Aside0.mk ht4
        clear hw4 hR5 hs4 ht4 hc4 q1 q6 u0 u1 u2 w0 w1 w2 d2 p0 p1 hdone
        go_upto_region 10 with (fail)
        obtain ⟨tc6, hR6, hD6⟩ := HR5.out.seg' ht HC4.out 7 [.int .i64 ((d : Int) + 1)] (show 7 + 1 ≤ 8 by decide) (x' := { x1 with done := (d : Int) + 1 }) (.inl ⟨rfl, by rw [HT4.out]⟩) (.inl ⟨rfl, by rw [HT4.out]⟩) (by rw [HT4.out]; rfl)
        change RefAt (w4.setCell ⟨gt, tn * 8 + 7, none⟩ (.int .i64 ((d : Int) + 1))) base σ a _ _ gt tc6 at hR6
        change Did w4 base σ σ (w4.setCell ⟨gt, tn * 8 + 7, none⟩ (.int .i64 ((d : Int) + 1))) at hD6
        obtain ⟨w6, hw6⟩ : ∃ w6, w4.setCell ⟨gt, tn * 8 + 7, none⟩ (.int .i64 ((d : Int) + 1)) = w6 := ⟨_, rfl⟩
        rw [hw6] at hR6 hD6 ⊢
        obtain ⟨rd6, pu6, hc6⟩ := hR6.cells ht
        have HC6 := Aside0.mk hc6
        have hT6 := txR_set2 (s := s4) (t := tn) (by rw [HR5.out.len]; exact ht) { x1 with done := (d : Int) + 1 }
        rw [hT6] at hc6
        have q2 := hR6.cell2
        have q7 := hc6.c7
        have HR6 := Aside0.mk hR6
        have HD6 := Aside0.mk (HD4.out.trans hD6)
        have HE2 := Aside0.mk (stepR_point3 HHB.out (by have := HH1.out; omega) h3 HX1.out HS1.out HKS.out HPD.out HPN.out HS4.out HDD.out)
        have d0 := hc6.c0
        have d1 := hc6.c1
        have d2 := hc6.c2
        have d3 := hc6.c3
        have d4 := hc6.c4
        have d5 := hc6.c5
        have d6 := hc6.c6
        have g0 : w6.frozen? ⟨gt, tn * 8, none⟩ = false := hc6.froz 0
        have g1 := hc6.froz 1
        have g2 := hc6.froz 2
        have g3 := hc6.froz 3
        have g4 := hc6.froz 4
        have g5 := hc6.froz 5
        have g6 := hc6.froz 6
        have g7 := hc6.froz 7
        clear hw6 hR6 hD6 hc6 hT6
        by_cases hl : (d : Int) + 1 < (ks.length : Int)
        · have HE3 := Aside0.mk (HE2.out.trans (if_pos (decide_eq_true hl)))
          go_wp2
          go_ret2
          rw [HE3.out]
          exact ⟨rfl, σ, _, gt, tc6, HR6.out, HD6.out⟩
        · have HE3 := Aside0.mk (HE2.out.trans (if_neg (by simpa using hl)))
          go_wp2
          go_ret2
          rw [HE3.out]
          have hf := HR6.out.seg ht HC6.out 0 [.bool false, .int .i64 0, .slice none 0 0, .slice none 0 0, .int .i64 0, .bool false, .int .i64 0, .int .i64 0] (Nat.le_refl 8) (x' := zR) (.inr ⟨rfl, rfl⟩) (.inr ⟨rfl, rfl⟩) rfl
          rw [setTR_twice2] at hf
          exact ⟨rfl, RefPost.via HD6.out hf⟩
      · have H3 := Aside0.mk h3
        obtain ⟨ks, hks⟩ : ∃ ks, sortedR x1.puts 1 = ks := ⟨_, rfl⟩
        rw [hks] at hkl HN HKM
        have HKS := Aside0.mk hks
        clear hks q7
        obtain ⟨A7, c7, rfl⟩ := Kd.N_slice HN.out
        go_wp2
        go_loopg [9, 10] ks.length (fun gg s9 _ wr => ∃ i : Nat, i ≤ ks.length ∧ ks.length - i ≤ gg ∧ s9 = .int .i64 i ∧ W2 = wr ∧ Aside0 (lockRL s tn (ks.drop i) = lockRL s tn ks))
        case atStart => exact ⟨0, Nat.zero_le _, by omega, rfl, rfl, ⟨rfl⟩⟩
        case round =>
          obtain ⟨i, hi, hg, rfl, rfl, AA⟩ := hrel
          by_cases hlt : i < ks.length
          · have hltz : (i : Int) < (ks.length : Int) := by omega
            obtain ⟨g7, c7', e, hc7, v0, v1, v2, vf⟩ := rowW_at HN.out hlt
            cases e
            have hin := isR_iff.1 (HK.out.vars _ (by rw [HXP.out.1]; exact HKM.out _ (List.getElem_mem hlt)))
            have hdr : ks.drop i = ks[i] :: ks.drop (i + 1) := List.drop_eq_getElem_cons hlt
            have hA := AA.out
            rw [hdr] at hA
            have HA := Aside0.mk (show (if (varR s ks[i].n).lock == (tn : Int) then lockRL s tn (ks.drop (i + 1)) else some ks[i].n) = lockRL s tn ks from hA)
            clear hA hdr AA vf v1 v2
            generalize ks[i].n = n at *
            obtain ⟨m, rfl⟩ : ∃ m : Nat, n = m := ⟨n.toNat, by omega⟩
            have hm : m < s1.vars.length := by rw [HV1.out.1]; omega
            obtain ⟨gu, cu, rfl, hcu, u0, u1, u2, uf⟩ := rowR_at HR2.out.vars hm
            have hve : varR s (m : Int) = s1.vars[m] := by rw [varR_at (by omega)]; simp only [HV1.out.1]
            have uf2 := uf 2
            have q1 := HR2.out.cell1
            rw [hve] at HA
            have HVE := Aside0.mk hve
            have hmz : (m : Int) < (s1.vars.length : Int) := by omega
            clear u0 u1 uf hin hve
            by_cases hl1 : s1.vars[m].lock = (tn : Int)
            · have HA2 := Aside0.mk (show lockRL s tn (ks.drop (i + 1)) = lockRL s tn ks by have := HA.out; rwa [if_pos (by simpa using hl1)] at this)
              rw [hl1] at u2
              clear HA HVE
              go_wp2
              go_roundg (ks.length - (i + 1))
              case measure => omega
              case rel => exact ⟨i + 1, by omega, by omega, by go_num, rfl, ⟨HA2.out⟩⟩
            · have h4 : lockRL s tn ks = some (m : Int) := by have := HA.out; rw [if_neg (by simpa using hl1)] at this; exact this.symm
              have hst := stepR_locked2 HHB.out (by have := HH1.out; omega) (by have := H3.out; omega) HX1.out HS1.out HKS.out h4
              rw [HVE.out] at hst
              have hl1b : (s1.vars[m].lock == (tn : Int)) = false := by simpa using hl1
              by_cases hl2 : 0 ≤ s1.vars[m].lock
              · have HE := Aside0.mk (show stepR s tn = (0, 32, s1) by rw [hst, if_pos (decide_eq_true hl2)])
                clear HA HVE h4 hst hl1
                generalize s1.vars[m].lock = lk at *
                go_wp2
                go_ret2
                rw [HE.out]
                exact ⟨rfl, σ, _, gt, tc1, HR2.out, HD1.out.trans (Did.of_below HB.out HR1.out.base_le)⟩
              · have HE := Aside0.mk (show stepR s tn = (1, 0, setVR s1 m { s1.vars[m] with lock := (tn : Int) }) by rw [hst, if_neg (by simpa using hl2)])
                have HV := Aside0.mk (varR_at hm)
                clear HA HVE h4 hst hl1
                go_wp2
                go_ret2
                rw [HE.out]
                obtain ⟨hE3, hD3⟩ := HR2.out.set_var (gv := gu) (cap := cu) (i := m) (j := 2) (seg := [.int .i64 (tn : Int)]) rfl hm (by simp) { s1.vars[m] with lock := tn } (by rw [HV.out]; rfl)
                exact ⟨rfl, σ, _, gt, tc1, hE3, (HD1.out.trans (Did.of_below HB.out HR1.out.base_le)).trans hD3⟩
          · have hltz : ¬ (i : Int) < (ks.length : Int) := by omega
            have h4 : lockRL s tn ks = none := by rw [← AA.out, List.drop_eq_nil_of_le (by omega)]; rfl
            have hst := stepR_free2 HHB.out (by have := HH1.out; omega) (by have := H3.out; omega) HX1.out HS1.out HKS.out h4
            have hvc := rvalid_calls HR2.out ht (by rw [HT1.out, ← HXP.out.2.1]; intro n hn; have h5 := HK.out.reads n hn; unfold isR at h5 ⊢; rw [HV1.out.1]; exact h5) (by rw [HT1.out, ← HXP.out.2.1]; exact HK.out.short)
            rw [HT1.out, show validRL s1 tn x1.reads = validRL s tn x1.reads by rw [← HS1.out, validRL_setTR s htl x1 HXP.out.2.2.2.2.symm]] at hvc
            have HST := Aside0.mk hst
            generalize validRL s tn x1.reads = f at *
            clear hst h4 AA
            go_wp2_with fail
            refine hvc.mono ?_; rintro e W3 ⟨rfl, hB3⟩
            have HB3 := Aside0.mk hB3
            have HR3 := Aside0.mk (HR2.out.below hB3)
            have HD3 := Aside0.mk (HD1.out.trans (Did.of_below (HB.out.trans (hB3.mono HB.out.size)) HR1.out.base_le))
            clear hvc hB3 q2 q6
            by_cases hf : f = 0
            · subst hf
              obtain ⟨rd3, pu3, hc3⟩ := HR3.out.cells ht
              have HC3 := Aside0.mk hc3
              have q2 := HR3.out.cell2
              cases ks with
              | nil =>
                have HE := Aside0.mk (show stepR s tn = (4, 0, setTR s1 tn zR) from HST.out)
                have d0 := hc3.c0
                have d1 := hc3.c1
                have d2 := hc3.c2
                have d3 := hc3.c3
                have d4 := hc3.c4
                have d5 := hc3.c5
                have d6 := hc3.c6
                have d7 := hc3.c7
                have g0 : W3.frozen? ⟨gt, tn * 8, none⟩ = false := hc3.froz 0
                have g1 := hc3.froz 1
                have g2 := hc3.froz 2
                have g3 := hc3.froz 3
                have g4 := hc3.froz 4
                have g5 := hc3.froz 5
                have g6 := hc3.froz 6
                have g7 := hc3.froz 7
                clear HST hc3
                go_wp2
                go_ret2
                rw [HE.out]
                have hfin := HR3.out.seg ht HC3.out 0 [.bool false, .int .i64 0, .slice none 0 0, .slice none 0 0, .int .i64 0, .bool false, .int .i64 0, .int .i64 0] (Nat.le_refl 8) (x' := zR) (.inr ⟨rfl, rfl⟩) (.inr ⟨rfl, rfl⟩) rfl
                exact ⟨rfl, RefPost.via HD3.out hfin⟩
              | cons k0 k1 =>
                have HE := Aside0.mk (show stepR s tn = (2, 0, { setTR s1 tn { x1 with stamp := s.clock + 1 } with clock := s.clock + 1 }) from HST.out)
                have hck := HK.out.clock
                have hw : wrap64 (s1.clock + 1) = s1.clock + 1 := IntWalk.wrap64_in _ (by rw [HV1.out.2]; omega)
                have q0 := HR3.out.cell0
                have q0f := blk_frozen HR3.out.blk 0
                have hkz : ¬ (k1.length : Int) + 1 = 0 := by omega
                clear HST hc3
                go_upto_region 30 with (fail)
                obtain ⟨hR5, hD5⟩ := HR3.out.set_clock (s1.clock + 1)
                obtain ⟨W5, hW5⟩ : ∃ W5, W3.setCell ⟨a, 0, none⟩ (.int .i64 (s1.clock + 1)) = W5 := ⟨_, rfl⟩
                rw [hW5] at hR5 hD5 ⊢
                obtain ⟨rd5, pu5, hc5⟩ := hR5.cells ht
                have HC5 := Aside0.mk hc5
                have HR5 := Aside0.mk hR5
                have HD5 := Aside0.mk (HD3.out.trans hD5)
                have z2 := hR5.cell2
                have z0 : W5.cell? ⟨a, 0, none⟩ = some (.int .i64 (s1.clock + 1)) := hR5.cell0
                have z6 := hc5.c6
                have zf := hc5.froz 6
                clear hc5 hR5 hD5 hW5 q0 q2
                go_still_tail 11, (by kernel_rfl)
                change wpList _ _ _ _ _ W5.drew
                go_wp2
                go_ret2
                rw [HE.out]
                have hT5 : txR { s1 with clock := s1.clock + 1 } tn = x1 := HT1.out
                have hfin := HR5.out.seg ht HC5.out 6 [.int .i64 (s1.clock + 1)] (show 6 + 1 ≤ 8 by decide) (x' := { x1 with stamp := s1.clock + 1 }) (.inl ⟨rfl, by rw [hT5]⟩) (.inl ⟨rfl, by rw [hT5]⟩) (by rw [hT5]; rfl)
                rw [← HV1.out.2]
                exact ⟨rfl, RefPost.via HD5.out (RefPost.drew hfin)⟩
            · have HE := Aside0.mk (show stepR s tn = (0, f, s1) by rw [HST.out, if_pos (by simpa using hf)])
              clear HST
              go_wp2
              go_ret2
              rw [HE.out]
              exact ⟨rfl, σ, _, gt, tc1, HR3.out, HD3.out⟩
end
end Go.Proofs.Ytcnbgamalhfkmaa.P
