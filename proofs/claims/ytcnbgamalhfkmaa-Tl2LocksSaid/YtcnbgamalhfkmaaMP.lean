/- tl2: versions and stamps are not below 0. tl2: alike engines answer the readers alike. tl2: like walked: alike engines. -/
import Derived.Test.YtcnbgamalhfkmaaMN
import Derived.Test.YtcnbgamalhfkmaaMM
import Derived.Test.YtcnbgamalhfkmaaMO
namespace Go.Proofs.Ytcnbgamalhfkmaa.P
set_option linter.unusedVariables false
set_option linter.unusedSimpArgs false
structure VN (s : PEng) : Prop where
  ver : ∀ v ∈ s.vars, 0 ≤ v.version
  clk : 0 ≤ s.clock
  stamp : ∀ x, some x ∈ s.txs → 0 ≤ x.stamp
section
variable {m : Nat} {s : PEng} {r : REng} {x x' : PTx}
theorem VN.of (h : VN s) {t : Int} (hx : ofE s t = some x) : 0 ≤ x.stamp := by
  unfold ofE at hx
  split at hx
  · rw [List.getD_eq_getElem?_getD] at hx
    cases hg : s.txs[t.toNat]? with
    | none => rw [hg] at hx; cases hx
    | some o =>
      rw [hg] at hx
      have hx : o = some x := hx
      rw [hx] at hg
      exact h.stamp x (List.mem_of_getElem? hg)
  · cases hx
theorem VN.open_ (h : VN s) {t : Int} (hx : openE s t = some x) : 0 ≤ x.stamp := by
  unfold openE at hx
  cases ho : ofE s t with
  | none => rw [ho] at hx; cases hx
  | some y =>
    rw [ho] at hx
    have e : y = x := by
      simp at hx
      first | exact hx.2 | exact hx.1 | (obtain ⟨_, h⟩ := hx; exact h)
    rw [← e]; exact h.of ho
theorem VN.setTx (h : VN s) (t : Int) {o : Option PTx} (ho : ∀ x, o = some x → 0 ≤ x.stamp) : VN (P.setTx s t o) :=
  ⟨h.ver, h.clk, fun x hx => by
    rcases List.mem_or_eq_of_mem_set (show some x ∈ s.txs.set t.toNat o from hx) with hx | e
    · exact h.stamp x hx
    · exact ho x e.symm⟩
theorem VN.setSome (h : VN s) (t : Int) (ho : 0 ≤ x.stamp) : VN (P.setTx s t (some x)) := h.setTx t (fun y hy => by injection hy with e; rw [← e]; exact ho)
theorem VN.setNone (h : VN s) (t : Int) : VN (P.setTx s t none) := h.setTx t (fun y hy => by cases hy)
theorem VN.setVar (h : VN s) (n : Int) {v : PVar} (hv : 0 ≤ v.version) : VN (P.setVar s n v) :=
  ⟨fun w hw => by
    rcases List.mem_or_eq_of_mem_set (show w ∈ s.vars.set n.toNat v from hw) with hw | e
    · exact h.ver w hw
    · rw [e]; exact hv, h.clk, h.stamp⟩
theorem VN.varE (h : VN s) (n : Int) : 0 ≤ (P.varE s n).version := by
  unfold P.varE
  rw [List.getD_eq_getElem?_getD]
  cases hg : s.vars[n.toNat]? with
  | none => show 0 ≤ zV.version; decide
  | some v => exact h.ver v (List.mem_of_getElem? hg)
theorem VN.step (h : VN s) (t : Int) : VN (stepE s t).2.2 := by
  unfold stepE
  cases ho : ofE s t with
  | none => exact h
  | some x =>
    have hx := h.of ho
    dsimp only
    split
    · exact h
    · have h1 : VN (P.setTx s t (some { x with commits := true })) := h.setSome t hx
      split
      · split
        · exact h1
        · try dsimp only
          split
          · exact (h1.setVar _ hx).setNone t
          · exact (h1.setVar _ hx).setSome t hx
      · split
        · split
          · exact h1.setVar _ (h.varE _)
          · exact h1
        · try dsimp only
          split
          · exact h1
          · split
            · exact h1.setNone t
            · have hc := h.clk
              have h2 : VN (P.setTx (P.setTx s t (some { x with commits := true })) t (some { x with commits := true, pointed := true, stamp := s.clock + 1, left := (x.parts.getD 0 []).map (·.1) })) := h1.setSome t (show 0 ≤ s.clock + 1 by omega)
              exact ⟨h2.ver, show 0 ≤ s.clock + 1 by omega, h2.stamp⟩
theorem vn_step (h : VN s) (d : PDeed) : VN (doE s d).2.2 := by
  obtain ⟨k, t, n, v⟩ := d
  unfold doE
  dsimp only
  by_cases h0 : k = 0
  · rw [if_pos h0]
    unfold beginE
    split
    · exact h
    · exact h.setSome t (Int.le_refl _)
  rw [if_neg h0]
  by_cases h1 : k = 1
  · rw [if_pos h1]
    unfold readE
    cases ho : openE s t with
    | none => exact h
    | some x =>
      have hx := h.open_ ho
      dsimp only
      split
      · exact h
      · split
        · exact h
        · try dsimp only
          split
          · exact h
          · try dsimp only
            split
            · exact h
            · exact h.setSome t hx
  rw [if_neg h1]
  by_cases h2 : k = 2
  · rw [if_pos h2]
    unfold writeE
    cases ho : openE s t with
    | none => exact h
    | some x =>
      dsimp only
      split
      · exact h
      · exact (have hx := h.open_ ho; h.setSome t hx)
  rw [if_neg h2]
  by_cases h3 : k = 3
  · rw [if_pos h3]; exact h.step t
  rw [if_neg h3]
  by_cases h4 : k = 4
  · rw [if_pos h4]
    unfold partE
    cases ho : openE s t with
    | none => exact h
    | some x => exact (have hx := h.open_ ho; h.setSome t hx)
  rw [if_neg h4]
  have shut : ∀ keep : Bool, VN (shutE s t keep).2 := fun keep => by
    unfold shutE
    cases ho : openE s t with
    | none => exact h
    | some x =>
      dsimp only
      split
      · exact h
      · exact (have hx := h.open_ ho; h.setSome t hx)
  by_cases h5 : k = 5
  · rw [if_pos h5]; exact shut true
  rw [if_neg h5]
  by_cases h6 : k = 6
  · rw [if_pos h6]; exact shut false
  rw [if_neg h6]
  by_cases h7 : k = 7
  · rw [if_pos h7]
    unfold abortE
    cases ho : ofE s t with
    | none => exact h
    | some x =>
      dsimp only
      split
      · exact h
      · refine VN.setNone (s := { s with vars := s.vars.map fun v => if v.lock == t then { v with lock := -1 } else v }) ⟨fun v hv => ?_, h.clk, h.stamp⟩ t
        obtain ⟨w, hw, e⟩ := List.mem_map.1 (show v ∈ s.vars.map fun v => if v.lock == t then { v with lock := -1 } else v from hv)
        have := h.ver w hw
        rw [← e]
        split <;> exact this
  rw [if_neg h7]
  by_cases h8 : k = 8
  · rw [if_pos h8]
    unfold makeE
    split
    · exact h
    · refine ⟨fun w hw => ?_, h.clk, h.stamp⟩
      rcases List.mem_append.1 hw with hw | hw
      · exact h.ver w hw
      · rw [List.mem_singleton.1 hw]; exact Int.le_refl _
  rw [if_neg h8]
  by_cases h9 : k = 9
  · rw [if_pos h9]; exact h
  rw [if_neg h9]
  exact h
theorem vn_beg : VN (begE 4) where
  ver := fun v hv => by
    have : (begE 4).vars = [⟨10, 0, -1⟩, ⟨11, 0, -1⟩, ⟨12, 0, -1⟩, ⟨13, 0, -1⟩] := rfl
    rw [this] at hv
    simp at hv
    rcases hv with rfl | rfl | rfl | rfl <;> decide
  clk := by decide
  stamp := fun x hx => by
    have : (begE 4).txs = [none, none, none, none, none, none, none, none] := rfl
    rw [this] at hx
    simp at hx
end
end Go.Proofs.Ytcnbgamalhfkmaa.P
namespace Go.Proofs.Ytcnbgamalhfkmaa.P
set_option linter.unusedVariables false
set_option linter.unusedSimpArgs false
section
variable {m nv : Nat} {s : PEng} {r : REng} {x : PTx} {y : RTx}
theorem TxSim.key_at (h : TxSim nv m x y) {p : Mp} (hp : p ∈ x.parts) : ∀ e ∈ p, 0 ≤ e.1 ∧ e.1 < nv := fun e he => by
  obtain ⟨k, hk, rfl⟩ := List.getElem_of_mem hp
  have h2 := mem_getM (a := e.1) (b := e.2) (h.rise _ hp) he
  rw [h.look k hk] at h2
  obtain ⟨z, hz, z1, _⟩ := lookP_some h2
  rw [← z1]; exact h.keys z hz
theorem TxSim.words (h : TxSim nv m x y) : ∀ k : Nat, k ≤ x.parts.length → partsW8 y.puts k = (x.parts.take k).flatMap fun p => p.map (·.2)
  | 0, _ => rfl
  | k + 1, hk => by
    have hk1 : k < x.parts.length := by omega
    rw [partsW8, h.words k (by omega), take_flat _ hk1]
    rw [sortedR_eq h.uniq (h.rise _ (List.getElem_mem hk1)) (h.look k hk1) (fun e he => (h.key_at (List.getElem_mem hk1) e he).1)]
    simp
theorem OptSim.words {o : Option PTx} (h : OptSim nv m o y) : outR y = outW o := by
  cases o with
  | none => have h : y = zR := h; rw [h]; rfl
  | some x =>
    have h : TxSim nv m x y := h
    unfold outR outW
    rw [h.is, h.parts, Int.toNat_natCast, h.words _ (Nat.le_refl _), List.take_of_length_le (Nat.le_refl _)]; rfl
theorem flat_same {α β γ : Type} (f : α → List γ) (k : β → List γ) : ∀ (l : List α) (l' : List β), l.length = l'.length → (∀ (i : Nat) (h : i < l.length) (h' : i < l'.length), f l[i] = k l'[i]) → l.flatMap f = l'.flatMap k
  | [], [], _, _ => rfl
  | a :: l, b :: l', h, e => by
    simp only [List.flatMap_cons]
    have h0 := e 0 (by simp) (by simp)
    rw [flat_same f k l l' (by simpa using h) (fun i h1 h2 => by
      have := e (i + 1) (by simpa using h1) (by simpa using h2)
      rw [List.getElem_cons_succ, List.getElem_cons_succ] at this
      exact this)]
    simp only [List.getElem_cons_zero] at h0
    rw [h0]
  | [], _ :: _, h, _ => by cases h
  | _ :: _, [], h, _ => by cases h
theorem Sim.words (h : Sim m s r) : wordsE s = wordsR r := by
  rw [wordsE_eq, wordsR_eq, h.vars]
  congr 1
  refine flat_same _ _ _ _ (by rw [h.lenE, h.lenR]) fun i h1 h2 => ?_
  have := h.txs i (by have := h.lenE; omega)
  rw [List.getD_eq_getElem?_getD, List.getElem?_eq_getElem h1, List.getD_eq_getElem?_getD, List.getElem?_eq_getElem h2] at this
  exact this.words.symm
theorem flat_len {α β : Type} (f : α → List β) (b : Nat) : ∀ l : List α, (∀ a ∈ l, (f a).length ≤ b) → (l.flatMap f).length ≤ b * l.length
  | [], _ => by simp
  | a :: l, h => by
    have h1 := h a List.mem_cons_self
    have h2 := flat_len f b l (fun c hc => h c (List.mem_cons_of_mem _ hc))
    rw [List.flatMap_cons, List.length_append, List.length_cons, Nat.mul_succ]
    omega
theorem outW_len (x : PTx) : (outW (some x)).length = load x.parts := by
  show (x.parts.flatMap fun p => p.map (·.2)).length = load x.parts
  generalize x.parts = l
  induction l with
  | nil => rfl
  | cons p l ih => rw [List.flatMap_cons, List.length_append, ih, List.length_map]; rfl
theorem Sim.words_len (h : Sim m s r) (hm : m ≤ 900) : (wordsE s).length ≤ 20000 := by
  rw [wordsE_eq, List.length_append, List.length_map]
  have h1 := flat_len outW 900 s.txs (fun o ho => by
    obtain ⟨t, ht, e⟩ := List.getElem_of_mem ho
    have hs := h.txs t (by have := h.lenE; omega)
    rw [List.getD_eq_getElem?_getD, List.getElem?_eq_getElem ht] at hs
    have hs : OptSim s.vars.length m s.txs[t] (r.txs.getD t zR) := hs
    rw [e] at hs
    cases o with
    | none => exact Nat.zero_le _
    | some x =>
      have hs : TxSim s.vars.length m x (r.txs.getD t zR) := hs
      rw [outW_len]; have := hs.load; omega)
  have h2 := h.lenE
  have h3 := h.vl
  omega
theorem Sim.wok (h : Sim m s r) (hm : m ≤ 900) : WOK s where
  vl := h.vl
  px := fun t x ht hx => by
    have hs := h.txs t ht
    rw [hx] at hs
    have hs : TxSim s.vars.length m x (r.txs.getD t zR) := hs
    have h1 := hs.plen
    refine ⟨by omega, fun p hp => ⟨?_, fun e he => ?_⟩⟩
    · have := load_mem hp; have := hs.load; omega
    · have := hs.key_at hp e he; have := h.vl; unfold in64; omega
theorem Sim.rok (h : Sim m s r) (hm : m ≤ 900) : ROK r where
  vl := by rw [h.vars]; exact h.vl
  px := fun t ht => by
    have hs := h.txs t ht
    rw [txR_nat]
    cases ho : s.txs.getD t none with
    | none =>
      rw [ho] at hs
      have hs : r.txs.getD t zR = zR := hs
      rw [hs]; simp [zR]
    | some x =>
      rw [ho] at hs
      have hs : TxSim s.vars.length m x (r.txs.getD t zR) := hs
      have h1 := hs.plen
      have h2 := hs.parts
      have h3 := hs.pulen
      exact ⟨by omega, by omega, by omega⟩
theorem Sim.readers (h : Sim m s r) (t : Int) : ((ofE s t).isSome = hasR r t) ∧ (hasR r t = true → readsE s t = (txR r t).reads ∧ startE s t = (txR r t).start ∧ (readsE s t).length ≤ m) ∧ (hasR r t = false → readsE s t = [] ∧ startE s t = 0) := by
  rcases h.of t with ⟨h1, h2⟩ | ⟨tn, x, e, ht, h1, h2, hx⟩
  · unfold readsE startE
    rw [h1, h2]
    exact ⟨rfl, (by intro hc; cases hc), fun _ => ⟨rfl, rfl⟩⟩
  · unfold readsE startE
    rw [h1, h2]
    exact ⟨rfl, fun _ => ⟨hx.reads.symm, hx.start.symm, hx.rlen⟩, by intro hc; cases hc⟩
end
end Go.Proofs.Ytcnbgamalhfkmaa.P
namespace Go.Proofs.Ytcnbgamalhfkmaa.P
open Go.RowKit Go.Proofs.YtcnbgamalhfkmaaW.PrintWords Go.Proofs.YtcnbgamalhfkmaaW.PrintLast Go.Proofs.YtcnbgamalhfkmaaW.PrintMore
set_option linter.unusedVariables false
set_option linter.unusedSimpArgs false
open Go.WideShapes Go.Maps Go.Shelf
section
variable {w0 W : World} {F : Nat → Prop} {g a m : Nat} {s : PEng} {r : REng}
set_option maxHeartbeats 8000000 in
set_option maxRecDepth 100000 in
theorem like_calls (h : PairF w0 F g a s r W) (hs : Sim m s r) (hn0 : VN s) (hlv : LV s) (hm : m ≤ 900) : Calls Try.prog 32 #[.pointer (some ⟨g, 0, none⟩), .pointer (some ⟨a, 0, none⟩)] W fun e w' => e = .returned (.bool true) ∧ Aside0 (Below W.heap.size W w') := by
  obtain ⟨ρ, cells, vs, σ, V, gt, tc, h1, h2, h3, h4, h5⟩ := h
  have HE := Aside0.mk h1
  have HR := Aside0.mk h2
  have HS := Aside0.mk hs
  have HV0 := Aside0.mk hn0
  have HL0 := Aside0.mk hlv
  clear hn0 hlv
  have k0 := h2.cell0
  have k1 := h2.cell1
  have k2 := h2.cell2
  obtain ⟨A, c, rfl⟩ := Kd.N_slice h2.vars
  have hvl := hs.vl
  obtain ⟨n, hn⟩ : ∃ n, s.vars.length = n := ⟨_, rfl⟩
  have HNN := Aside0.mk hn
  have hvs : r.vars.length = n := by rw [hs.vars]; exact hn
  have HVN := Aside0.mk hs.vars
  rw [hvs] at k1
  rw [hn] at hvl
  clear h1 h2 h3 h4 h5 hs hn
  have HVL := Aside0.mk hvs
  clear hvs
  go_enter Try.func32, Try.ntmps32
  go_wp2
  go_loopg [5, 6, 7, 8, 9] 10 (fun gg s5 _ _ _ _ wr => ∃ (t : Int), -1 ≤ t ∧ t ≤ 9 ∧ (9 - t).toNat ≤ gg ∧ s5 = .int .i64 t ∧ Aside0 (Below W.heap.size W wr))
  case atStart => exact ⟨-1, by omega, by omega, by omega, rfl, ⟨Below.refl _ _⟩⟩
  case round =>
    obtain ⟨t, ht0, ht9, hgg, rfl, HB⟩ := hrel
    by_cases hlt : t ≤ 8
    · have hact := active_calls (HE.out.below HB.out) t
      have hrd := reads_calls (HE.out.below HB.out) t (by
        obtain ⟨h1, h2, h3⟩ := HS.out.readers t
        cases hb : hasR r t with
        | true => have := (h2 hb).2.2; omega
        | false => rw [(h3 hb).1]; simp)
      have hrs := HS.out.readers t
      have HRS := Aside0.mk hrs
      clear hrs
      rcases (show t = -1 ∨ t = 8 ∨ (0 ≤ t ∧ t < 8) by omega) with rfl | rfl | ⟨hz, hz8⟩
      · have hf : hasR r (-1 : Int) = false := hasR_off (by decide)
        rw [HRS.out.1, hf] at hact
        rw [(HRS.out.2.2 hf).1] at hrd
        have HST := Aside0.mk (HRS.out.2.2 hf).2
        clear hf
        go_wp2_with fail
        refine hact.mono ?_; rintro e w1 ⟨rfl, rfl⟩
        clear hact
        go_wp2_with fail
        refine hrd.mono ?_; rintro e w2 ⟨v1, rfl, HN, HB2⟩
        clear hrd
        have hsame := same_calls HN.out (Kd.N_nil kI 3 w2 0 (fun _ => True)) (by simp)
        rw [decide_eq_true rfl] at hsame
        go_wp2_with fail
        refine hsame.mono ?_; rintro e w3 ⟨rfl, HB3⟩
        clear hsame
        have HB4 := Aside0.mk (HB.out.trans ((HB2.out.trans (HB3.out.mono HB2.out.size)).mono HB.out.size))
        have hst := start_calls (HE.out.below HB4.out) (-1 : Int)
        rw [HST.out] at hst
        go_wp2_with fail
        refine hst.mono ?_; rintro e w4 ⟨rfl, rfl⟩
        clear hst
        go_wp2
        go_roundg ((9 - ((-1 : Int) + 1)).toNat)
        case measure => omega
        case rel => exact ⟨(-1 : Int) + 1, by omega, by omega, by omega, by go_num, HB4⟩
      · have hf : hasR r (8 : Int) = false := hasR_off (by decide)
        rw [HRS.out.1, hf] at hact
        rw [(HRS.out.2.2 hf).1] at hrd
        have HST := Aside0.mk (HRS.out.2.2 hf).2
        clear hf
        go_wp2_with fail
        refine hact.mono ?_; rintro e w1 ⟨rfl, rfl⟩
        clear hact
        go_wp2_with fail
        refine hrd.mono ?_; rintro e w2 ⟨v1, rfl, HN, HB2⟩
        clear hrd
        have hsame := same_calls HN.out (Kd.N_nil kI 3 w2 0 (fun _ => True)) (by simp)
        rw [decide_eq_true rfl] at hsame
        go_wp2_with fail
        refine hsame.mono ?_; rintro e w3 ⟨rfl, HB3⟩
        clear hsame
        have HB4 := Aside0.mk (HB.out.trans ((HB2.out.trans (HB3.out.mono HB2.out.size)).mono HB.out.size))
        have hst := start_calls (HE.out.below HB4.out) (8 : Int)
        rw [HST.out] at hst
        go_wp2_with fail
        refine hst.mono ?_; rintro e w4 ⟨rfl, rfl⟩
        clear hst
        go_wp2
        go_roundg ((9 - ((8 : Int) + 1)).toNat)
        case measure => omega
        case rel => exact ⟨(8 : Int) + 1, by omega, by omega, by omega, by go_num, HB4⟩
      · obtain ⟨tn, rfl⟩ : ∃ tn : Nat, t = tn := ⟨t.toNat, by omega⟩
        have htn : tn < 8 := by omega
        obtain ⟨rd, pu, hc⟩ := (HR.out.below HB.out).cells htn
        have k2r := pw_cell_below HB.out k2
        have c0 := hc.c0
        have c1 := hc.c1
        have c2 := hc.c2
        have hrow := hc.reads
        obtain ⟨A2, d2, rfl⟩ := Kd.N_slice hrow
        have hh : hasR r (tn : Int) = (txR r tn).is := by rw [hasR_nat htn, txR_nat]
        clear hc
        cases hb : hasR r (tn : Int) with
        | false =>
          rw [← hh, hb] at c0
          rw [HRS.out.1, hb] at hact
          rw [(HRS.out.2.2 hb).1] at hrd
          have HST := Aside0.mk (HRS.out.2.2 hb).2
          clear hb hh c1 c2 hrow
          go_wp2_with fail
          refine hact.mono ?_; rintro e w1 ⟨rfl, rfl⟩
          clear hact
          go_wp2_with fail
          refine hrd.mono ?_; rintro e w2 ⟨v1, rfl, HN, HB2⟩
          clear hrd
          have hsame := same_calls HN.out (Kd.N_nil kI 3 w2 0 (fun _ => True)) (by simp)
          rw [decide_eq_true rfl] at hsame
          go_wp2_with fail
          refine hsame.mono ?_; rintro e w3 ⟨rfl, HB3⟩
          clear hsame
          have HB4 := Aside0.mk (HB.out.trans ((HB2.out.trans (HB3.out.mono HB2.out.size)).mono HB.out.size))
          have hst := start_calls (HE.out.below HB4.out) (tn : Int)
          rw [HST.out] at hst
          go_wp2_with fail
          refine hst.mono ?_; rintro e w4 ⟨rfl, rfl⟩
          clear hst
          go_wp2
          go_roundg ((9 - ((tn : Int) + 1)).toNat)
          case measure => omega
          case rel => exact ⟨(tn : Int) + 1, by omega, by omega, by omega, by go_num, HB4⟩
        | true =>
          rw [← hh, hb] at c0
          rw [HRS.out.1, hb] at hact
          obtain ⟨e1, e2, e3⟩ := HRS.out.2.1 hb
          have HLL := Aside0.mk (show (txR r tn).reads.length ≤ 1000000 by rw [← e1]; omega)
          rw [e1] at hrd
          have HST := Aside0.mk e2
          clear hb hh e1 e2 e3
          have HROW := Aside0.mk hrow
          clear hrow
          generalize (txR r tn).reads = rds at *
          generalize (txR r tn).start = st at *
          go_wp2_with fail
          refine hact.mono ?_; rintro e w1 ⟨rfl, rfl⟩
          clear hact
          go_wp2_with fail
          refine hrd.mono ?_; rintro e w2 ⟨v1, rfl, HN, HB2⟩
          clear hrd
          have hsame := same_calls HN.out (Kd.N_below HROW.out HB2.out) (by exact HLL.out)
          rw [decide_eq_true rfl] at hsame
          go_wp2_with fail
          refine hsame.mono ?_; rintro e w3 ⟨rfl, HB3⟩
          clear hsame
          have HB4 := Aside0.mk (HB.out.trans ((HB2.out.trans (HB3.out.mono HB2.out.size)).mono HB.out.size))
          have hst := start_calls (HE.out.below HB4.out) (tn : Int)
          rw [HST.out] at hst
          go_wp2_with fail
          refine hst.mono ?_; rintro e w4 ⟨rfl, rfl⟩
          clear hst
          go_wp2
          go_roundg ((9 - ((tn : Int) + 1)).toNat)
          case measure => omega
          case rel => exact ⟨(tn : Int) + 1, by omega, by omega, by omega, by go_num, HB4⟩
    · have hge : ¬ t ≤ 8 := hlt
      go_wp2
      go_loopg [10, 11, 12] (n + 2) (fun gg s10 _ _ wr => ∃ (j : Int), -1 ≤ j ∧ j ≤ n + 1 ∧ (n + 1 - j).toNat ≤ gg ∧ s10 = .int .i64 j ∧ Aside0 (Below W.heap.size W wr))
      case atStart => exact ⟨-1, by omega, by omega, by omega, rfl, HB⟩
      case round =>
        clear HB ht0 ht9 hgg hlt hge
        obtain ⟨j, hj0, hj1, hgg, rfl, HB⟩ := hrel
        have k1r := pw_cell_below HB.out k1
        rcases (show j = -1 ∨ j = n ∨ j = n + 1 ∨ (0 ≤ j ∧ j < n) by omega) with rfl | rfl | rfl | ⟨hz, hzn⟩
        · have hle : (-1 : Int) ≤ n := by omega
          have hne : (-1 : Int) ≠ n := by omega
          have hval := value_calls (HE.out.below HB.out) (-1 : Int)
          have hnew := newer_calls (HE.out.below HB.out) (-1 : Int) (-5)
          have hie : isE s (-1 : Int) = false := by unfold isE; rw [HNN.out]; simp
          rw [show valueE s (-1 : Int) = (0, 1) by unfold valueE; rw [hie]; rfl] at hval
          rw [show newerE s (-1 : Int) (-5) = false by unfold newerE; rw [hie]; rfl] at hnew
          clear hie
          go_wp2_with fail
          refine hval.mono ?_; rintro e w1 ⟨rfl, rfl⟩
          clear hval
          go_wp2_with fail
          refine hnew.mono ?_; rintro e w1 ⟨rfl, rfl⟩
          clear hnew
          go_wp2
          go_roundg ((n + 1 - ((-1 : Int) + 1)).toNat)
          case measure => omega
          case rel => exact ⟨(-1 : Int) + 1, by omega, by omega, by omega, by go_num, HB⟩
        · have hle : (n : Int) ≤ n := by omega
          have hge : ¬ (n : Int) < 0 := by omega
          have hval := value_calls (HE.out.below HB.out) (n : Int)
          have hnew := newer_calls (HE.out.below HB.out) (n : Int) (-5)
          have hie : isE s (n : Int) = false := by unfold isE; rw [HNN.out]; simp
          rw [show valueE s (n : Int) = (0, 1) by unfold valueE; rw [hie]; rfl] at hval
          rw [show newerE s (n : Int) (-5) = false by unfold newerE; rw [hie]; rfl] at hnew
          clear hie
          go_wp2_with fail
          refine hval.mono ?_; rintro e w1 ⟨rfl, rfl⟩
          clear hval
          go_wp2_with fail
          refine hnew.mono ?_; rintro e w1 ⟨rfl, rfl⟩
          clear hnew
          go_wp2
          go_roundg ((n + 1 - ((n : Int) + 1)).toNat)
          case measure => omega
          case rel => exact ⟨(n : Int) + 1, by omega, by omega, by omega, by go_num, HB⟩
        · have hgt : ¬ (n : Int) + 1 ≤ n := by omega
          have hwe := words_calls (HE.out.below HB.out) (HS.out.wok hm)
          go_wp2_with fail
          refine hwe.mono ?_; rintro e w1 ⟨va, rfl, HNa, HB1⟩
          clear hwe
          have HB1' := Aside0.mk (HB.out.trans (HB1.out.mono HB.out.size))
          have hwr := rwords_calls (HR.out.below HB1'.out) (HS.out.rok hm)
          go_wp2_with fail
          refine hwr.mono ?_; rintro e w2 ⟨vb, rfl, HNb, HB2⟩
          clear hwr
          have HB2' := Aside0.mk (HB1'.out.trans (HB2.out.mono HB1'.out.size))
          have hsame := same_calls (Kd.N_below HNa.out HB2.out) HNb.out (by have := HS.out.words_len hm; omega)
          rw [decide_eq_true HS.out.words] at hsame
          go_wp2_with fail
          refine hsame.mono ?_; rintro e w3 ⟨rfl, HB3⟩
          clear hsame
          have HB3' := Aside0.mk (HB2'.out.trans (HB3.out.mono HB2'.out.size))
          have q0 := pw_cell_below HB3'.out k0
          clear k1r HB HB1 HB1' HB2 HB2' HB3 HNa HNb
          go_wp2_with fail
          have HBD := Aside0.mk (below_drew HB3'.out)
          have hck := clock_calls (HE.out.below HBD.out)
          have q0d := pw_cell_below HBD.out k0
          have hcr := HS.out.clock
          rw [hcr] at q0d
          clear hcr q0
          go_region_held3 (fun w' => w'.cell? ⟨a, 0, none⟩ = some (.int .i64 s.clock))
            (first | exact q0d | assumption)
            (first | (refine goes_ Try.func23 (by kernel_rfl) rfl #[.pointer (some ⟨g, 0, none⟩)] (by rfl) rfl rfl (by simp [Act.eval, Act.put]) ?_; (with_reducible refine hck.mono ?_); rintro e W7 ⟨rfl, rfl⟩; refine ⟨_, rfl, ?_⟩))
          go_wp2
          go_ret
          exact ⟨rfl, HBD⟩
        · obtain ⟨k, rfl⟩ : ∃ k : Nat, j = k := ⟨j.toNat, by omega⟩
          have hk : k < n := by omega
          have hle : (k : Int) ≤ n := by omega
          have hge : ¬ (k : Int) < 0 := by omega
          have hne : (k : Int) ≠ n := by omega
          have hkv : k < r.vars.length := by rw [HVL.out]; exact hk
          have hks : k < s.vars.length := by rw [HNN.out]; exact hk
          obtain ⟨gv, cap, e, hcap, v0, v1, v2, vf⟩ := rowR_at (HR.out.below HB.out).vars hkv
          rw [HVL.out] at e
          cases e
          have hvk : r.vars[k] = varE s (k : Int) := by
            unfold varE
            rw [Int.toNat_natCast, List.getD_eq_getElem?_getD, List.getElem?_eq_getElem hks]
            simp only [HVN.out]; rfl
          rw [hvk] at v0 v1 v2
          have hver := HV0.out.varE (k : Int)
          have hie : isE s (k : Int) = true := isE_iff.2 (by omega)
          have hval := value_calls (HE.out.below HB.out) (k : Int)
          have hnew := newer_calls (HE.out.below HB.out) (k : Int) (varE s (k : Int)).version
          have hnew1 := newer_calls (HE.out.below HB.out) (k : Int) ((varE s (k : Int)).version - 1)
          rw [show valueE s (k : Int) = ((varE s (k : Int)).value, 0) by unfold valueE; rw [hie]; rfl] at hval
          rw [show newerE s (k : Int) (varE s (k : Int)).version = false by unfold newerE; rw [hie]; simp] at hnew
          rw [show newerE s (k : Int) ((varE s (k : Int)).version - 1) = true by unfold newerE; rw [hie]; simp; omega] at hnew1
          have hvc : (varE s (k : Int)).version ≤ 900 := by
            have h1 := HS.out.ck
            have h2 := HL0.out.ver _ (show varE s (k : Int) ∈ s.vars by
              have e : varE s (k : Int) = s.vars[k] := by unfold varE; rw [Int.toNat_natCast, List.getD_eq_getElem?_getD, List.getElem?_eq_getElem hks]; rfl
              rw [e]; exact List.getElem_mem hks)
            omega
          clear hie hvk v2 vf
          generalize (varE s (k : Int)).version = ver at *
          generalize (varE s (k : Int)).value = val at *
          have hvv : (val != val) = false := by simp
          have hbe : ((k : Int) == (n : Int)) = false := by simp; omega
          go_wp2_with fail
          refine hval.mono ?_; rintro e w1 ⟨rfl, rfl⟩
          clear hval
          go_wp2_with fail
          refine hnew.mono ?_; rintro e w1 ⟨rfl, rfl⟩
          clear hnew
          go_wp2_with fail
          refine hnew1.mono ?_; rintro e w1 ⟨rfl, rfl⟩
          clear hnew1
          go_wp2
          go_roundg ((n + 1 - ((k : Int) + 1)).toNat)
          case measure => omega
          case rel => exact ⟨(k : Int) + 1, by omega, by omega, by omega, by go_num, HB⟩
end
end Go.Proofs.Ytcnbgamalhfkmaa.P
