/- tl2: who holds the locks; versions and the clock: plain laws. tl2: a thread comes to its end: plain laws. tl2: states that some deeds have left; numbers folded. -/
import Derived.Test.YtcnbgamalhfkmaaMM
namespace Go.Proofs.Ytcnbgamalhfkmaa.P
set_option linter.unusedVariables false
set_option linter.unusedSimpArgs false
/-- What a thread that holds a lock of n has. -/
def Holds (n : Int) (x : PTx) : Prop := x.commits = true ∧ (x.pointed = false → n ∈ keysM (x.parts.getD 0 [])) ∧ (x.pointed = true → n ∈ x.left)
structure LV (s : PEng) : Prop where
  ver : ∀ v ∈ s.vars, v.version ≤ s.clock
  clk : 0 ≤ s.clock
  stamp : ∀ (t : Nat) (x : PTx), t < 8 → ofE s t = some x → x.pointed = true → x.stamp ≤ s.clock
  lock : ∀ (n t : Nat) (hn : n < s.vars.length), t < 8 → (s.vars[n]).lock = (t : Int) → ∃ x, ofE s t = some x ∧ Holds n x
  four : 4 ≤ s.vars.length
section
variable {m : Nat} {s : PEng} {r : REng} {x x' : PTx}
theorem ofE_set_same (h : s.txs.length = 8) {t : Nat} (ht : t < 8) (o : Option PTx) : ofE (setTx s (t : Int) o) t = o := by
  rw [ofE_nat ht]; simp [setTx, List.getD_eq_getElem?_getD, h, ht]
theorem ofE_set_ne {t t' : Nat} (h : t ≠ t') (ht' : t' < 8) (o : Option PTx) : ofE (setTx s (t : Int) o) t' = ofE s t' := by
  rw [ofE_nat ht', ofE_nat ht']
  simp only [setTx, List.getD_eq_getElem?_getD, Int.toNat_natCast]
  rw [List.getElem?_set_ne h]
theorem LV.setTx (h : LV s) (hl : s.txs.length = 8) {t : Nat} (ht : t < 8) {o : Option PTx} (h1 : ∀ x, o = some x → x.pointed = true → x.stamp ≤ s.clock) (h2 : ∀ (n : Nat) (hn : n < s.vars.length), (s.vars[n]).lock = (t : Int) → ∃ x, o = some x ∧ Holds n x) : LV (P.setTx s (t : Int) o) := by
  refine ⟨h.ver, h.clk, fun t' x' ht' hx' hp => ?_, fun n t' hn ht' hlk => ?_, h.four⟩
  · by_cases e : t = t'
    · subst e
      rw [ofE_set_same hl ht] at hx'
      exact h1 x' hx' hp
    · rw [ofE_set_ne e ht'] at hx'
      exact h.stamp t' x' ht' hx' hp
  · by_cases e : t = t'
    · subst e
      rw [ofE_set_same hl ht]
      exact h2 n hn hlk
    · rw [ofE_set_ne e ht']
      exact h.lock n t' hn ht' hlk
/-- A transaction that does not commit is turned. -/
theorem LV.open_ (h : LV s) (hl : s.txs.length = 8) {t : Nat} (ht : t < 8) (hx : ofE s t = some x) (hc : x.commits = false) (hp : x'.pointed = false) : LV (P.setTx s (t : Int) (some x')) :=
  h.setTx hl ht (fun y hy hyp => by injection hy with e; subst e; rw [hp] at hyp; cases hyp) (fun n hn hlk => by
    obtain ⟨y, hy, hh⟩ := h.lock n t hn ht hlk
    rw [hx] at hy
    injection hy with e
    subst e
    have hh1 := hh.1
    rw [hc] at hh1
    cases hh1)
theorem LV.commit (h : LV s) (hl : s.txs.length = 8) {t : Nat} (ht : t < 8) (hx : ofE s t = some x) : LV (P.setTx s (t : Int) (some { x with commits := true })) :=
  h.setTx hl ht (fun y hy hyp => by injection hy with e; subst e; exact h.stamp t x ht hx hyp) (fun n hn hlk => by
    obtain ⟨y, hy, hh⟩ := h.lock n t hn ht hlk
    rw [hx] at hy
    injection hy with e
    subst e
    exact ⟨_, rfl, rfl, hh.2⟩)
theorem getElem_setVar {n : Nat} {v : PVar} {k : Nat} (hk : k < (setVar s (n : Int) v).vars.length) : (setVar s (n : Int) v).vars[k] = if n = k then v else s.vars[k]'(by simpa [setVar] using hk) := by
  simp only [setVar, Int.toNat_natCast, List.getElem_set]
theorem LV.step (h : LV s) (hs : Sim m s r) (t : Int) : LV (stepE s t).2.2 := by
  rcases hs.of t with ⟨h1, h2⟩ | ⟨tn, x, e, ht, h1, h2, hx⟩
  · rw [stepE_none h1]; exact h
  · subst e
    have hl8 := hs.lenE
    by_cases hl : 1 < x.parts.length
    · rw [stepE_many h1 hl]; exact h
    · have h0 := h.commit hl8 ht h1
      have hkey : ∀ n ∈ keysM (x.parts.getD 0 []), 0 ≤ n ∧ n < s.vars.length := hx.key0
      cases hp : x.pointed with
      | true =>
        obtain ⟨_, _, h3, h4, h5⟩ := hx.left hp
        have hd : (txR r (tn : Int)).done.toNat < ((x.parts.getD 0 []).map (·.1)).length := by omega
        have hlm : ∀ n ∈ x.left, 0 ≤ n ∧ n < s.vars.length := fun n hn => hkey n (by rw [h5] at hn; exact List.mem_of_mem_drop hn)
        rw [List.drop_eq_getElem_cons hd] at h5
        rw [stepE_left h1 hl hp h5]
        have hst := h.stamp tn x ht h1 hp
        rw [h5] at hlm
        generalize hn0 : ((x.parts.getD 0 []).map (·.1))[(txR r (tn : Int)).done.toNat] = n at *
        generalize (((x.parts.getD 0 []).map (·.1)).drop ((txR r (tn : Int)).done.toNat + 1)) = l at *
        have hnr := hlm n List.mem_cons_self
        obtain ⟨k, rfl⟩ : ∃ k : Nat, n = k := ⟨n.toNat, by omega⟩
        generalize (getM (x.parts.getD 0 []) (k : Int)).getD 0 = v
        have hfin : ∀ o : Option PTx, (∀ y, o = some y → y.stamp = x.stamp) → (∀ j : Nat, (j : Int) ∈ l → ∃ y, o = some y ∧ Holds j y) → LV (P.setTx (setVar (P.setTx s (tn : Int) (some { x with commits := true })) (k : Int) ⟨v, x.stamp, -1⟩) (tn : Int) o) := fun o ho1 ho2 => by
          refine ⟨fun w hw => ?_, h.clk, fun t' x' ht' hx' hpp => ?_, fun j t' hj ht' hlk => ?_, ?_⟩
          · rcases List.mem_or_eq_of_mem_set (show w ∈ s.vars.set (k : Int).toNat ⟨v, x.stamp, -1⟩ from hw) with hw | e
            · exact h.ver w hw
            · rw [e]; exact hst
          · by_cases e : tn = t'
            · subst e
              rw [ofE_set_same (by simp [setVar, P.setTx, hl8]) ht] at hx'
              rw [ho1 x' hx']; exact hst
            · rw [ofE_set_ne e ht'] at hx'
              have hx2 : ofE (P.setTx s (tn : Int) (some { x with commits := true })) t' = some x' := hx'
              rw [ofE_set_ne e ht'] at hx2
              exact h.stamp t' x' ht' hx2 hpp
          · have hj' : j < (setVar (P.setTx s (tn : Int) (some { x with commits := true })) (k : Int) ⟨v, x.stamp, -1⟩).vars.length := hj
            have hjs : j < s.vars.length := by simpa [setVar, P.setTx] using hj'
            have hlk' : ((setVar (P.setTx s (tn : Int) (some { x with commits := true })) (k : Int) ⟨v, x.stamp, -1⟩).vars[j]'hj').lock = (t' : Int) := hlk
            rw [getElem_setVar hj'] at hlk'
            by_cases ej : k = j
            · rw [if_pos ej] at hlk'
              have : (-1 : Int) = (t' : Int) := hlk'
              omega
            · rw [if_neg ej] at hlk'
              have hlk2 : (s.vars[j]'hjs).lock = (t' : Int) := hlk'
              obtain ⟨y, hy, hh⟩ := h.lock j t' hjs ht' hlk2
              by_cases e : tn = t'
              · subst e
                rw [h1] at hy
                injection hy with ey
                subst ey
                rw [ofE_set_same (by simp [setVar, P.setTx, hl8]) ht]
                refine ho2 j ?_
                have := hh.2.2 hp
                rw [h5] at this
                rcases List.mem_cons.1 this with e2 | e2
                · exact absurd (by omega) ej
                · exact e2
              · rw [ofE_set_ne e ht']
                refine ⟨y, ?_, hh⟩
                show ofE (P.setTx s (tn : Int) (some { x with commits := true })) t' = some y
                rw [ofE_set_ne e ht']; exact hy
          · show 4 ≤ (s.vars.set _ _).length
            rw [List.length_set]; exact h.four
        split
        · next hem =>
          refine hfin none (fun y hy => by cases hy) (fun j hj => ?_)
          have : l = [] := by simpa using hem
          rw [this] at hj; cases hj
        · exact hfin _ (fun y hy => by injection hy with e; subst e; rfl) (fun j hj => ⟨_, rfl, rfl, fun e => (by have e : x.pointed = false := e; rw [hp] at e; cases e), fun _ => hj⟩)
      | false =>
        cases hlk : lockL s (tn : Int) (keysM (x.parts.getD 0 [])) with
        | some n =>
          rw [stepE_lock h1 hl hp hlk]
          obtain ⟨hmem, hne⟩ := lockL_mem hlk
          have hnr := hkey n hmem
          obtain ⟨k, rfl⟩ : ∃ k : Nat, n = k := ⟨n.toNat, by omega⟩
          have hk : k < s.vars.length := by omega
          split
          · have hvk : varE s (k : Int) = s.vars[k] := varE_at hk
            rw [hvk]
            refine ⟨fun w hw => ?_, h.clk, h0.stamp, fun j t' hj ht' hlj => ?_, ?_⟩
            · rcases List.mem_or_eq_of_mem_set (show w ∈ s.vars.set (k : Int).toNat { s.vars[k] with lock := (tn : Int) } from hw) with hw | e
              · exact h.ver w hw
              · rw [e]; show s.vars[k].version ≤ s.clock; exact h.ver _ (List.getElem_mem hk)
            · have hj' : j < (setVar (P.setTx s (tn : Int) (some { x with commits := true })) (k : Int) { s.vars[k] with lock := (tn : Int) }).vars.length := hj
              have hlj' : ((setVar (P.setTx s (tn : Int) (some { x with commits := true })) (k : Int) { s.vars[k] with lock := (tn : Int) }).vars[j]'hj').lock = (t' : Int) := hlj
              rw [getElem_setVar hj'] at hlj'
              by_cases ej : k = j
              · rw [if_pos ej] at hlj'
                have e : tn = t' := by have : (tn : Int) = (t' : Int) := hlj'; omega
                subst e
                refine ⟨{ x with commits := true }, ofE_set_same hl8 ht _, rfl, fun _ => ?_, fun e => by have e : x.pointed = true := e; rw [hp] at e; cases e⟩
                rw [← ej]; exact hmem
              · rw [if_neg ej] at hlj'
                exact h0.lock j t' (by simpa [setVar, P.setTx] using hj') ht' hlj'
            · show 4 ≤ (s.vars.set _ _).length
              rw [List.length_set]; exact h.four
          · exact h0
        | none =>
          rw [stepE_rest h1 hl hp hlk]
          split
          · exact h0
          · split
            · next hem =>
              refine h0.setTx (by simp [P.setTx, hl8]) ht (fun y hy => by cases hy) (fun j hj hlj => ?_)
              obtain ⟨y, hy, hh⟩ := h0.lock j tn hj ht hlj
              rw [ofE_set_same hl8 ht] at hy
              injection hy with e
              subst e
              have := hh.2.1 hp
              have he : keysM (x.parts.getD 0 []) = [] := by simpa using hem
              have this : (j : Int) ∈ keysM (x.parts.getD 0 []) := this
              rw [he] at this; cases this
            · have hb : LV (P.setTx s (tn : Int) (some { x with commits := true, pointed := true, stamp := s.clock, left := keysM (x.parts.getD 0 []) })) :=
                h.setTx hl8 ht (fun y hy _ => by injection hy with e; subst e; exact Int.le_refl _) (fun j hj hlj => by
                  obtain ⟨y, hy, hh⟩ := h.lock j tn hj ht hlj
                  rw [h1] at hy
                  injection hy with e
                  subst e
                  exact ⟨_, rfl, rfl, fun e => (by cases e), fun _ => hh.2.1 hp⟩)
              refine ⟨fun v hv => ?_, ?_, fun t' x' ht' hx' hpp => ?_, fun j t' hj ht' hlj => ?_, h.four⟩
              · have := h.ver v hv; show v.version ≤ s.clock + 1; omega
              · have := h.clk; show 0 ≤ s.clock + 1; omega
              · have hx2 : ofE (P.setTx s (tn : Int) (some { x with commits := true, pointed := true, stamp := s.clock + 1, left := keysM (x.parts.getD 0 []) })) t' = some x' := hx'
                show x'.stamp ≤ s.clock + 1
                by_cases e : tn = t'
                · subst e
                  rw [ofE_set_same hl8 ht] at hx2
                  injection hx2 with e
                  subst e; exact Int.le_refl _
                · rw [ofE_set_ne e ht'] at hx2
                  have := h.stamp t' x' ht' hx2 hpp; omega
              · obtain ⟨y, hy, hh⟩ := hb.lock j t' hj ht' hlj
                by_cases e : tn = t'
                · subst e
                  rw [ofE_set_same hl8 ht] at hy
                  injection hy with e
                  subst e
                  exact ⟨_, ofE_set_same hl8 ht _, hh⟩
                · rw [ofE_set_ne e ht'] at hy
                  refine ⟨y, ?_, hh⟩
                  show ofE (P.setTx s (tn : Int) _) t' = some y
                  rw [ofE_set_ne e ht']; exact hy
theorem LV.abort (h : LV s) (hs : Sim m s r) (t : Int) : LV (abortE s t).2 := by
  unfold abortE
  rcases hs.of t with ⟨g1, g2⟩ | ⟨tn, x, e, ht, g1, g2, hx⟩
  · rw [g1]; exact h
  · rw [g1]
    subst e
    dsimp only
    split
    · exact h
    · refine ⟨fun v hv => ?_, h.clk, fun t' x' ht' hx' hp => ?_, fun j t' hj ht' hlj => ?_, ?_⟩
      · obtain ⟨w, hw, e⟩ := List.mem_map.1 (show v ∈ s.vars.map fun v => if v.lock == (tn : Int) then { v with lock := -1 } else v from hv)
        have := h.ver w hw
        rw [← e]
        split <;> exact this
      · have hx2 : ofE (P.setTx { s with vars := s.vars.map fun v => if v.lock == (tn : Int) then { v with lock := -1 } else v } (tn : Int) none) t' = some x' := hx'
        by_cases e : tn = t'
        · subst e
          rw [ofE_set_same (s := { s with vars := s.vars.map fun v => if v.lock == (tn : Int) then { v with lock := -1 } else v }) hs.lenE ht] at hx2; cases hx2
        · rw [ofE_set_ne e ht'] at hx2
          exact h.stamp t' x' ht' hx2 hp
      · have hjs : j < s.vars.length := by simpa [P.setTx] using hj
        have hlj2 : ((s.vars.map fun v => if v.lock == (tn : Int) then { v with lock := -1 } else v)[j]'(by simpa using hjs)).lock = (t' : Int) := hlj
        rw [List.getElem_map] at hlj2
        by_cases e2 : s.vars[j].lock = (tn : Int)
        · rw [if_pos (by simpa using e2)] at hlj2
          have : (-1 : Int) = (t' : Int) := hlj2
          omega
        · rw [if_neg (by simpa using e2)] at hlj2
          have e : tn ≠ t' := fun e => e2 (by rw [e]; exact hlj2)
          obtain ⟨y, hy, hh⟩ := h.lock j t' hjs ht' hlj2
          refine ⟨y, ?_, hh⟩
          rw [ofE_set_ne e ht']; exact hy
      · show 4 ≤ (s.vars.map _).length
        rw [List.length_map]; exact h.four
theorem lv_step (h : LV s) (hs : Sim m s r) (d : PDeed) : LV (doE s d).2.2 := by
  obtain ⟨k, t, n, v⟩ := d
  unfold doE
  dsimp only
  have hl8 := hs.lenE
  by_cases h0 : k = 0
  · rw [if_pos h0]
    unfold beginE
    cases hi : inT t with
    | false => exact h
    | true =>
      obtain ⟨tn, rfl, ht⟩ := nat_of_inT hi
      cases ho : ofE s (tn : Int) with
      | some x => exact h
      | none =>
        refine h.setTx hl8 ht (fun x hx hp => ?_) (fun j hj hlj => ?_)
        · injection hx with e
          subst e; cases hp
        · obtain ⟨y, hy, _⟩ := h.lock j tn hj ht hlj
          rw [ho] at hy; cases hy
  rw [if_neg h0]
  by_cases h1 : k = 1
  · rw [if_pos h1]
    unfold readE
    rcases hs.open_ t with ⟨g1, g2⟩ | ⟨tn, x, e, ht, g0, g1, g2, hc, hx⟩
    · rw [g1]; exact h
    · rw [g1]
      subst e
      have ho := fun (x' : PTx) (hp : x'.pointed = false) => h.open_ (x' := x') hl8 ht g0 hc hp
      have hpf := hx.unpointed hc
      dsimp only
      split
      · exact h
      · split
        · exact h
        · try dsimp only
          split
          · exact h
          · try dsimp only
            split
            · exact h
            · exact ho _ hpf
  rw [if_neg h1]
  by_cases h2 : k = 2
  · rw [if_pos h2]
    unfold writeE
    rcases hs.open_ t with ⟨g1, g2⟩ | ⟨tn, x, e, ht, g0, g1, g2, hc, hx⟩
    · rw [g1]; exact h
    · rw [g1]
      subst e
      dsimp only
      split
      · exact h
      · exact h.open_ hl8 ht g0 hc (hx.unpointed hc)
  rw [if_neg h2]
  by_cases h3 : k = 3
  · rw [if_pos h3]; exact h.step hs t
  rw [if_neg h3]
  by_cases h4 : k = 4
  · rw [if_pos h4]
    unfold partE
    rcases hs.open_ t with ⟨g1, g2⟩ | ⟨tn, x, e, ht, g0, g1, g2, hc, hx⟩
    · rw [g1]; exact h
    · rw [g1]
      subst e
      exact h.open_ hl8 ht g0 hc (hx.unpointed hc)
  rw [if_neg h4]
  have shut : ∀ keep : Bool, LV (shutE s t keep).2 := fun keep => by
    unfold shutE
    rcases hs.open_ t with ⟨g1, g2⟩ | ⟨tn, x, e, ht, g0, g1, g2, hc, hx⟩
    · rw [g1]; exact h
    · rw [g1]
      subst e
      dsimp only
      split
      · exact h
      · exact h.open_ hl8 ht g0 hc (hx.unpointed hc)
  by_cases h5 : k = 5
  · rw [if_pos h5]; exact shut true
  rw [if_neg h5]
  by_cases h6 : k = 6
  · rw [if_pos h6]; exact shut false
  rw [if_neg h6]
  by_cases h7 : k = 7
  · rw [if_pos h7]; exact h.abort hs t
  rw [if_neg h7]
  by_cases h8 : k = 8
  · rw [if_pos h8]
    unfold makeE
    split
    · exact h
    · refine ⟨fun w hw => ?_, h.clk, h.stamp, fun j t' hj ht' hlj => ?_, ?_⟩
      · rcases List.mem_append.1 hw with hw | hw
        · exact h.ver w hw
        · rw [List.mem_singleton.1 hw]; exact h.clk
      · have hj2 : j < (s.vars ++ [(⟨v, 0, -1⟩ : PVar)]).length := hj
        have hlj2 : ((s.vars ++ [(⟨v, 0, -1⟩ : PVar)])[j]'hj2).lock = (t' : Int) := hlj
        by_cases ej : j < s.vars.length
        · rw [List.getElem_append_left ej] at hlj2
          exact h.lock j t' ej ht' hlj2
        · rw [List.getElem_append_right (by omega)] at hlj2
          simp at hlj2
      · show 4 ≤ (s.vars ++ [(⟨v, 0, -1⟩ : PVar)]).length
        have := h.four
        rw [List.length_append]; omega
  rw [if_neg h8]
  by_cases h9 : k = 9
  · rw [if_pos h9]; exact h
  rw [if_neg h9]
  exact h
theorem lv_beg : LV (begE 4) where
  ver := fun v hv => by
    have : (begE 4).vars = [⟨10, 0, -1⟩, ⟨11, 0, -1⟩, ⟨12, 0, -1⟩, ⟨13, 0, -1⟩] := rfl
    rw [this] at hv
    simp at hv
    rcases hv with rfl | rfl | rfl | rfl <;> exact Int.le_refl _
  clk := by decide
  stamp := fun t x ht hx => by
    match t, ht, hx with
    | 0, _, hx => cases hx | 1, _, hx => cases hx | 2, _, hx => cases hx | 3, _, hx => cases hx | 4, _, hx => cases hx | 5, _, hx => cases hx | 6, _, hx => cases hx | 7, _, hx => cases hx
  lock := fun n t hn ht hlk => by
    have hall : ∀ w ∈ (begE 4).vars, w.lock = -1 := fun w hw => by
      have : (begE 4).vars = [⟨10, 0, -1⟩, ⟨11, 0, -1⟩, ⟨12, 0, -1⟩, ⟨13, 0, -1⟩] := rfl
      rw [this] at hw
      simp at hw
      rcases hw with rfl | rfl | rfl | rfl <;> rfl
    have := hall _ (List.getElem_mem hn)
    rw [this] at hlk
    omega
  four := by decide
end
end Go.Proofs.Ytcnbgamalhfkmaa.P
namespace Go.Proofs.Ytcnbgamalhfkmaa.P
set_option linter.unusedVariables false
set_option linter.unusedSimpArgs false
def endE (s : PEng) (t : Int) (x : PTx) : PEng := if x.pointed then (stepE s t).2.2 else (abortE s t).2
def endR (r : REng) (t : Int) (x : PTx) : REng := if x.pointed then (stepR r t).2.2 else (abortR r t).2
/-- What is left of those that are behind their point. -/
def LB (b : Nat) (s : PEng) : Prop := ∀ (t : Nat) (x : PTx), t < 8 → ofE s t = some x → x.pointed = true → x.left.length ≤ b
section
variable {m b : Nat} {s : PEng} {r : REng} {x : PTx}
theorem Sim.lb (h : Sim m s r) : LB m s := fun t x ht hx hp => by
  rcases h.of t with ⟨h1, _⟩ | ⟨tn, x', e, ht', h1, h2, hs⟩
  · rw [h1] at hx; cases hx
  · rw [h1] at hx
    injection hx with e2
    subst e2
    obtain ⟨_, h3, _, _, h4⟩ := hs.left hp
    rw [h4, List.length_drop, List.length_map]
    have hl := List.length_pos_iff.2 hs.one
    have e0 : x'.parts.getD 0 [] = x'.parts[0] := by rw [List.getD_eq_getElem?_getD, List.getElem?_eq_getElem hl]; rfl
    rw [e0]
    have := load_mem (List.getElem_mem hl)
    have := hs.load
    omega
theorem abort_of {t : Int} (hx : ofE s t = some x) : (abortE s t).1 = if x.pointed then 1 else 0 := by
  unfold abortE
  rw [hx]
  dsimp only
  split <;> rfl
theorem ofE_vars {s : PEng} {vs : List PVar} {c : Int} (t : Int) : ofE { s with vars := vs, clock := c } t = ofE s t := rfl
/-- One round of the end. -/
theorem end_round (h : Sim m s r) (hl : LV s) {t : Nat} (ht : t < 8) (hx : ofE s (t : Int) = some x) : Sim (m + 1) (endE s t x) (endR r t x) ∧ LV (endE s t x) ∧ (∀ t' : Nat, t' < 8 → t' ≠ t → ofE (endE s t x) t' = ofE s t') ∧
    (ofE (endE s t x) t = none ∨ ∃ x', ofE (endE s t x) t = some x' ∧ x.pointed = true ∧ x'.pointed = true ∧ x'.left.length + 1 = x.left.length) := by
  cases hp : x.pointed with
  | true =>
    have e1 : endE s t x = (stepE s t).2.2 := by unfold endE; rw [if_pos hp]
    have e2 : endR r t x = (stepR r t).2.2 := by unfold endR; rw [if_pos hp]
    rw [e1, e2]
    refine ⟨(h.step t).2.2, hl.step h t, ?_⟩
    rcases h.of t with ⟨h1, _⟩ | ⟨tn, x', e, ht', h1, h2, hs⟩
    · rw [h1] at hx; cases hx
    · have et : t = tn := by omega
      subst et
      rw [h1] at hx
      injection hx with e2
      subst e2
      obtain ⟨_, h3, h4, h5, h6⟩ := hs.left hp
      have hd : (txR r (t : Int)).done.toNat < ((x'.parts.getD 0 []).map (·.1)).length := by omega
      rw [List.drop_eq_getElem_cons hd] at h6
      rw [stepE_left h1 (by omega) hp h6]
      have hl8 : ∀ v, (setVar (setTx s (t : Int) (some { x' with commits := true })) (((x'.parts.getD 0 []).map (·.1))[(txR r (t : Int)).done.toNat]) v).txs.length = 8 := fun v => by simp [setVar, setTx, h.lenE]
      split
      · refine ⟨fun t' ht'' hne => ?_, .inl (ofE_set_same (hl8 _) ht _)⟩
        rw [ofE_set_ne (Ne.symm hne) ht'']
        show ofE (setTx s (t : Int) (some { x' with commits := true })) t' = _
        rw [ofE_set_ne (Ne.symm hne) ht'']
      · refine ⟨fun t' ht'' hne => ?_, .inr ⟨_, ofE_set_same (hl8 _) ht _, rfl, hp, ?_⟩⟩
        · rw [ofE_set_ne (Ne.symm hne) ht'']
          show ofE (setTx s (t : Int) (some { x' with commits := true })) t' = _
          rw [ofE_set_ne (Ne.symm hne) ht'']
        · rw [h6]; rfl
  | false =>
    have e1 : endE s t x = (abortE s t).2 := by unfold endE; rw [if_neg (by simp [hp])]
    have e2 : endR r t x = (abortR r t).2 := by unfold endR; rw [if_neg (by simp [hp])]
    rw [e1, e2]
    refine ⟨(h.abort t).2.mono (Nat.le_succ m), hl.abort h t, ?_⟩
    unfold abortE
    rw [hx]
    simp only [hp, Bool.false_eq_true, if_false]
    refine ⟨fun t' ht'' hne => ?_, .inl ?_⟩
    · rw [ofE_set_ne (Ne.symm hne) ht'']; rfl
    · exact ofE_set_same (s := { s with vars := s.vars.map fun v => if v.lock == (t : Int) then { v with lock := -1 } else v }) h.lenE ht _
end
/-- Thread t is under way to its end, i rounds gone. -/
def Going (b : Nat) (s : PEng) (t i : Nat) : Prop := ofE s t = none ∨ ∃ x, ofE s t = some x ∧ (x.pointed = false → i = 0) ∧ (x.pointed = true → x.left.length + i ≤ b)
theorem Going.start {b : Nat} {s : PEng} (h : LB b s) {t : Nat} (ht : t < 8) : Going b s t 0 := by
  cases hx : ofE s t with
  | none => exact .inl hx
  | some x => exact .inr ⟨x, hx, fun _ => rfl, fun hp => h t x ht hx hp⟩
theorem Going.none_at {b : Nat} {s : PEng} {t i : Nat} (h : Going b s t i) (hi : b < i) : ofE s t = none := by
  rcases h with h | ⟨x, h1, h2, h3⟩
  · exact h
  · cases hp : x.pointed with
    | false => have := h2 hp; omega
    | true => have := h3 hp; omega
theorem Going.next {m b : Nat} {s : PEng} {r : REng} {t i : Nat} {x : PTx} (h : Going b s t i) (hs : Sim m s r) (hl : LV s) (ht : t < 8) (hx : ofE s (t : Int) = some x) : Going b (endE s t x) t (i + 1) := by
  obtain ⟨_, _, _, h4⟩ := end_round hs hl ht hx
  rcases h4 with h4 | ⟨x', h5, h6, h7, h8⟩
  · exact .inl h4
  · refine .inr ⟨x', h5, fun e => (by rw [h7] at e; cases e), fun _ => ?_⟩
    rcases h with h | ⟨y, g1, g2, g3⟩
    · rw [h] at hx; cases hx
    · rw [g1] at hx
      injection hx with e
      subst e
      have := g3 h6
      omega
theorem LB.next {m b : Nat} {s : PEng} {r : REng} {t : Nat} {x : PTx} (h : LB b s) (hs : Sim m s r) (hl : LV s) (ht : t < 8) (hx : ofE s (t : Int) = some x) : LB b (endE s t x) := fun t' y ht' hy hp => by
  obtain ⟨_, _, h3, h4⟩ := end_round hs hl ht hx
  by_cases e : t' = t
  · subst e
    rcases h4 with h4 | ⟨x', h5, h6, h7, h8⟩
    · rw [h4] at hy; cases hy
    · rw [h5] at hy
      injection hy with e
      subst e
      have := h t' x ht hx h6
      omega
  · rw [h3 t' ht' e] at hy
    exact h t' y ht' hy hp
end Go.Proofs.Ytcnbgamalhfkmaa.P
namespace Go.Proofs.Ytcnbgamalhfkmaa.P
open Go.RowKit Go.Proofs.YtcnbgamalhfkmaaW.PrintWords Go.Proofs.YtcnbgamalhfkmaaW.PrintLast Go.Proofs.YtcnbgamalhfkmaaW.PrintMore
set_option linter.unusedVariables false
set_option linter.unusedSimpArgs false
/-- A state that some deeds have left. -/
def Fine (s : PEng) : Prop := ∃ (m : Nat) (r : REng), m ≤ 900 ∧ Sim m s r
theorem in64_small {n : Int} (h : -1000000 ≤ n ∧ n ≤ 1000000) : in64 n := by unfold in64; omega
theorem Fine.es {s : PEng} (h : Fine s) (t : Int) : ∀ x, ofE s t = some x → StepOK s x := fun x hx => by
  obtain ⟨m, r, hm, hs⟩ := h
  rcases hs.of t with ⟨h1, _⟩ | ⟨tn, x', e, ht, h1, h2, hxs⟩
  · rw [h1] at hx; cases hx
  · rw [h1] at hx
    injection hx with e
    subst e
    exact hs.stepOK hm hxs
theorem Fine.eo {s : PEng} (h : Fine s) (t : Int) : ∀ x, openE s t = some x → x.parts ≠ [] ∧ x.parts.length ≤ 1000 ∧ (∀ p ∈ x.parts, p.length ≤ 1000) ∧ x.reads.length ≤ 1000 ∧ ∀ n ∈ x.reads, isE s n = true := fun x ho => by
  obtain ⟨m, r, hm, hs⟩ := h
  rcases hs.open_ t with ⟨h1, _⟩ | ⟨tn, x', e, ht, h0, h1, h2, hc, hx⟩
  · rw [h1] at ho; cases ho
  · rw [h1] at ho
    injection ho with ho
    subst ho
    exact ⟨hx.one, by have := hx.plen; omega, fun p hp => by have := load_mem hp; have := hx.load; omega, by have := hx.rlen; omega, fun n hn => (hs.isE_of (hx.rin n hn)).1⟩
theorem Fine.er {s : PEng} (h : Fine s) (t : Int) : ∀ x, openE s t = some x → x.parts ≠ [] ∧ x.parts.length ≤ 100000 ∧ x.reads.length ≤ 100000 := fun x hx => by
  obtain ⟨a, b, _, c, _⟩ := h.eo t x hx
  exact ⟨a, by omega, by omega⟩
theorem Fine.ew {s : PEng} (h : Fine s) (t : Int) : ∀ x, openE s t = some x → x.parts ≠ [] ∧ x.parts.length ≤ 100000 ∧ ∀ p ∈ x.parts, p.length ≤ 100000 := fun x hx => by
  obtain ⟨a, b, c, _⟩ := h.eo t x hx
  exact ⟨a, by omega, fun p hp => by have := c p hp; omega⟩
theorem abort_same {s : PEng} {t : Int} {x : PTx} (hx : ofE s t = some x) (hp : x.pointed = true) : abortE s t = (1, s) := by
  unfold abortE
  rw [hx]
  simp only [hp, if_true]
/-- n folded into 0 .. m - 1, as the laws do it. -/
def absJ (n : Int) : Int := if n < 0 then -(n + 1) else n
theorem absJ_in {n : Int} (h : in64 n) : 0 ≤ absJ n ∧ absJ n ≤ 9223372036854775807 := by unfold in64 at h; unfold absJ; split <;> omega
theorem modJ {m n : Int} (hm : 0 < m) : 0 ≤ n % m ∧ n % m < m := ⟨Int.emod_nonneg _ (by omega), Int.emod_lt_of_pos _ hm⟩
/-- The deed at i, in a later world. -/
theorem DeedsAt.get {w W : World} {A : Option Addr} {l : List PDeed} (h : DeedsAt w A l) (hb : Below w.heap.size w W) {i : Nat} (hi : i < l.length) : ∃ ad, A = some ad ∧ PDeed.ok l[i] ∧ W.cell? (ad.add (i * 4)) = some (.int .i64 l[i].k) ∧ W.cell? ⟨(ad.add (i * 4)).block, (ad.add (i * 4)).off + 1, none⟩ = some (.int .i64 l[i].t) ∧
    W.cell? ⟨(ad.add (i * 4)).block, (ad.add (i * 4)).off + 2, none⟩ = some (.int .i64 l[i].n) ∧ W.cell? ⟨(ad.add (i * 4)).block, (ad.add (i * 4)).off + 3, none⟩ = some (.int .i64 l[i].v) := by
  obtain ⟨ad, e, ok, c0, c1, c2, c3⟩ := h i hi
  exact ⟨ad, e, ok, pw_cell_below hb c0, pw_cell_below hb c1, pw_cell_below hb c2, pw_cell_below hb c3⟩
end Go.Proofs.Ytcnbgamalhfkmaa.P
