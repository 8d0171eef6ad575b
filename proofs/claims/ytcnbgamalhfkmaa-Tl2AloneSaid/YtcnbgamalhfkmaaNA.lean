/- tl2: the plain law of Alone. tl2: Alone walked. As long as no other thread does a step of a commit, a transaction never fails. -/
import Derived.Test.YtcnbgamalhfkmaaMM
import Derived.Test.YtcnbgamalhfkmaaMN
import Derived.Test.YtcnbgamalhfkmaaRows
import Derived.Test.YtcnbgamalhfkmaaML
import Derived.WalkKit
import Derived.ProofKit
import Derived.OpenShut
import Derived.ShutString
import Derived.ChangeOld
import Derived.Below
import Derived.SizedLaws
import Derived.Carry
namespace Go.Proofs.Ytcnbgamalhfkmaa.P
set_option linter.unusedVariables false
set_option linter.unusedSimpArgs false
def AloneTx (s : PEng) (x : PTx) : Prop := (x.pointed = false → ∀ v ∈ s.vars, v.version ≤ x.start) ∧ 0 ≤ x.start ∧ x.start ≤ s.clock ∧ (x.pointed = true → x.stamp ≤ s.clock)
structure AloneInv (s : PEng) : Prop where
  lock : ∀ v ∈ s.vars, v.lock = -1 ∨ v.lock = 0
  ver : ∀ v ∈ s.vars, v.version ≤ s.clock
  clk : 0 ≤ s.clock
  len : s.txs.length = 8
  tx : ∀ x, ofE s 0 = some x → AloneTx s x
section
variable {m : Nat} {s : PEng} {r : REng} {x x' : PTx}
theorem ofE_zero (s : PEng) : ofE s 0 = s.txs.getD 0 none := rfl
theorem ofE_setTx0 (h : s.txs.length = 8) (o : Option PTx) : ofE (setTx s 0 o) 0 = o := by
  rw [ofE_zero]; simp [setTx, List.getD_eq_getElem?_getD, h]
theorem ofE_setTxn {t : Nat} (ht : t ≠ 0) (o : Option PTx) : ofE (setTx s (t : Int) o) 0 = ofE s 0 := by
  rw [ofE_zero, ofE_zero]
  simp only [setTx, List.getD_eq_getElem?_getD, Int.toNat_natCast]
  rw [List.getElem?_set_ne ht]
theorem AloneInv.setTx (h : AloneInv s) (t : Nat) (o : Option PTx) (ho : t = 0 → ∀ x, o = some x → AloneTx s x) : AloneInv (P.setTx s (t : Int) o) := by
  refine ⟨h.lock, h.ver, h.clk, by simp [P.setTx, h.len], fun x hx => ?_⟩
  by_cases e : t = 0
  · subst e
    have hx2 : ofE (P.setTx s 0 o) 0 = some x := hx
    rw [ofE_setTx0 h.len] at hx2
    exact ho rfl x hx2
  · rw [ofE_setTxn e] at hx; exact h.tx x hx
/-- The vars turned: each version is an old one, or at most b. -/
theorem AloneInv.vars (h : AloneInv s) {vs : List PVar} (hl : ∀ v ∈ vs, v.lock = -1 ∨ v.lock = 0) (hv : ∀ v ∈ vs, (v.version = 0 ∨ ∃ w ∈ s.vars, v.version = w.version)) : AloneInv { s with vars := vs } := by
  refine ⟨hl, fun v hv1 => ?_, h.clk, h.len, fun x hx => ?_⟩
  · rcases hv v hv1 with e | ⟨w, hw, e⟩
    · rw [e]; exact h.clk
    · rw [e]; exact h.ver w hw
  · have h1 := h.tx x hx
    refine ⟨fun hp v hv1 => ?_, h1.2.1, h1.2.2.1, h1.2.2.2⟩
    rcases hv v hv1 with e | ⟨w, hw, e⟩
    · rw [e]; exact h1.2.1
    · rw [e]; exact h1.1 hp w hw
theorem AloneTx.same (h : AloneTx s x) (e1 : x'.start = x.start) (e2 : x'.pointed = x.pointed) (e3 : x'.stamp = x.stamp) : AloneTx s x' := by
  unfold AloneTx; rw [e1, e2, e3]; exact h
theorem AloneInv.varE (h : AloneInv s) (n : Int) : ((P.varE s n).lock = -1 ∨ (P.varE s n).lock = 0) ∧ (P.varE s n ∈ s.vars ∨ P.varE s n = zV) := by
  unfold P.varE
  rw [List.getD_eq_getElem?_getD]
  cases hg : s.vars[n.toNat]? with
  | none => exact ⟨.inr rfl, .inr rfl⟩
  | some v => exact ⟨h.lock v (List.mem_of_getElem? hg), .inl (List.mem_of_getElem? hg)⟩
theorem AloneInv.look (h : AloneInv s) (hx : AloneTx s x) (hp : x.pointed = false) (n : Int) : lookE s 0 x.start n = 0 := by
  obtain ⟨h1, h2⟩ := h.varE n
  unfold lookE
  have e1 : ((P.varE s n).lock != -1 && (P.varE s n).lock != 0) = false := by rcases h1 with e | e <;> rw [e] <;> rfl
  have e2 : ¬ x.start < (P.varE s n).version := by
    rcases h2 with e | e
    · have := hx.1 hp _ e; omega
    · rw [e]; have := hx.2.1; show ¬ x.start < 0; omega
  simp only [e1, e2, if_false, Bool.false_eq_true]
theorem AloneInv.valid (h : AloneInv s) (hx : AloneTx s x) (hp : x.pointed = false) : ∀ l, validL s 0 x.start l = 0
  | [] => rfl
  | n :: l => by
    show (if lookE s 0 x.start n != 0 then lookE s 0 x.start n else validL s 0 x.start l) = 0
    rw [h.look hx hp n, h.valid hx hp l]; rfl
theorem mem_setVar {n : Int} {v w : PVar} (h : w ∈ (setVar s n v).vars) : w = v ∨ w ∈ s.vars := by
  rcases List.mem_or_eq_of_mem_set (show w ∈ s.vars.set n.toNat v from h) with h | h
  · exact .inr h
  · exact .inl h
/-- A step of thread 0. -/
theorem AloneInv.step0 (h : AloneInv s) (hs : Sim m s r) : AloneInv (stepE s 0).2.2 ∧ (stepE s 0).2.1 ≠ 32 ∧ (stepE s 0).2.1 ≠ 33 := by
  rcases hs.of 0 with ⟨h1, h2⟩ | ⟨tn, x, e, ht, h1, h2, hx⟩
  · rw [stepE_none h1]; exact ⟨h, (by (try dsimp only); decide), (by (try dsimp only); decide)⟩
  · have hax := h.tx x h1
    by_cases hl : 1 < x.parts.length
    · rw [stepE_many h1 hl]; exact ⟨h, (by (try dsimp only); decide), (by (try dsimp only); decide)⟩
    · have h0 : AloneInv (P.setTx s 0 (some { x with commits := true })) := h.setTx 0 _ (fun _ x' hx' => by injection hx' with e; subst e; exact hax.same rfl rfl rfl)
      cases hp : x.pointed with
      | true =>
        obtain ⟨_, _, h3, h4, h5⟩ := hx.left hp
        have hd : (txR r 0).done.toNat < ((x.parts.getD 0 []).map (·.1)).length := by omega
        rw [List.drop_eq_getElem_cons hd] at h5
        rw [stepE_left h1 hl hp h5]
        generalize ((x.parts.getD 0 []).map (·.1))[(txR r 0).done.toNat] = n
        generalize (((x.parts.getD 0 []).map (·.1)).drop ((txR r 0).done.toNat + 1)) = l
        generalize (getM (x.parts.getD 0 []) n).getD 0 = v
        have hst := hax.2.2.2 hp
        have hv : AloneInv (setVar (P.setTx s 0 (some { x with commits := true })) n ⟨v, x.stamp, -1⟩) := by
          refine ⟨fun w hw => ?_, fun w hw => ?_, h.clk, h0.len, fun x' hx' => ?_⟩
          · rcases mem_setVar hw with e | hw
            · rw [e]; exact .inl rfl
            · exact h.lock w hw
          · rcases mem_setVar hw with e | hw
            · rw [e]; exact hst
            · exact h.ver w hw
          · have hx2 : ofE (P.setTx s 0 (some { x with commits := true })) 0 = some x' := hx'
            rw [ofE_setTx0 h.len] at hx2
            injection hx2 with e
            subst e
            exact ⟨fun e => (by have e : x.pointed = false := e; rw [hp] at e; cases e), hax.2.1, hax.2.2.1, fun _ => hst⟩
        split
        · exact ⟨hv.setTx 0 none (fun _ x' hx' => by cases hx'), (by (try dsimp only); decide), (by (try dsimp only); decide)⟩
        · refine ⟨hv.setTx 0 _ (fun _ x' hx' => ?_), (by (try dsimp only); decide), (by (try dsimp only); decide)⟩
          injection hx' with e
          subst e
          exact ⟨fun e => (by have e : x.pointed = false := e; rw [hp] at e; cases e), hax.2.1, hax.2.2.1, fun _ => hst⟩
      | false =>
        cases hlk : lockL s 0 (keysM (x.parts.getD 0 [])) with
        | some n =>
          rw [stepE_lock h1 hl hp hlk]
          obtain ⟨_, hne⟩ := lockL_mem hlk
          obtain ⟨hv1, hv2⟩ := h.varE n
          rcases hv1 with hv1 | hv1
          · rw [hv1, if_pos (by decide)]
            refine ⟨?_, (by (try dsimp only); decide), (by (try dsimp only); decide)⟩
            have hh := h0.vars (vs := (P.setTx s 0 (some { x with commits := true })).vars.set n.toNat { P.varE s n with lock := 0 }) (fun v hv => by
              rcases List.mem_or_eq_of_mem_set hv with h | e
              · exact h0.lock v h
              · rw [e]; exact .inr rfl) (fun v hv => by
              rcases List.mem_or_eq_of_mem_set hv with h | e
              · exact .inr ⟨v, h, rfl⟩
              · rcases hv2 with h3 | h3
                · exact .inr ⟨_, h3, by rw [e]⟩
                · left; rw [e]; show (P.varE s n).version = 0; rw [h3]; rfl)
            exact hh
          · exact absurd hv1 hne
        | none =>
          rw [stepE_rest h1 hl hp hlk, h.valid hax hp]
          rw [if_neg (by decide)]
          split
          · exact ⟨h0.setTx 0 none (fun _ x' hx' => by cases hx'), (by (try dsimp only); decide), (by (try dsimp only); decide)⟩
          · refine ⟨⟨h.lock, fun v hv => ?_, ?_, by simp [P.setTx, h.len], fun x' hx' => ?_⟩, (by (try dsimp only); decide), (by (try dsimp only); decide)⟩
            · have := h.ver v hv; show v.version ≤ s.clock + 1; omega
            · have := h.clk; show 0 ≤ s.clock + 1; omega
            · have hx2 : ofE (P.setTx s 0 (some { x with commits := true, pointed := true, stamp := s.clock + 1, left := keysM (x.parts.getD 0 []) })) 0 = some x' := hx'
              rw [ofE_setTx0 h.len] at hx2
              injection hx2 with e
              subst e
              exact ⟨fun e => (by cases e), hax.2.1, by show x.start ≤ s.clock + 1; have := hax.2.2.1; omega, fun _ => Int.le_refl _⟩
theorem alone_step (h : AloneInv s) (hs : Sim m s r) (d : PDeed) (hd : ¬ (d.k = 3 ∧ d.t ≠ 0)) : AloneInv (doE s d).2.2 ∧ (d.t = 0 → (doE s d).2.1 ≠ 32 ∧ (doE s d).2.1 ≠ 33) := by
  obtain ⟨k, t, n, v⟩ := d
  unfold doE
  dsimp only at hd ⊢
  have same : ∀ {tn : Nat} {x : PTx} (x' : PTx), ofE s (tn : Int) = some x → x'.start = x.start → x'.pointed = x.pointed → x'.stamp = x.stamp → AloneInv (P.setTx s (tn : Int) (some x')) := fun x' h1 e1 e2 e3 =>
    h.setTx _ _ (fun e0 x2 hx2 => by injection hx2 with e; subst e; subst e0; exact (h.tx _ h1).same e1 e2 e3)
  by_cases h0 : k = 0
  · rw [if_pos h0]
    unfold beginE
    cases hi : inT t with
    | false => exact ⟨h, fun _ => ⟨(show (1 : Int) ≠ 32 by decide), (show (1 : Int) ≠ 33 by decide)⟩⟩
    | true =>
      obtain ⟨tn, rfl, ht⟩ := nat_of_inT hi
      cases ho : ofE s (tn : Int) with
      | some x => exact ⟨h, fun _ => ⟨(show (1 : Int) ≠ 32 by decide), (show (1 : Int) ≠ 33 by decide)⟩⟩
      | none =>
        refine ⟨h.setTx tn _ (fun _ x hx => ?_), fun _ => ⟨(show (0 : Int) ≠ 32 by decide), (show (0 : Int) ≠ 33 by decide)⟩⟩
        injection hx with e
        subst e
        exact ⟨fun _ v hv => h.ver v hv, h.clk, Int.le_refl _, fun e => by cases e⟩
  rw [if_neg h0]
  by_cases h1 : k = 1
  · rw [if_pos h1]
    unfold readE
    rcases hs.open_ t with ⟨g1, g2⟩ | ⟨tn, x, e, ht, g0, g1, g2, hc, hx⟩
    · rw [g1]; exact ⟨h, fun _ => ⟨(by (try dsimp only); decide), (by (try dsimp only); decide)⟩⟩
    · rw [g1]
      subst e
      dsimp only
      split
      · exact ⟨h, fun _ => ⟨(by (try dsimp only); decide), (by (try dsimp only); decide)⟩⟩
      · split
        · exact ⟨h, fun _ => ⟨(by (try dsimp only); decide), (by (try dsimp only); decide)⟩⟩
        · by_cases e0 : tn = 0
          · subst e0
            have hpf := hx.unpointed hc
            have hlk := h.look (h.tx x g0) hpf n
            have hlk : lookE s ((0 : Nat) : Int) x.start n = 0 := hlk
            rw [hlk, if_neg (by decide)]
            refine ⟨?_, fun _ => ⟨(by (try dsimp only); decide), (by (try dsimp only); decide)⟩⟩
            dsimp only
            split
            · exact h
            · exact same _ g0 rfl rfl rfl
          · refine ⟨?_, fun e => absurd e (by omega)⟩
            split
            · exact h
            · dsimp only
              split
              · exact h
              · exact same _ g0 rfl rfl rfl
  rw [if_neg h1]
  by_cases h2 : k = 2
  · rw [if_pos h2]
    unfold writeE
    rcases hs.open_ t with ⟨g1, g2⟩ | ⟨tn, x, e, ht, g0, g1, g2, hc, hx⟩
    · rw [g1]; exact ⟨h, fun _ => ⟨(by (try dsimp only); decide), (by (try dsimp only); decide)⟩⟩
    · rw [g1]
      subst e
      dsimp only
      split
      · exact ⟨h, fun _ => ⟨(by (try dsimp only); decide), (by (try dsimp only); decide)⟩⟩
      · exact ⟨same _ g0 rfl rfl rfl, fun _ => ⟨(by (try dsimp only); decide), (by (try dsimp only); decide)⟩⟩
  rw [if_neg h2]
  by_cases h3 : k = 3
  · rw [if_pos h3]
    have ht0 : t = 0 := by
      by_cases e : t = 0
      · exact e
      · exact absurd ⟨h3, e⟩ hd
    subst ht0
    obtain ⟨a, b, c⟩ := h.step0 hs
    exact ⟨a, fun _ => ⟨b, c⟩⟩
  rw [if_neg h3]
  by_cases h4 : k = 4
  · rw [if_pos h4]
    unfold partE
    rcases hs.open_ t with ⟨g1, g2⟩ | ⟨tn, x, e, ht, g0, g1, g2, hc, hx⟩
    · rw [g1]; exact ⟨h, fun _ => ⟨(by (try dsimp only); decide), (by (try dsimp only); decide)⟩⟩
    · rw [g1]
      subst e
      exact ⟨same _ g0 rfl rfl rfl, fun _ => ⟨(by (try dsimp only); decide), (by (try dsimp only); decide)⟩⟩
  rw [if_neg h4]
  have shut : ∀ keep : Bool, AloneInv (shutE s t keep).2 ∧ (t = 0 → (shutE s t keep).1 ≠ 32 ∧ (shutE s t keep).1 ≠ 33) := fun keep => by
    unfold shutE
    rcases hs.open_ t with ⟨g1, g2⟩ | ⟨tn, x, e, ht, g0, g1, g2, hc, hx⟩
    · rw [g1]; exact ⟨h, fun _ => ⟨(by (try dsimp only); decide), (by (try dsimp only); decide)⟩⟩
    · rw [g1]
      subst e
      dsimp only
      split
      · exact ⟨h, fun _ => ⟨(by (try dsimp only); decide), (by (try dsimp only); decide)⟩⟩
      · exact ⟨same _ g0 rfl rfl rfl, fun _ => ⟨(by (try dsimp only); decide), (by (try dsimp only); decide)⟩⟩
  by_cases h5 : k = 5
  · rw [if_pos h5]; exact shut true
  rw [if_neg h5]
  by_cases h6 : k = 6
  · rw [if_pos h6]; exact shut false
  rw [if_neg h6]
  by_cases h7 : k = 7
  · rw [if_pos h7]
    unfold abortE
    rcases hs.of t with ⟨g1, g2⟩ | ⟨tn, x, e, ht, g1, g2, hx⟩
    · rw [g1]; exact ⟨h, fun _ => ⟨(by (try dsimp only); decide), (by (try dsimp only); decide)⟩⟩
    · rw [g1]
      subst e
      dsimp only
      split
      · exact ⟨h, fun _ => ⟨(by (try dsimp only); decide), (by (try dsimp only); decide)⟩⟩
      · refine ⟨?_, fun _ => ⟨(by (try dsimp only); decide), (by (try dsimp only); decide)⟩⟩
        have hv := h.vars (vs := s.vars.map fun v => if v.lock == (tn : Int) then { v with lock := -1 } else v) (fun v hv => by
          obtain ⟨w, hw, e⟩ := List.mem_map.1 hv
          rw [← e]
          split
          · exact .inl rfl
          · exact h.lock w hw) (fun v hv => by
          obtain ⟨w, hw, e⟩ := List.mem_map.1 hv
          refine .inr ⟨w, hw, ?_⟩
          rw [← e]
          split <;> rfl)
        exact hv.setTx tn none (fun _ x' hx' => by cases hx')
  rw [if_neg h7]
  by_cases h8 : k = 8
  · rw [if_pos h8]
    unfold makeE
    split
    · exact ⟨h, fun _ => ⟨(by (try dsimp only); decide), (by (try dsimp only); decide)⟩⟩
    · refine ⟨h.vars (fun w hw => ?_) (fun w hw => ?_), fun _ => ⟨(by (try dsimp only); decide), (by (try dsimp only); decide)⟩⟩
      · rcases List.mem_append.1 hw with hw | hw
        · exact h.lock w hw
        · rw [List.mem_singleton.1 hw]; exact .inl rfl
      · rcases List.mem_append.1 hw with hw | hw
        · exact .inr ⟨w, hw, rfl⟩
        · rw [List.mem_singleton.1 hw]; exact .inl rfl
  rw [if_neg h8]
  by_cases h9 : k = 9
  · rw [if_pos h9]
    refine ⟨h, fun e => ?_⟩
    subst e
    unfold validE
    rcases hs.open_ 0 with ⟨g1, g2⟩ | ⟨tn, x, e, ht, g0, g1, g2, hc, hx⟩
    · rw [g1]; exact ⟨(by (try dsimp only); decide), (by (try dsimp only); decide)⟩
    · rw [g1]
      dsimp only
      rw [h.valid (h.tx x g0) (hx.unpointed hc)]
      exact ⟨(by (try dsimp only); decide), (by (try dsimp only); decide)⟩
  rw [if_neg h9]
  exact ⟨h, fun _ => ⟨(by (try dsimp only); decide), (by (try dsimp only); decide)⟩⟩
theorem alone_beg : AloneInv (begE 4) where
  lock := fun v hv => by
    have : (begE 4).vars = [⟨10, 0, -1⟩, ⟨11, 0, -1⟩, ⟨12, 0, -1⟩, ⟨13, 0, -1⟩] := rfl
    rw [this] at hv
    simp at hv
    rcases hv with rfl | rfl | rfl | rfl <;> exact .inl rfl
  ver := fun v hv => by
    have : (begE 4).vars = [⟨10, 0, -1⟩, ⟨11, 0, -1⟩, ⟨12, 0, -1⟩, ⟨13, 0, -1⟩] := rfl
    rw [this] at hv
    simp at hv
    rcases hv with rfl | rfl | rfl | rfl <;> exact Int.le_refl _
  clk := by decide
  len := rfl
  tx := fun x hx => by cases hx
end
end Go.Proofs.Ytcnbgamalhfkmaa.P
namespace Go.Proofs.Ytcnbgamalhfkmaa.P
open Go.RowKit Go.Proofs.YtcnbgamalhfkmaaW.PrintWords Go.Proofs.YtcnbgamalhfkmaaW.PrintLast Go.Proofs.YtcnbgamalhfkmaaW.PrintMore
set_option linter.unusedVariables false
set_option linter.unusedSimpArgs false
open Go.WideShapes Go.Maps Go.Shelf
set_option maxHeartbeats 8000000 in
set_option maxRecDepth 100000 in
theorem tl2Alone_calls (w : World) (A : Option Addr) (c : Nat) (l : List PDeed) (hl : DeedsAt w A l) (hlc : l.length ≤ c) :
    Calls Try.prog 4 #[.slice A l.length c] w fun e w' => e = .returned (.bool true) ∧ Below w.heap.size w w' := by
  have hb := begin2_calls w
  have HL := Aside0.mk hl
  clear hl
  go_enter Try.func4, Try.ntmps4
  go_wp2_with fail
  refine hb.mono ?_; rintro e W0 ⟨rfl, hP⟩
  have H0 := Aside0.mk hP.toF
  clear hb hP
  obtain ⟨g, hg⟩ : ∃ g, w.heap.size = g := ⟨_, rfl⟩
  obtain ⟨a, ha⟩ : ∃ a, w.heap.size + 1 + 1 = a := ⟨_, rfl⟩
  rw [ha, hg] at H0
  rw [ha, hg]
  go_wp2
  go_loopg [5, 6, 7, 8] 60 (fun gg s5 _ _ _ wr => ∃ (i : Nat) (s : PEng) (r : REng), i ≤ l.length ∧ i ≤ 60 ∧ 60 - i ≤ gg ∧ s5 = .int .i64 i ∧ Aside0 (PairF w (fun _ => False) g a s r wr) ∧ Aside0 (Sim i s r ∧ AloneInv s))
  case atStart => exact ⟨0, _, _, Nat.zero_le _, by omega, by omega, rfl, H0, ⟨sim_beg, alone_beg⟩⟩
  case round =>
    clear H0
    obtain ⟨i, s, r, hi, hi60, hgg, rfl, HP, HI⟩ := hrel
    by_cases hlt : i < l.length ∧ i < 60
    · have hltz : (i : Int) < (l.length : Int) := by omega
      have hlt6 : (i : Int) < 60 := by omega
      obtain ⟨ad, hA, hok, c0, c1, c2, c3⟩ := HL.out.get HP.out.isBelow hlt.1
      have HD := Aside0.mk hok
      subst hA
      have hfr := Aside0.mk (HP.out.fresh (below_1 wr (.cells #[.int .i64 l[i].k, .int .i64 l[i].t, .int .i64 l[i].n, .int .i64 l[i].v] 31)))
      have HK := Aside0.mk (blk_new wr (.cells #[.int .i64 l[i].k, .int .i64 l[i].t, .int .i64 l[i].n, .int .i64 l[i].v] 31))
      have HB1 := Aside0.mk (below_1 wr (.cells #[.int .i64 l[i].k, .int .i64 l[i].t, .int .i64 l[i].n, .int .i64 l[i].v] 31))
      generalize l[i] = d at *
      go_upto_region 8 with (fail)
      obtain ⟨w1, hw1⟩ : ∃ w1, wr.alloc (.cells #[.int .i64 d.k, .int .i64 d.t, .int .i64 d.n, .int .i64 d.v] 31) = w1 := ⟨_, rfl⟩
      rw [hw1] at hfr HK HB1 ⊢
      have q0 := blk_cell HK.out 0
      have q1 := blk_cell HK.out 1
      have q2 := blk_cell HK.out 2
      have q3 := blk_cell HK.out 3
      have hsz : w1.heap.size = wr.heap.size + 1 := by rw [← hw1]; simp
      have HSZ := Aside0.mk hsz
      clear c0 c1 c2 c3 hw1 hsz
      by_cases hskip : d.k = 3 ∧ d.t ≠ 0
      · have HP1 := Aside0.mk (HP.out.below HB1.out)
        obtain ⟨k3, t0⟩ := hskip
        have t0b : (d.t != 0) = true := by simpa using t0
        rw [k3] at q0
        clear HK hfr
        go_wp2
        go_roundg (60 - (i + 1))
        case measure => omega
        case rel => exact ⟨i + 1, s, r, by omega, by omega, by omega, by go_num, HP1, ⟨HI.out.1.mono (Nat.le_succ i), HI.out.2⟩⟩
      · have hdoes := does_calls hfr.out d (HI.out.1.doOK (by omega) d HD.out)
        obtain ⟨e1, e2, hs2⟩ := HI.out.1.does d
        obtain ⟨ha2, hne⟩ := alone_step HI.out.2 HI.out.1 d hskip
        have HI2 := Aside0.mk (show Sim (i + 1) (doE s d).2.2 (doR r d).2.2 ∧ AloneInv (doE s d).2.2 from ⟨hs2, ha2⟩)
        have hcond : (d.k == 3) = false ∨ ((d.k == 3) = true ∧ (d.t != 0) = false) := by
          by_cases e : d.k = 3
          · right
            refine ⟨by simp [e], ?_⟩
            by_cases e2 : d.t = 0
            · simp [e2]
            · exact absurd ⟨e, e2⟩ hskip
          · left; simpa using e
        have HNE := Aside0.mk hne
        generalize doE s d = de at *
        generalize doR r d = dr at *
        clear hskip hs2 ha2 hne e1 e2
        have fin : (d.t == 0) = false ∨ ((d.t == 0) = true ∧ (de.2.1 == 32) = false ∧ (de.2.1 == 33) = false) := by
          by_cases e : d.t = 0
          · exact .inr ⟨by simp [e], by simpa using (HNE.out e).1, by simpa using (HNE.out e).2⟩
          · left; simpa using e
        clear HNE
        rcases hcond with hk | ⟨hk, ht⟩
        all_goals
          go_wp2_with fail
          refine hdoes.mono ?_; rintro e w2 ⟨rfl, P2, K2⟩
          clear hdoes q0 q1 q2 q3
          have hkb := (K2.out wr.heap.size (.inr ⟨Nat.le_refl _, by rw [HSZ.out]; omega⟩)).trans HK.out
          have hlt2 := blk_lt hkb
          have n2 : w2.heap.size ≠ wr.heap.size := by omega
          have n3 : w2.heap.size + 1 ≠ wr.heap.size := by omega
          have q1 : w2.cell? ⟨wr.heap.size, 1, none⟩ = some (.int .i64 d.t) := blk_cell hkb 1
          have q1a : ∀ o o' : Obj, ((w2.alloc o).alloc o').cell? ⟨wr.heap.size, 1, none⟩ = some (.int .i64 d.t) := fun o o' => pw_cell_below (below_alloc (below_alloc (Below.refl _ _) _) _) q1
          have HP3 := Aside0.mk (P2.out.mono (F := fun _ => False) (fun k hk => hk.elim))
          have HBB := Aside0.mk (show Below w2.heap.size w2 ((w2.alloc (.cells #[.int .i64 de.1, .int .i64 de.2.1] 38)).alloc (.cells #[.int .i64 dr.1, .int .i64 dr.2.1] 38)) from below_alloc (below_alloc (Below.refl _ _) _) _)
          clear K2 P2 hkb hlt2
          rcases fin with f1 | ⟨f1, f2, f3⟩
          all_goals
            go_wp2
            go_roundg (60 - (i + 1))
            case measure => omega
            case rel => exact ⟨i + 1, de.2.2, dr.2.2, by omega, by omega, by omega, by go_num, ⟨HP3.out.below HBB.out⟩, HI2⟩
    · have hfin : (¬ (i : Int) < (l.length : Int)) ∨ ((i : Int) < (l.length : Int) ∧ ¬ (i : Int) < 60) := by omega
      have hlv := lives2_calls wr
      have HBB := Aside0.mk HP.out.isBelow
      clear HP HI
      rcases hfin with h1 | ⟨h1, h2⟩
      all_goals
        go_wp2_with fail
        refine hlv.mono ?_; rintro e w6 ⟨rfl, H6⟩
        clear hlv
        go_wp2
        go_ret
        exact ⟨rfl, HBB.out.trans (H6.mono HBB.out.size)⟩
end Go.Proofs.Ytcnbgamalhfkmaa.P
namespace Go.Proofs.Ytcnbgamalhfkmaa.tl2Alone
open Go.ChangeShapes Go.WideShapes Go.ChangeAt Go.RowKit
open Go.ChangeMaps (open_string shut_string)
set_option linter.unusedVariables false
theorem own : ownKnob Try.prog.godebug = none := by kernel_rfl
theorem laidOut : laidOutB Try.prog = true := by kernel_rfl
set_option maxRecDepth 100000 in
theorem lifted (os : Os) (started : os.Started) (H : Type) (enc : TypeId × Value → H) :
    ReturnsInHanded {} Try.checked os 4 .any (Rows.tl2AloneSpec.pre6 enc Try.prog Try.f4 Rows.tl2AloneRow.domain false) (Rows.tl2AloneSpec.post enc Try.prog Try.f4 false true false false) := by
  refine returnsInHanded_of_change_sized (C := Try.checked) own started (by kernel_rfl) Try.func4
    (ChangeSpec.witness6 (enc := enc) (C := Try.checked) false ⟨#[], #[.slice none 0 0], []⟩ 8 (by kernel_rfl) (by kernel_rfl) (by kernel_rfl) (by kernel_rfl)) ?_
  intro W base args ds gs before hval0 hW hcnd hsz0 _
  have hval : ∀ (j : Nat) t v, Try.f4.params[j]? = some t → args[j]? = some v → Value.okWide Try.prog W .any base t v := hval0
  have hW' := hW
  obtain ⟨p, q, hA0, hV, rfl, hfz, hnd⟩ := hW
  have hA : DataW.TrodAll enc Try.prog W 0 (fun _ => true) true Try.f4.params.toList args.toList ds p := hA0
  rw [Try.params4] at hA hval
  obtain ⟨v0, vs0, d0, ds0, p0, q0, hargs, rfl, rfl, h0, r0⟩ := trodAll_cons hA
  obtain ⟨rfl, rfl, rfl⟩ := trodAll_nil r0
  obtain rfl : args = #[v0] := by cases args; simp_all
  obtain ⟨rfl, rfl⟩ := trodVars_none hV
  obtain ⟨a0, len0, cap0, rfl⟩ := okWide_slice Try.underlying22 (hval 0 22 v0 rfl rfl)
  have k0 := h0
  have lt0 : ∀ x ∈ p0, x.block < W.heap.size := by obtain ⟨m, hm⟩ := k0; exact DataW.trod_lt m _ _ _ hm
  obtain ⟨fuel, hf⟩ := h0
  obtain ⟨A, len, cap, l, he, hle, hll, hC⟩ := P.open_deeds hf
  have he2 : Value.slice a0 len0 cap0 = .slice A len cap := by
    first
    | exact (List.cons.inj he).1
    | (simpa [Value.cells] using he)
  rw [he2]
  subst hll
  clear hA0 hval0 hsz0
  refine (P.tl2Alone_calls W A cap l hC hle).mono fun e W' ⟨he, bel⟩ => ?_
  subst he
  rw [← he2]
  exact ⟨_, rfl, _, _, _, [], _, [], hW', trodAll_mk1 (shut_bool Try.underlying4 _), (trodAll_cons_mk (Below.trod laidOut (by kernel_rfl) (of_decide_eq_true (by kernel_rfl)) k0 bel lt0) trodAll_mk0), rfl, bel.frame _, fun h => by cases h⟩
theorem over : Rows.tl2AloneRow.holds Try.pinned (OpenSpec.ofChange Rows.tl2AloneSpec) :=
  OpenClaim.holds_of_wide 4 Try.f4 rfl rfl rfl rfl rfl rfl rfl ⟨rfl, rfl, rfl, rfl, rfl⟩ rfl rfl rfl rfl rfl (by kernel_rfl) Try.func4 (by kernel_rfl)
    (of_decide_eq_true (by kernel_rfl)) (by unfold Func.isWrapper; first | (rw [if_pos (by decide +kernel)]; kernel_rfl) | (rw [if_neg (by decide +kernel)]; exact ⟨rfl, rfl⟩))
    (fun os started H enc _ => lifted os started H enc)
theorem proved : Rows.Tl2AloneSaid := over
#print axioms proved
end Go.Proofs.Ytcnbgamalhfkmaa.tl2Alone
