/- tl2: what a method leaves; Make. -/
import Derived.Test.YtcnbgamalhfkmaaB1
namespace Go.Proofs.Ytcnbgamalhfkmaa.P
open Go.RowKit Go.Proofs.YtcnbgamalhfkmaaW.PrintWords Go.Proofs.YtcnbgamalhfkmaaW.PrintLast Go.Proofs.YtcnbgamalhfkmaaW.PrintMore
set_option linter.unusedVariables false
set_option linter.unusedSimpArgs false
open Go.WideShapes Go.Maps

structure Did (W : World) (base : Nat) (ρ ρ' : Nat → Nat) (W' : World) : Prop where
  same : Same W ρ ρ'
  kept : Kept W W' (fun k => ρ k ≠ 0)
  below : Below base W W'
def EngPost (W : World) (base : Nat) (ρ : Nat → Nat) (g : Nat) (s' : PEng) (W' : World) : Prop := ∃ ρ' cells' vs', EngAt W' base ρ' g s' cells' vs' ∧ Did W base ρ ρ' W'
theorem Did.refl {W : World} {base : Nat} {ρ : Nat → Nat} : Did W base ρ ρ W := ⟨fun _ _ => rfl, Kept.refl _ _, Below.refl _ _⟩
theorem Did.of_below {W W' : World} {base : Nat} {ρ : Nat → Nat} (hb : Below W.heap.size W W') (hbase : base ≤ W.heap.size) : Did W base ρ ρ W' := ⟨fun _ _ => rfl, Kept.of_below hb _, hb.mono hbase⟩
theorem Did.trans {W W1 W2 : World} {base : Nat} {ρ ρ1 ρ2 : Nat → Nat} (h : Did W base ρ ρ1 W1) (k : Did W1 base ρ1 ρ2 W2) : Did W base ρ ρ2 W2 :=
  ⟨fun i hi => (k.same i (Nat.lt_of_lt_of_le hi h.kept.1)).trans (h.same i hi), h.kept.then_ k.kept (fun i hi => by
    by_cases hl : i < W.heap.size
    · left; rw [← h.same i hl]; exact hi
    · right; omega), h.below.trans k.below⟩
theorem EngAt.base_le {W : World} {base : Nat} {ρ : Nat → Nat} {g : Nat} {s : PEng} {cells : Array Value} {vs : Value} (h : EngAt W base ρ g s cells vs) : base ≤ W.heap.size := by
  have := h.own g (by rw [h.role]; omega)
  omega
theorem EngAt.g_lt {W : World} {base : Nat} {ρ : Nat → Nat} {g : Nat} {s : PEng} {cells : Array Value} {vs : Value} (h : EngAt W base ρ g s cells vs) : base ≤ g ∧ g < W.heap.size := h.own g (by rw [h.role]; omega)
/-- The role of a row's block, wherever the row lies now. -/
def withRow (ρ : Nat → Nat) (v : Value) (r : Nat) (k : Nat) : Nat := if v.ownBlock = some k then r else ρ k
theorem withRow_at {ρ : Nat → Nat} {v : Value} {r : Nat} : ∀ k, v.ownBlock = some k → withRow ρ v r k = r := fun k hk => by unfold withRow; rw [if_pos hk]
theorem withRow_same {W : World} {ρ : Nat → Nat} {v v1 : Value} {r : Nat} (hv : ∀ k, v.ownBlock = some k → ρ k = r) (hat : v1.ownBlock = v.ownBlock ∨ ∃ b, v1.ownBlock = some b ∧ W.heap.size ≤ b) : Same W ρ (withRow ρ v1 r) := fun k hk => by
  unfold withRow
  split
  · next h =>
    rcases hat with e | ⟨b, e, hb⟩
    · exact (hv k (e ▸ h)).symm
    · rw [e] at h; injection h with h; omega
  · rfl
theorem withRow_own {W W' : World} {base : Nat} {ρ : Nat → Nat} {v1 : Value} {r : Nat} (hown : ∀ k, ρ k ≠ 0 → base ≤ k ∧ k < W.heap.size) (hsz : W.heap.size ≤ W'.heap.size) (hv1 : ∀ k, v1.ownBlock = some k → base ≤ k ∧ k < W'.heap.size) : ∀ k, withRow ρ v1 r k ≠ 0 → base ≤ k ∧ k < W'.heap.size := fun k hk => by
  unfold withRow at hk
  split at hk
  · next h => exact hv1 k h
  · have := hown k hk; exact ⟨this.1, Nat.lt_of_lt_of_le this.2 hsz⟩
theorem N_in {α : Type} {d : Kd α} {e base : Nat} {w : World} {ok : Nat → Prop} {v : Value} {xs : List α} (h : Kd.N d e w base ok v xs) : ∀ k, v.ownBlock = some k → base ≤ k ∧ k < w.heap.size := fun k hk => ⟨Kd.N_base h k hk, Kd.N_lt h k hk⟩
theorem EngAt.g_ne {W : World} {base : Nat} {ρ : Nat → Nat} {g : Nat} {s : PEng} {cells : Array Value} {vs : Value} (h : EngAt W base ρ g s cells vs) {v : Value} {r : Nat} (hv : ∀ k, v.ownBlock = some k → ρ k = r) (hr : r ≠ 1) : some g ≠ v.ownBlock := fun e => hr ((hv g e.symm).symm.trans h.role)
/-- The vars turned. -/
theorem EngAt.setVars {W W' : World} {base : Nat} {ρ ρ' : Nat → Nat} {g : Nat} {s : PEng} {cells : Array Value} {vs vs' : Value} {vars' : List PVar} (h : EngAt W base ρ g s cells vs)
    (hs : Same W ρ ρ') (hown : ∀ k, ρ' k ≠ 0 → base ≤ k ∧ k < W'.heap.size) (hg : W'.heap[g]? = some (.cells (cells.setIfInBounds 1 vs') 77 (0, 0))) (hh : ∀ k, ρ k ≠ 0 → ρ k ≠ 1 → ρ k ≠ 2 → W'.heap[k]? = W.heap[k]?)
    (hv : Kd.N kV 92 W' base (fun k => ρ' k = 2) vs' vars') : EngAt W' base ρ' g { s with vars := vars' } (cells.setIfInBounds 1 vs') vs' := by
  refine ⟨?_, hown, h.len, hg, by simp [h.size], ?_, ?_, hv, fun t ht => ?_⟩
  · rw [hs g h.g_lt.2, h.role]
  · rw [Array.getElem?_setIfInBounds_ne (by omega)]; exact h.clock
  · rw [Array.getElem?_setIfInBounds_self_of_lt (by have := h.size; omega)]
  · obtain ⟨p, hp, hpx⟩ := h.txs t ht
    refine ⟨p, by rw [Array.getElem?_setIfInBounds_ne (by omega)]; exact hp, ?_⟩
    refine hpx.move (fun k hk => hs k (h.own k (by unfold isTx at hk; omega)).2) (fun k hk _ => hh k ?_ ?_ ?_) (fun k hk => (h.own k (by unfold isTx at hk; omega)).2) <;> unfold isTx at hk <;> omega
/-- The clock turned. -/
theorem EngAt.setClock {W : World} {base : Nat} {ρ : Nat → Nat} {g : Nat} {s : PEng} {cells : Array Value} {vs : Value} (h : EngAt W base ρ g s cells vs) (c : Int) : EngAt (W.setCell ⟨g, 0, none⟩ (.int .i64 c)) base ρ g { s with clock := c } (cells.setIfInBounds 0 (.int .i64 c)) vs := by
  have hh : ∀ k, ρ k ≠ 0 → ρ k ≠ 1 → (W.setCell ⟨g, 0, none⟩ (.int .i64 c)).heap[k]? = W.heap[k]? := fun k _ h1 => Below.heap_setCell W ⟨g, 0, none⟩ _ k (fun e => h1 (by rw [e]; exact h.role))
  refine ⟨h.role, fun k hk => by simpa [World.setCell] using h.own k hk, h.len, blk_set h.blk 0 _, by simp [h.size], ?_, ?_, ?_, fun t ht => ?_⟩
  · rw [Array.getElem?_setIfInBounds_self_of_lt (by have := h.size; omega)]
  · rw [Array.getElem?_setIfInBounds_ne (by omega)]; exact h.cv
  · exact N_flat_move kV_flat h.vars fun k hk => hh k (by have := h.vars.1 k hk; omega) (by have := h.vars.1 k hk; omega)
  · obtain ⟨p, hp, hpx⟩ := h.txs t ht
    refine ⟨p, by rw [Array.getElem?_setIfInBounds_ne (by omega)]; exact hp, ?_⟩
    exact hpx.move (fun _ _ => rfl) (fun k hk _ => hh k (by unfold isTx at hk; omega) (by unfold isTx at hk; omega)) (fun k hk => (h.own k (by unfold isTx at hk; omega)).2)
theorem setCell_size (w : World) (p : Addr) (v : Value) : (w.setCell p v).heap.size = w.heap.size := by simp [World.setCell]
/-- The vars' row has grown, and the engine has the new one. -/
theorem EngAt.push_vars {W w1 : World} {base : Nat} {ρ : Nat → Nat} {g : Nat} {s : PEng} {cells : Array Value} {vs v1 : Value} {vars' : List PVar} (h : EngAt W base ρ g s cells vs) (hN : Kd.N kV 92 w1 base (fun _ => True) v1 vars') (hb : Below base W w1) (hg : W.grownBy w1 vs.ownBlock)
    (hat : v1.ownBlock = vs.ownBlock ∨ ∃ b, v1.ownBlock = some b ∧ W.heap.size ≤ b) : EngPost W base ρ g { s with vars := vars' } (w1.setCell ⟨g, 1, none⟩ v1) := by
  have hgl := h.g_lt
  have hng : ∀ k, v1.ownBlock = some k → k ≠ g := fun k hk e => by
    rcases hat with e1 | ⟨b, e1, hb1⟩
    · have := h.vars.1 k (e1 ▸ hk); have := h.role; subst e; omega
    · rw [e1] at hk; injection hk with hk; omega
  have hbk := (hg.block g hgl.2 (h.g_ne h.vars.1 (by omega))).trans h.blk
  refine ⟨withRow ρ v1 2, _, v1, h.setVars (withRow_same h.vars.1 hat) ?_ (blk_set hbk 1 v1) (fun k h0 h1 h2 => ?_) ?_, ⟨withRow_same h.vars.1 hat, ?_, ?_⟩⟩
  · rw [setCell_size]; exact withRow_own h.own hg.size (N_in hN)
  · rw [Below.heap_setCell w1 ⟨g, 1, none⟩ v1 k (fun e => h1 (by rw [e]; exact h.role))]
    exact hg.block k (h.own k h0).2 (fun e => h2 (h.vars.1 k e.symm))
  · exact N_flat kV_flat (N_flat_move kV_flat hN fun k hk => Below.heap_setCell w1 ⟨g, 1, none⟩ v1 k (hng k hk)) withRow_at
  · exact (Kept.of_grown hg (Kept.refl W _) (fun k e => .inl (by have := h.vars.1 k e; omega))).setCell (.inl (by rw [h.role]; omega)) v1
  · exact hb.setCell (p := ⟨g, 1, none⟩) hgl.1 v1
set_option maxHeartbeats 8000000 in
set_option maxRecDepth 100000 in
theorem make_calls {W : World} {base : Nat} {ρ : Nat → Nat} {g : Nat} {s : PEng} {cells : Array Value} {vs : Value} (h : EngAt W base ρ g s cells vs) (hl : s.vars.length ≤ 4000) (v : Int) :
    Calls Try.prog 37 #[.pointer (some ⟨g, 0, none⟩), .int .i64 v] W fun e w' => e = .returned (.tuple #[.int .i64 (makeE s v).1, .int .i64 (makeE s v).2.1]) ∧ EngPost W base ρ g (makeE s v).2.2 w' := by
  have HO := Aside0.mk (show makeE s v = if 4000 ≤ s.vars.length then (0, 16, s) else ((s.vars.length : Int), (0 : Int), ({ s with vars := s.vars ++ [⟨v, 0, -1⟩] } : PEng)) from rfl)
  have k1 := h.cell1
  have f1 := blk_frozen h.blk 1
  have HH := Aside0.mk h
  have hN := h.vars
  obtain ⟨A, c, rfl⟩ := Kd.N_slice hN
  have HN := Aside0.mk hN
  clear h hN
  by_cases h4 : 4000 ≤ s.vars.length
  · have h4z : (4000 : Int) ≤ (s.vars.length : Int) := by omega
    have HE := Aside0.mk (show makeE s v = (0, 16, s) by rw [HO.out, if_pos h4])
    clear HO h4
    go_enter Try.func37, Try.ntmps37
    go_wp2
    go_ret2
    rw [HE.out]
    exact ⟨rfl, ρ, _, _, HH.out, Did.refl⟩
  · have h4z : ¬ (4000 : Int) ≤ (s.vars.length : Int) := by omega
    have HE := Aside0.mk (show makeE s v = ((s.vars.length : Int), (0 : Int), ({ s with vars := s.vars ++ [⟨v, 0, -1⟩] } : PEng)) by rw [HO.out, if_neg h4])
    clear HO h4
    go_enter Try.func37, Try.ntmps37
    go_wp2_with ((with_reducible refine gate_builtin (b := .append) (xs := #[.tmp 16, .tmp 19]) rfl ?_); at_builtin; refine Kd.N_append kV (w0 := W) base rfl (.tmp 16) (.tmp 19) 74 92 (.agg #[.int .i64 0, .int .i64 0, .int .i64 0]) 24 rfl Try.underlying74 info92 rfl (by decide) (by omega) (.slice A s.vars.length c) s.vars ⟨v, 0, -1⟩ [.int .i64 v, .int .i64 0, .int .i64 (-1)] (fun _ => True) (fun _ => False) rfl rfl ?aP (fun _ hk => hk.elim) (fun _ _ => trivial) ?aO ?aB ?aS ?aL ?_; (case aP => exact fun W' _ => kV_mk W' _); (case aO => exact Kd.N_mono HN.out (fun _ _ => trivial)); (case aB => exact Below.refl _ _); (case aS => exact HH.out.base_le); (case aL => omega); intro v1 w1 ho hb hg hat; have HN1 := Aside0.mk ho; have HB1 := Aside0.mk hb; have HG1 := Aside0.mk hg; have HA1 := Aside0.mk hat; clear ho hb hg hat; obtain ⟨A1, c1, e1⟩ := Kd.N_slice HN1.out; subst e1; have hb1 := (HG1.out.block g HH.out.g_lt.2 (HH.out.g_ne HN.out.1 (by omega))).trans HH.out.blk; have j1 := (blk_cell hb1 1).trans HH.out.cv; have g1 := blk_frozen hb1 1; have HBK := Aside0.mk hb1; clear hb1 k1 f1)
    go_ret2
    have HP := HH.out.push_vars HN1.out HB1.out HG1.out HA1.out
    rw [show (s.vars ++ [(⟨v, 0, -1⟩ : PVar)]).length = s.vars.length + 1 from by simp] at HP
    rw [HE.out]
    exact ⟨rfl, HP⟩
end Go.Proofs.Ytcnbgamalhfkmaa.P
