/- tl2: an engine in memory; each block has a role. -/
import Derived.Test.YtcnbgamalhfkmaaA0
namespace Go.Proofs.Ytcnbgamalhfkmaa.P
open Go.RowKit Go.Proofs.YtcnbgamalhfkmaaW.PrintWords Go.Proofs.YtcnbgamalhfkmaaW.PrintLast Go.Proofs.YtcnbgamalhfkmaaW.PrintMore
set_option linter.unusedVariables false
set_option linter.unusedSimpArgs false
open Go.WideShapes Go.Maps

def FlatK {α : Type} (d : Kd α) : Prop := ∀ (w w' : World) (x : α) (cs : List Value), d.K w x cs → d.K w' x cs
theorem N_flat {α : Type} {d : Kd α} (hd : FlatK d) {e base : Nat} {w : World} {ok ok' : Nat → Prop} {v : Value} {xs : List α} (h : Kd.N d e w base ok v xs) (hok : ∀ k, v.ownBlock = some k → ok' k) : Kd.N d e w base ok' v xs := by
  obtain ⟨h0, rows, hl, hR, hf⟩ := h
  exact ⟨hok, rows, hl, hR, fun j x c hx hc W' _ => hd _ _ _ _ (Kd.FK_now (hf j x c hx hc))⟩
theorem N_flat_move {α : Type} {d : Kd α} (hd : FlatK d) {e base : Nat} {w w1 : World} {ok : Nat → Prop} {v : Value} {xs : List α} (h : Kd.N d e w base ok v xs) (hm : ∀ k, v.ownBlock = some k → w1.heap[k]? = w.heap[k]?) : Kd.N d e w1 base ok v xs :=
  N_flat hd (Kd.N_step (N_flat hd h (ok' := fun k => v.ownBlock = some k) (fun k hk => hk)) (fun k hk _ => hm k hk)) (fun k hk => h.1 k hk)
abbrev kI : Kd Int := Kd.int .i64
def kV : Kd PVar := Kd.iso (Kd.pair (Kd.int .i64) (Kd.pair (Kd.int .i64) (Kd.int .i64))) (fun x : PVar => (x.value, x.version, x.lock))
def kP : Kd Nat := Kd.scalar (fun b => .map (some b)) (fun _ => rfl)
theorem kI_flat : FlatK kI := fun _ _ _ _ h => h
theorem kP_flat : FlatK kP := fun _ _ _ _ h => h
theorem kV_open {w : World} {x : PVar} {cs : List Value} (h : kV.K w x cs) : cs = [.int .i64 x.value, .int .i64 x.version, .int .i64 x.lock] := by
  obtain ⟨_, _, rfl, rfl, ⟨_, _, rfl, rfl, rfl⟩⟩ := h
  exact rfl
theorem kV_mk (w : World) (x : PVar) : kV.K w x [.int .i64 x.value, .int .i64 x.version, .int .i64 x.lock] := ⟨[_], [_, _], rfl, rfl, ⟨[_], [_], rfl, rfl, rfl⟩⟩
theorem kV_flat : FlatK kV := fun w w' x cs h => by rw [kV_open h]; exact kV_mk w' x
theorem info92 : (Try.prog.info? 92).map (fun i => (i.zero, i.size, i.bytes)) = some (some (.agg #[.int .i64 0, .int .i64 0, .int .i64 0]), 3, 24) := by kernel_rfl
theorem info3 : (Try.prog.info? 3).map (fun i => (i.zero, i.size, i.bytes)) = some (some (.int .i64 0), 1, 8) := by kernel_rfl
theorem info78 : (Try.prog.info? 78).map (fun i => (i.zero, i.size, i.bytes)) = some (some (.map none), 1, 8) := by kernel_rfl

/-- The roles of a thread's blocks: its transaction 0, what it has read 1, its parts 2, what is left 3, the parts' maps 4. -/
def rl (t j : Nat) : Nat := 8 + 8 * t + j
def isTx (t r : Nat) : Prop := 8 + 8 * t ≤ r ∧ r < 16 + 8 * t
theorem rl_tx (t j : Nat) (hj : j < 8) : isTx t (rl t j) := by unfold isTx rl; omega
theorem rl_other {t t' j r : Nat} (hj : j < 8) (h : isTx t r) (he : r = rl t' j) : t = t' := by unfold isTx rl at *; omega
structure MapsAt (W : World) (base : Nat) (ρ : Nat → Nat) (t : Nat) (ms : List Nat) (parts : List Mp) : Prop where
  len : ms.length = parts.length
  nd : ms.Nodup
  at_ : ∀ (i m : Nat) (p : Mp), ms[i]? = some m → parts[i]? = some p → base ≤ m ∧ ρ m = rl t 4 ∧ MapAt W m p
structure TxAt (W : World) (base : Nat) (ρ : Nat → Nat) (t gt : Nat) (x : PTx) (rd pa lf : Value) (ms : List Nat) : Prop where
  role : ρ gt = rl t 0
  ge : base ≤ gt
  blk : W.heap[gt]? = some (.cells #[.int .i64 x.start, .int .i64 x.stamp, rd, pa, .bool x.commits, .bool x.pointed, lf] 81 (0, 0))
  reads : Kd.N kI 3 W base (fun k => ρ k = rl t 1) rd x.reads
  parts : Kd.N kP 78 W base (fun k => ρ k = rl t 2) pa ms
  left : Kd.V kI 3 W base (fun k => ρ k = rl t 3) lf x.left
  maps : MapsAt W base ρ t ms x.parts
def PtrAt (W : World) (base : Nat) (ρ : Nat → Nat) (t : Nat) (p : Value) : Option PTx → Prop
  | none => p = .pointer none
  | some x => ∃ gt rd pa lf ms, p = .pointer (some ⟨gt, 0, none⟩) ∧ TxAt W base ρ t gt x rd pa lf ms
structure EngAt (W : World) (base : Nat) (ρ : Nat → Nat) (g : Nat) (s : PEng) (cells : Array Value) (vs : Value) : Prop where
  role : ρ g = 1
  own : ∀ k, ρ k ≠ 0 → base ≤ k ∧ k < W.heap.size
  len : s.txs.length = 8
  blk : W.heap[g]? = some (.cells cells 77 (0, 0))
  size : cells.size = 10
  clock : cells[0]? = some (.int .i64 s.clock)
  cv : cells[1]? = some vs
  vars : Kd.N kV 92 W base (fun k => ρ k = 2) vs s.vars
  txs : ∀ t, t < 8 → ∃ p, cells[2 + t]? = some p ∧ PtrAt W base ρ t p (s.txs.getD t none)
/-- The roles of the old blocks are as they were. -/
def Same (W : World) (ρ ρ' : Nat → Nat) : Prop := ∀ k, k < W.heap.size → ρ' k = ρ k
theorem role_keep {W : World} {base : Nat} {ρ ρ' : Nat → Nat} (own : ∀ k, ρ k ≠ 0 → base ≤ k ∧ k < W.heap.size) (hs : Same W ρ ρ') {r : Nat} (hr : r ≠ 0) {k : Nat} (h : ρ k = r) : ρ' k = r := by
  have := own k (by rw [h]; exact hr)
  rw [hs k this.2, h]
theorem MapsAt.move {W W' : World} {base : Nat} {ρ ρ' : Nat → Nat} {t : Nat} {ms : List Nat} {parts : List Mp} (h : MapsAt W base ρ t ms parts) (hρ : ∀ k, ρ k = rl t 4 → ρ' k = rl t 4) (hh : ∀ k, ρ k = rl t 4 → W'.heap[k]? = W.heap[k]?) : MapsAt W' base ρ' t ms parts :=
  ⟨h.len, h.nd, fun i m p hm hp => by
    obtain ⟨a, b, c⟩ := h.at_ i m p hm hp
    exact ⟨a, hρ _ b, c.move (hh _ b)⟩⟩
theorem V_move {α : Type} {d : Kd α} {e base : Nat} {w w1 : World} {ok ok' : Nat → Prop} {v : Value} {xs : List α} (h : Kd.V d e w base ok v xs) (hok : ∀ k, ok k → ok' k) (hm : ∀ k, ok k → k < w.heap.size → w1.heap[k]? = w.heap[k]?) : Kd.V d e w1 base ok' v xs := by
  obtain ⟨A, c, hv, hc, hF⟩ := h
  exact ⟨A, c, hv, hc, Kd.F_mono (Foot.step hF hm) hok⟩
theorem TxAt.move {W W' : World} {base : Nat} {ρ ρ' : Nat → Nat} {t gt : Nat} {x : PTx} {rd pa lf : Value} {ms : List Nat} (h : TxAt W base ρ t gt x rd pa lf ms) (hρ : ∀ k, isTx t (ρ k) → ρ' k = ρ k) (hh : ∀ k, isTx t (ρ k) → k < W.heap.size → W'.heap[k]? = W.heap[k]?) (hlt : ∀ k, isTx t (ρ k) → k < W.heap.size) : TxAt W' base ρ' t gt x rd pa lf ms := by
  have e : ∀ j, j < 8 → ∀ k, ρ k = rl t j → ρ' k = rl t j := fun j hj k hk => by rw [hρ k (by rw [hk]; exact rl_tx t j hj), hk]
  have f : ∀ j, j < 8 → ∀ k, ρ k = rl t j → W'.heap[k]? = W.heap[k]? := fun j hj k hk => hh k (by rw [hk]; exact rl_tx t j hj) (hlt k (by rw [hk]; exact rl_tx t j hj))
  refine ⟨e 0 (by omega) _ h.role, h.ge, (f 0 (by omega) _ h.role).trans h.blk, ?_, ?_, ?_, h.maps.move (e 4 (by omega)) (f 4 (by omega))⟩
  · exact N_flat kI_flat (N_flat_move kI_flat h.reads fun k hk => f 1 (by omega) k (h.reads.1 k hk)) fun k hk => e 1 (by omega) k (h.reads.1 k hk)
  · exact N_flat kP_flat (N_flat_move kP_flat h.parts fun k hk => f 2 (by omega) k (h.parts.1 k hk)) fun k hk => e 2 (by omega) k (h.parts.1 k hk)
  · exact V_move h.left (e 3 (by omega)) (fun k hk _ => f 3 (by omega) k hk)
theorem PtrAt.move {W W' : World} {base : Nat} {ρ ρ' : Nat → Nat} {t : Nat} {p : Value} {o : Option PTx} (h : PtrAt W base ρ t p o) (hρ : ∀ k, isTx t (ρ k) → ρ' k = ρ k) (hh : ∀ k, isTx t (ρ k) → k < W.heap.size → W'.heap[k]? = W.heap[k]?) (hlt : ∀ k, isTx t (ρ k) → k < W.heap.size) : PtrAt W' base ρ' t p o := by
  cases o with
  | none => exact h
  | some x =>
    obtain ⟨gt, rd, pa, lf, ms, e, hx⟩ := h
    exact ⟨gt, rd, pa, lf, ms, e, hx.move hρ hh hlt⟩
/-- What is the engine's lies as it lay. -/
theorem EngAt.move {W W' : World} {base : Nat} {ρ : Nat → Nat} {g : Nat} {s : PEng} {cells : Array Value} {vs : Value} (h : EngAt W base ρ g s cells vs) (hsz : W.heap.size ≤ W'.heap.size) (hh : ∀ k, ρ k ≠ 0 → W'.heap[k]? = W.heap[k]?) : EngAt W' base ρ g s cells vs := by
  refine ⟨h.role, fun k hk => ⟨(h.own k hk).1, Nat.lt_of_lt_of_le (h.own k hk).2 hsz⟩, h.len, (hh g (by rw [h.role]; omega)).trans h.blk, h.size, h.clock, h.cv, ?_, fun t ht => ?_⟩
  · exact N_flat_move kV_flat h.vars fun k hk => hh k (by have := h.vars.1 k hk; omega)
  · obtain ⟨p, hp, hx⟩ := h.txs t ht
    exact ⟨p, hp, hx.move (fun _ _ => rfl) (fun k hk _ => hh k (by unfold isTx at hk; omega)) (fun k hk => (h.own k (by unfold isTx at hk; omega)).2)⟩
theorem EngAt.below {W W' : World} {base : Nat} {ρ : Nat → Nat} {g : Nat} {s : PEng} {cells : Array Value} {vs : Value} (h : EngAt W base ρ g s cells vs) (hb : Below W.heap.size W W') : EngAt W' base ρ g s cells vs :=
  h.move hb.size fun k hk => hb.block k (h.own k hk).2
theorem EngAt.kept {W W' : World} {base : Nat} {ρ : Nat → Nat} {g : Nat} {s : PEng} {cells : Array Value} {vs : Value} {S : Nat → Prop} (h : EngAt W base ρ g s cells vs) (hk : Kept W W' S) (hS : ∀ k, S k → ρ k = 0) : EngAt W' base ρ g s cells vs :=
  h.move hk.1 fun k hk' => hk.2 k (h.own k hk').2 fun hs => hk' (hS k hs)
/-- One transaction turned (and maybe its place in the engine). -/
theorem EngAt.setTx {W W' : World} {base : Nat} {ρ ρ' : Nat → Nat} {g : Nat} {s : PEng} {cells : Array Value} {vs : Value} (h : EngAt W base ρ g s cells vs) {t : Nat} (ht : t < 8) {p' : Value} {o : Option PTx}
    (hs : Same W ρ ρ') (hown : ∀ k, ρ' k ≠ 0 → base ≤ k ∧ k < W'.heap.size) (hg : W'.heap[g]? = some (.cells (cells.setIfInBounds (2 + t) p') 77 (0, 0))) (hh : ∀ k, ρ k ≠ 0 → ρ k ≠ 1 → ¬ isTx t (ρ k) → W'.heap[k]? = W.heap[k]?)
    (hx : PtrAt W' base ρ' t p' o) : EngAt W' base ρ' g (setTx s (t : Int) o) (cells.setIfInBounds (2 + t) p') vs := by
  refine ⟨?_, hown, by simp [P.setTx, h.len], hg, by simp [h.size], ?_, ?_, ?_, fun t' ht' => ?_⟩
  · rw [hs g (h.own g (by rw [h.role]; omega)).2, h.role]
  · rw [Array.getElem?_setIfInBounds_ne (by omega)]; exact h.clock
  · rw [Array.getElem?_setIfInBounds_ne (by omega)]; exact h.cv
  · exact N_flat kV_flat (N_flat_move kV_flat h.vars fun k hk => by
      have := h.vars.1 k hk
      exact hh k (by omega) (by omega) (by unfold isTx; omega)) fun k hk => role_keep h.own hs (by omega) (h.vars.1 k hk)
  · by_cases e : t' = t
    · subst e
      refine ⟨p', by rw [Array.getElem?_setIfInBounds_self_of_lt (by have := h.size; omega)], ?_⟩
      have : (P.setTx s (t' : Int) o).txs.getD t' none = o := by
        simp [P.setTx, List.getD_eq_getElem?_getD, h.len, ht]
      rw [this]; exact hx
    · obtain ⟨p, hp, hpx⟩ := h.txs t' ht'
      refine ⟨p, by rw [Array.getElem?_setIfInBounds_ne (by omega)]; exact hp, ?_⟩
      have : (P.setTx s (t : Int) o).txs.getD t' none = s.txs.getD t' none := by
        simp only [P.setTx, List.getD_eq_getElem?_getD, Int.toNat_natCast]
        rw [List.getElem?_set_ne (Ne.symm e)]
      rw [this]
      refine hpx.move (fun k hk => hs k (h.own k (by unfold isTx at hk; omega)).2) (fun k hk _ => hh k ?_ ?_ ?_) (fun k hk => (h.own k (by unfold isTx at hk; omega)).2)
      · unfold isTx at hk; omega
      · unfold isTx at hk; omega
      · unfold isTx at hk ⊢; omega
end Go.Proofs.Ytcnbgamalhfkmaa.P
