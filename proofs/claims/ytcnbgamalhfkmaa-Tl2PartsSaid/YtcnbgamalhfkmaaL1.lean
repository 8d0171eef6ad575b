/- tl2: a var turned, a transaction's cells turned, a transaction gone; write. -/
import Derived.Test.YtcnbgamalhfkmaaJ1
import Derived.Test.YtcnbgamalhfkmaaK1
namespace Go.Proofs.Ytcnbgamalhfkmaa.P
open Go.RowKit Go.Proofs.YtcnbgamalhfkmaaW.PrintWords Go.Proofs.YtcnbgamalhfkmaaW.PrintLast Go.Proofs.YtcnbgamalhfkmaaW.PrintMore
set_option linter.unusedVariables false
set_option linter.unusedSimpArgs false
open Go.WideShapes Go.Maps Go.Shelf
section
variable {W : World} {base : Nat} {ρ : Nat → Nat} {g : Nat} {s : PEng} {cells : Array Value} {vs : Value}
theorem grown_below {W W' : World} {base m : Nat} (hg : W.grownBy W' (some m)) (hm : base ≤ m) (hb : base ≤ W.heap.size) : Below base W W' :=
  ⟨hg.os, hg.tape, hg.output, hg.size, fun k hk => hg.block k (by omega) (fun e => by injection e with e; omega)⟩
/-- Cells of one var are written. -/
theorem EngAt.set_var (h : EngAt W base ρ g s cells vs) {gv cap i j : Nat} {seg : List Value} (hv : vs = .slice (some ⟨gv, 0, none⟩) s.vars.length cap) (hi : i < s.vars.length) (hj : j + seg.length ≤ 3) (v' : PVar)
    (hM : ([.int .i64 (varE s i).value, .int .i64 (varE s i).version, .int .i64 (varE s i).lock] : List Value).take j ++ seg ++ ([.int .i64 (varE s i).value, .int .i64 (varE s i).version, .int .i64 (varE s i).lock] : List Value).drop (j + seg.length) = [.int .i64 v'.value, .int .i64 v'.version, .int .i64 v'.lock]) :
    EngAt (W.setCells gv (i * 3 + j) seg) base ρ g (P.setVar s (i : Int) v') cells vs ∧ Did W base ρ ρ (W.setCells gv (i * 3 + j) seg) := by
  obtain ⟨gv', cap', e1, hcap, c0, c1, c2, _⟩ := rowV_at h.vars hi
  have hN := h.vars
  rw [hv] at hN
  have e2 := e1.symm.trans hv
  injection e2 with e3 e4 e5
  injection e3 with e3
  injection e3 with e3
  subst e3 e5
  rw [varE_at hi] at hM
  obtain ⟨h1, h2⟩ := Kd.N_seg (d := kV) hN (i : Int) (by omega) (by omega) (c := [.int .i64 s.vars[i].value, .int .i64 s.vars[i].version, .int .i64 s.vars[i].lock]) (seg := seg) (j := j) (okp := fun _ => False) (x' := v') rfl
    (fun q u hq => by
      rw [Int.toNat_natCast, show kV.sz = 3 from rfl]
      match q, hq with
      | 0, hq => obtain rfl := Option.some.inj hq; exact c0
      | 1, hq => obtain rfl := Option.some.inj hq; exact c1
      | 2, hq => obtain rfl := Option.some.inj hq; exact c2) hj (fun W' _ => by rw [hM]; exact kV_mk W' v') (fun _ hk => hk.elim)
  rw [Int.toNat_natCast, show kV.sz = 3 from rfl] at h1 h2
  have hgv : ρ gv' = 2 := hN.1 gv' rfl
  have hgb := h.own gv' (by omega)
  have hne : ∀ k, ρ k ≠ 2 → k < W.heap.size → (W.setCells gv' (i * 3 + j) seg).heap[k]? = W.heap[k]? := fun k hk hl => h2.block k hl (fun e => by injection e with e; subst e; omega)
  have h3 := h.setVars (W' := W.setCells gv' (i * 3 + j) seg) (ρ' := ρ) (vs' := vs) (vars' := s.vars.set i v') (fun _ _ => rfl) (fun k hk => ⟨(h.own k hk).1, Nat.lt_of_lt_of_le (h.own k hk).2 h2.size⟩)
    (by rw [set_same h.cv, hne g (by rw [h.role]; omega) h.g_lt.2]; exact h.blk) (fun k h0 _ h2' => hne k h2' (h.own k h0).2) (by rw [hv]; exact h1)
  rw [set_same h.cv] at h3
  refine ⟨by rw [show P.setVar s (i : Int) v' = { s with vars := s.vars.set i v' } from by simp [P.setVar]]; exact h3, fun _ _ => rfl, Kept.of_grown h2 (Kept.refl W _) (fun k e => .inl (by injection e with e; subst e; omega)), grown_below h2 hgb.1 h.base_le⟩
/-- A transaction whose block was written. -/
theorem TxAt.turn {W' : World} {t gt : Nat} {x x' : PTx} {rd pa lf lf' : Value} {ms : List Nat} (hx : TxAt W base ρ t gt x rd pa lf ms) (hh : ∀ i, i ≠ gt → W'.heap[i]? = W.heap[i]?)
    (hb : W'.heap[gt]? = some (.cells #[.int .i64 x'.start, .int .i64 x'.stamp, rd, pa, .bool x'.commits, .bool x'.pointed, lf'] 81 (0, 0))) (e1 : x'.reads = x.reads) (e2 : x'.parts = x.parts) (hlf : Kd.V kI 3 W' base (fun k => ρ k = rl t 3) lf' x'.left) : TxAt W' base ρ t gt x' rd pa lf' ms := by
  have mv : ∀ j, j ≠ 0 → ∀ i, ρ i = rl t j → W'.heap[i]? = W.heap[i]? := fun j h0 i hi => hh i (fun e => h0 (rl_inj (t := t) (by rw [← hi, e, hx.role])))
  exact ⟨hx.role, hx.ge, hb, by rw [e1]; exact N_flat_move kI_flat hx.reads fun i hi => mv 1 (by omega) i (hx.reads.1 i hi), N_flat_move kP_flat hx.parts fun i hi => mv 2 (by omega) i (hx.parts.1 i hi), hlf,
    by rw [e2]; exact hx.maps.move (fun _ hk => hk) (fun k hk => mv 4 (by omega) k hk)⟩
/-- .. and the engine with it. -/
theorem EngAt.at_tx (h : EngAt W base ρ g s cells vs) {W' : World} {t gt : Nat} (ht : t < 8) (hc : cells[2 + t]? = some (.pointer (some ⟨gt, 0, none⟩))) (hrole : ρ gt = rl t 0) (hgt : base ≤ gt) {x' : PTx} {rd pa lf : Value} {ms : List Nat} (hg : W.grownBy W' (some gt)) (hx' : TxAt W' base ρ t gt x' rd pa lf ms) :
    EngAt W' base ρ g (P.setTx s (t : Int) (some x')) cells vs ∧ Did W base ρ ρ W' := by
  have hh : ∀ i, i < W.heap.size → i ≠ gt → W'.heap[i]? = W.heap[i]? := fun i hl hi => hg.block i hl (fun e => hi (by injection e))
  have hown : ∀ i, ρ i ≠ 0 → base ≤ i ∧ i < W'.heap.size := fun i hi => ⟨(h.own i hi).1, Nat.lt_of_lt_of_le (h.own i hi).2 hg.size⟩
  have h1 := h.setTx ht (p' := .pointer (some ⟨gt, 0, none⟩)) (o := some x') (fun _ _ => rfl) hown (by
    rw [set_same hc, hh g h.g_lt.2 (fun e => by have h1 := h.role; rw [e, hrole] at h1; unfold rl at h1; omega)]; exact h.blk) (fun i h0 _ hi => hh i (h.own i h0).2 (fun e => hi (by rw [e, hrole]; exact rl_tx t 0 (by omega)))) ⟨gt, rd, _, lf, _, rfl, hx'⟩
  rw [set_same hc] at h1
  exact ⟨h1, fun _ _ => rfl, Kept.of_grown hg (Kept.refl W _) (fun k e => .inl (by injection e with e; subst e; rw [hrole]; unfold rl; omega)), grown_below hg hgt h.base_le⟩
/-- The thread has no transaction any more. -/
theorem EngAt.nil_tx (h : EngAt W base ρ g s cells vs) {t : Nat} (ht : t < 8) : EngAt (W.setCell ⟨g, 2 + t, none⟩ (.pointer none)) base ρ g (P.setTx s (t : Int) none) (cells.setIfInBounds (2 + t) (.pointer none)) vs ∧ Did W base ρ ρ (W.setCell ⟨g, 2 + t, none⟩ (.pointer none)) := by
  have hset : ∀ i, i ≠ g → (W.setCell ⟨g, 2 + t, none⟩ (.pointer none)).heap[i]? = W.heap[i]? := fun i hi => Below.heap_setCell W ⟨g, 2 + t, none⟩ _ i hi
  exact ⟨h.setTx ht (p' := .pointer none) (o := none) (fun _ _ => rfl) (fun i hi => by rw [setCell_size]; exact h.own i hi) (blk_set h.blk _ _) (fun i _ h1 _ => hset i (fun e => h1 (by rw [e, h.role]))) rfl,
    fun _ _ => rfl, (Kept.refl W _).setCell (.inl (by show ρ g ≠ 0; rw [h.role]; omega)) _, (Below.refl _ W).setCell (p := ⟨g, 2 + t, none⟩) (h.own g (by rw [h.role]; omega)).1 _⟩
/-- The rest of the left. -/
theorem V_rest {w : World} {ok : Nat → Prop} {ad : Addr} {c n : Nat} {l : List Int} (h : Kd.V kI 3 w base ok (.slice (some ad) (l.length + 1) c) (n :: l)) : Kd.V kI 3 w base ok (.slice (if c = 1 then some ad else some (ad.add 1)) l.length (c - 1)) l := by
  obtain ⟨h1, h2, hF⟩ := Kd.V_at h
  have h3 := Kd.F_cut (m := 1) (c := c) hF (by simp) h2
  rw [List.drop_one, List.tail_cons] at h3
  have e : (if c = 1 then (some ad : Option Addr) else Option.map (fun x => x.add (1 * kI.sz)) (some ad)) = if c = 1 then some ad else some (ad.add 1) := by
    split <;> rfl
  rw [e] at h3
  exact ⟨_, c - 1, rfl, by have h2a : l.length + 1 ≤ c := h2; omega, h3⟩
end
end Go.Proofs.Ytcnbgamalhfkmaa.P
