/- tl2: the step that points; plain laws of Step. -/
import Derived.Test.YtcnbgamalhfkmaaL1
import Derived.Test.YtcnbgamalhfkmaaS1
namespace Go.Proofs.Ytcnbgamalhfkmaa.P
open Go.RowKit Go.Proofs.YtcnbgamalhfkmaaW.PrintWords Go.Proofs.YtcnbgamalhfkmaaW.PrintLast Go.Proofs.YtcnbgamalhfkmaaW.PrintMore
set_option linter.unusedVariables false
set_option linter.unusedSimpArgs false
open Go.WideShapes Go.Maps Go.Shelf
theorem validL_setTx (s : PEng) (t' : Int) (o : Option PTx) (t st : Int) : ∀ l, validL (setTx s t' o) t st l = validL s t st l
  | [] => rfl
  | n :: r => by
    show (if lookE s t st n != 0 then lookE s t st n else validL (setTx s t' o) t st r) = _
    rw [validL_setTx s t' o t st r]
    rfl
theorem lockL_setTx (s : PEng) (t' : Int) (o : Option PTx) (t : Int) : ∀ l, lockL (setTx s t' o) t l = lockL s t l
  | [] => rfl
  | n :: r => by
    show (if (varE s n).lock == t then lockL (setTx s t' o) t r else some n) = _
    rw [lockL_setTx s t' o t r]
    rfl
section
variable {W : World} {base : Nat} {ρ : Nat → Nat} {g : Nat} {s : PEng} {cells : Array Value} {vs : Value}
theorem step_point (h : EngAt W base ρ g s cells vs) {t gt : Nat} (ht : t < 8) (hc : cells[2 + t]? = some (.pointer (some ⟨gt, 0, none⟩))) {x : PTx} {rd pa lf : Value} {ms : List Nat} (hx : TxAt W base ρ t gt x rd pa lf ms) {W2 : World} (hB : Below W.heap.size W W2) {v : Value} {ks : List Int}
    (hN : Kd.N kI 3 W2 (W.heap.size + 1) (fun _ => True) v ks) (c : Int) :
    EngPost W base ρ g { P.setTx s (t : Int) (some { x with pointed := true, stamp := c, left := ks }) with clock := c } ((((W2.setCell ⟨g, 0, none⟩ (.int .i64 c)).setCell ⟨gt, 5, none⟩ (.bool true)).setCell ⟨gt, 1, none⟩ (.int .i64 c)).setCell ⟨gt, 6, none⟩ v) := by
  have hgl := h.g_lt.2
  have hbase := h.base_le
  have hgt := h.own gt (by rw [hx.role]; unfold rl; omega)
  have hgg : gt ≠ g := fun e => by have h1 := h.role; rw [← e, hx.role] at h1; unfold rl at h1; omega
  have h1 := h.setClock c
  obtain ⟨W1, hW1⟩ : ∃ W1, W.setCell ⟨g, 0, none⟩ (.int .i64 c) = W1 := ⟨_, rfl⟩
  rw [hW1] at h1
  have s1 : W1.heap.size = W.heap.size := by rw [← hW1, setCell_size]
  have hset : ∀ k, k ≠ g → W1.heap[k]? = W.heap[k]? := fun k hk => by rw [← hW1]; exact Below.heap_setCell W ⟨g, 0, none⟩ _ k hk
  have hd1 : Did W base ρ ρ W1 := by
    rw [← hW1]
    exact ⟨fun _ _ => rfl, (Kept.refl W _).setCell (.inl (by show ρ g ≠ 0; rw [h.role]; omega)) _, (Below.refl _ W).setCell (p := ⟨g, 0, none⟩) (h.own g (by rw [h.role]; omega)).1 _⟩
  have hx1 : TxAt W1 base ρ t gt x rd pa lf ms := hx.move (fun _ _ => rfl) (fun k hk _ => hset k (fun e => by rw [e, h.role] at hk; unfold isTx at hk; omega)) (fun k hk => (h.own k (by unfold isTx at hk; omega)).2)
  have hfar : ∀ k, k ≠ g → k ≠ gt → ((((W2.setCell ⟨g, 0, none⟩ (.int .i64 c)).setCell ⟨gt, 5, none⟩ (.bool true)).setCell ⟨gt, 1, none⟩ (.int .i64 c)).setCell ⟨gt, 6, none⟩ v).heap[k]? = W2.heap[k]? := fun k h1 h2 =>
    (Below.heap_setCell _ ⟨gt, 6, none⟩ v k h2).trans ((Below.heap_setCell _ ⟨gt, 1, none⟩ _ k h2).trans ((Below.heap_setCell _ ⟨gt, 5, none⟩ _ k h2).trans (Below.heap_setCell W2 ⟨g, 0, none⟩ _ k h1)))
  have hold : ∀ k, k < W.heap.size → k ≠ gt → ((((W2.setCell ⟨g, 0, none⟩ (.int .i64 c)).setCell ⟨gt, 5, none⟩ (.bool true)).setCell ⟨gt, 1, none⟩ (.int .i64 c)).setCell ⟨gt, 6, none⟩ v).heap[k]? = W1.heap[k]? := fun k hk h2 => by
    by_cases e : k = g
    · subst e
      have e1 : (W2.setCell ⟨k, 0, none⟩ (.int .i64 c)).heap[k]? = W1.heap[k]? := by
        rw [← hW1]
        have b1 := blk_set h.blk 0 (.int .i64 c)
        have b2 := blk_set ((hB.block k hk).trans h.blk) 0 (.int .i64 c)
        exact b2.trans b1.symm
      exact (Below.heap_setCell _ ⟨gt, 6, none⟩ v k h2).trans ((Below.heap_setCell _ ⟨gt, 1, none⟩ _ k h2).trans ((Below.heap_setCell _ ⟨gt, 5, none⟩ _ k h2).trans e1))
    · exact (hfar k e h2).trans ((hB.block k hk).trans (hset k e).symm)
  have hbk : ((((W2.setCell ⟨g, 0, none⟩ (.int .i64 c)).setCell ⟨gt, 5, none⟩ (.bool true)).setCell ⟨gt, 1, none⟩ (.int .i64 c)).setCell ⟨gt, 6, none⟩ v).heap[gt]? = some (.cells #[.int .i64 x.start, .int .i64 c, rd, pa, .bool x.commits, .bool true, v] 81 (0, 0)) := by
    have b0 : (W2.setCell ⟨g, 0, none⟩ (.int .i64 c)).heap[gt]? = _ := (Below.heap_setCell W2 ⟨g, 0, none⟩ _ gt hgg).trans ((hB.block gt hgt.2).trans hx.blk)
    exact blk_set (blk_set (blk_set b0 5 (.bool true)) 1 (.int .i64 c)) 6 v
  have hvb : ∀ k, v.ownBlock = some k → W.heap.size + 1 ≤ k := Kd.N_base hN
  have hvl : ∀ k, v.ownBlock = some k → k < W2.heap.size := Kd.N_lt hN
  obtain ⟨ρ', hρ'⟩ : ∃ ρ' : Nat → Nat, ρ' = fun k => if v.ownBlock = some k then rl t 3 else ρ k := ⟨_, rfl⟩
  have hs : Same W1 ρ ρ' := fun k hk => by
    rw [hρ']
    show (if _ then _ else _) = _
    rw [if_neg (fun e => by have := hvb k e; omega)]
  have hr : ∀ k, k < W.heap.size → ∀ r, ρ k = r → ρ' k = r := fun k hk r e => by rw [hs k (by omega), e]
  have mv : ∀ j, j ≠ 0 → ∀ k, ρ k = rl t j → ((((W2.setCell ⟨g, 0, none⟩ (.int .i64 c)).setCell ⟨gt, 5, none⟩ (.bool true)).setCell ⟨gt, 1, none⟩ (.int .i64 c)).setCell ⟨gt, 6, none⟩ v).heap[k]? = W1.heap[k]? := fun j h0 k hk =>
    hold k (h.own k (by rw [hk]; unfold rl; omega)).2 (fun e => h0 (rl_inj (t := t) (by rw [← hk, e, hx.role])))
  have hsz : W2.heap.size = ((((W2.setCell ⟨g, 0, none⟩ (.int .i64 c)).setCell ⟨gt, 5, none⟩ (.bool true)).setCell ⟨gt, 1, none⟩ (.int .i64 c)).setCell ⟨gt, 6, none⟩ v).heap.size := by simp [setCell_size]
  have hbelow : Below base W1 ((((W2.setCell ⟨g, 0, none⟩ (.int .i64 c)).setCell ⟨gt, 5, none⟩ (.bool true)).setCell ⟨gt, 1, none⟩ (.int .i64 c)).setCell ⟨gt, 6, none⟩ v) := by
    refine ⟨?_, ?_, ?_, by rw [← hsz, s1]; exact hB.size, fun k hk => hold k (by omega) (fun e => by have := hgt.1; omega)⟩
    · rw [← hW1]; exact hB.os
    · rw [← hW1]; exact hB.tape
    · rw [← hW1]; exact hB.output
  refine EngPost.via hd1 (h1.tx_turn ht (by rw [Array.getElem?_setIfInBounds_ne (by omega)]; exact hc) hs (fun k hk => ?_) (fun k h0 hi => hold k (h.own k h0).2 (fun e => hi (by rw [e, hx.role]; exact rl_tx t 0 (by omega)))) (x' := { x with pointed := true, stamp := c, left := ks }) (rd := rd) (pa := pa) (lf := v) (ms := ms)
    ⟨hr gt hgt.2 _ hx.role, hx.ge, hbk, ?_, ?_, ?_, hx1.maps.move (fun k hk => hr k (h.own k (by rw [hk]; unfold rl; omega)).2 _ hk) (fun k hk => mv 4 (by omega) k hk)⟩ ⟨by rw [← hsz, s1]; exact hB.size, fun k hk h0 => ?_⟩ hbelow)
  · rw [← hsz]
    rw [hρ'] at hk
    by_cases e : v.ownBlock = some k
    · have := hvb k e; have := hvl k e; omega
    · simp only [e, if_false] at hk
      have := h.own k hk; have := hB.size; omega
  · exact N_flat kI_flat (N_flat_move kI_flat hx1.reads fun k hk => mv 1 (by omega) k (hx1.reads.1 k hk)) fun k hk => hr k (h.own k (by rw [hx1.reads.1 k hk]; unfold rl; omega)).2 _ (hx1.reads.1 k hk)
  · exact N_flat kP_flat (N_flat_move kP_flat hx1.parts fun k hk => mv 2 (by omega) k (hx1.parts.1 k hk)) fun k hk => hr k (h.own k (by rw [hx1.parts.1 k hk]; unfold rl; omega)).2 _ (hx1.parts.1 k hk)
  · have hN2 := N_flat_move kI_flat hN (w1 := ((((W2.setCell ⟨g, 0, none⟩ (.int .i64 c)).setCell ⟨gt, 5, none⟩ (.bool true)).setCell ⟨gt, 1, none⟩ (.int .i64 c)).setCell ⟨gt, 6, none⟩ v)) (fun k hk => hfar k (fun e => by have := hvb k hk; omega) (fun e => by have := hvb k hk; omega))
    exact Kd.N_V (base' := base) (N_flat kI_flat hN2 (ok' := fun k => ρ' k = rl t 3) (fun k hk => by rw [hρ']; simp [hk]))
  · have h0' : ¬ (ρ k ≠ 0) := h0
    exact hold k (by omega) (fun e => h0' (by rw [e, hx.role]; unfold rl; omega))
end
end Go.Proofs.Ytcnbgamalhfkmaa.P
