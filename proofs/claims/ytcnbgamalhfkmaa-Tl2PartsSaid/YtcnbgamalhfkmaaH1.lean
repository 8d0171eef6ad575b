/- tl2: what a call leaves beside the engine; a read more. -/
import Derived.Test.YtcnbgamalhfkmaaF2
namespace Go.Proofs.Ytcnbgamalhfkmaa.P
open Go.RowKit Go.Proofs.YtcnbgamalhfkmaaW.PrintWords Go.Proofs.YtcnbgamalhfkmaaW.PrintLast Go.Proofs.YtcnbgamalhfkmaaW.PrintMore
set_option linter.unusedVariables false
set_option linter.unusedSimpArgs false
open Go.WideShapes Go.Maps Go.Shelf
section
variable {W : World} {base : Nat} {ρ : Nat → Nat} {g : Nat} {s : PEng} {cells : Array Value} {vs : Value}
theorem parts_backs (parts : List Mp) (N : Nat) (h : N = parts.length) : parts.reverse = (backs N).map fun i => parts.getD i.1 [] := by
  subst h
  unfold backs
  rw [List.map_reverse]
  congr 1
  apply List.ext_getElem
  · simp
  · intro i h1 h2
    simp [h1]
theorem hit_none {parts : List Mp} {n : Int} {N : Nat} (h : N = parts.length) (hn : ∀ i ∈ backs N, getM (parts.getD i.1 []) n = none) : hitM parts n = none := by
  unfold hitM
  rw [parts_backs parts N h, List.findSome?_map, List.findSome?_eq_none_iff]
  exact hn
theorem hit_stop {parts : List Mp} {n v : Int} {N : Nat} (h : N = parts.length) {ini : List (Fin N)} {last : Fin N} (hp : ini ++ [last] <+: backs N) (hn : ∀ i ∈ ini, getM (parts.getD i.1 []) n = none) (hv : getM (parts.getD last.1 []) n = some v) : hitM parts n = some v := by
  obtain ⟨r, hr⟩ := hp
  have h0 : ini.findSome? ((fun p => getM p n) ∘ fun i => parts.getD i.1 []) = none := List.findSome?_eq_none_iff.2 hn
  unfold hitM
  rw [parts_backs parts N h, List.findSome?_map, ← hr, List.append_assoc, List.findSome?_append, h0, Option.none_or, List.singleton_append, List.findSome?_cons]
  simp only [Function.comp]
  rw [hv]
/-- What a call has written in blocks of its own. -/
theorem EngPost.scratch {W1 W2 W3 : World} {s' : PEng} (hb : Below W.heap.size W W1) (hbase : base ≤ W.heap.size) (h0 : ∀ k, ρ k ≠ 0 → k < W.heap.size) (h : EngPost W1 base ρ g s' W2) (hk : Kept W2 W3 (fun k => W.heap.size ≤ k ∧ k < W1.heap.size)) (hb3 : Below base W2 W3) : EngPost W base ρ g s' W3 := by
  obtain ⟨ρ', cells', vs', he, hd⟩ := h
  have hd' : Did W base ρ ρ' W2 := (Did.of_below hb hbase).trans hd
  refine ⟨ρ', cells', vs', he.kept hk (fun k hS => ?_), hd'.same, ⟨Nat.le_trans hd'.kept.1 hk.1, fun k hl hn => (hk.2 k (Nat.lt_of_lt_of_le hl hd'.kept.1) (fun hS => by omega)).trans (hd'.kept.2 k hl hn)⟩, hd'.below.trans hb3⟩
  rw [hd.same k hS.2]
  by_cases e : ρ k = 0
  · exact e
  · have := h0 k e; omega
/-- A read more. -/
theorem EngAt.push_reads (h : EngAt W base ρ g s cells vs) {t gt : Nat} (ht : t < 8) (hc : cells[2 + t]? = some (.pointer (some ⟨gt, 0, none⟩))) {x : PTx} {rd pa lf : Value} {ms : List Nat} (hx : TxAt W base ρ t gt x rd pa lf ms) {w1 : World} {v1 : Value} {n : Int}
    (hN : Kd.N kI 3 w1 base (fun _ => True) v1 (x.reads ++ [n])) (hb : Below base W w1) (hg : W.grownBy w1 rd.ownBlock) (hat : v1.ownBlock = rd.ownBlock ∨ ∃ b, v1.ownBlock = some b ∧ W.heap.size ≤ b) :
    EngPost W base ρ g (P.setTx s (t : Int) (some { x with reads := x.reads ++ [n] })) (w1.setCell ⟨gt, 2, none⟩ v1) := by
  have hpa : ∀ k, rd.ownBlock = some k → ρ k = rl t 1 := hx.reads.1
  have hgt := h.own gt (by rw [hx.role]; unfold rl; omega)
  have hown : ∀ k, rd.ownBlock = some k → k < W.heap.size := fun k hk => (h.own k (by rw [hpa k hk]; unfold rl; omega)).2
  have hold : ∀ k, k < W.heap.size → some k ≠ rd.ownBlock → w1.heap[k]? = W.heap[k]? := fun k hk hne => hg.block k hk hne
  have hv1 : ∀ k, v1.ownBlock = some k → k ≠ gt := fun k hk e2 => by
    rcases hat with e | ⟨b, e, hb'⟩
    · have h1 := hpa k (e ▸ hk)
      subst e2
      rw [hx.role] at h1
      exact absurd (rl_inj h1) (by omega)
    · rw [e] at hk; injection hk with hk; omega
  have hset : ∀ k, k ≠ gt → (w1.setCell ⟨gt, 2, none⟩ v1).heap[k]? = w1.heap[k]? := fun k hk => Below.heap_setCell w1 ⟨gt, 2, none⟩ v1 k hk
  have hs : Same W ρ (withRow ρ v1 (rl t 1)) := withRow_same hpa (by
    rcases hat with e | ⟨b, e, hb'⟩
    · exact .inl e
    · exact .inr ⟨b, e, hb'⟩)
  have hr : ∀ k, k < W.heap.size → ∀ r, ρ k = r → (withRow ρ v1 (rl t 1)) k = r := fun k hk r e => by rw [hs k hk, e]
  have hgb : some gt ≠ rd.ownBlock := fun e => by
    have h1 := hpa gt e.symm
    rw [hx.role] at h1
    exact absurd (rl_inj h1) (by omega)
  have mv : ∀ j, j ≠ 0 → j ≠ 1 → ∀ k, ρ k = rl t j → (w1.setCell ⟨gt, 2, none⟩ v1).heap[k]? = W.heap[k]? := fun j h0 h2 k hk => by
    have hl := (h.own k (by rw [hk]; unfold rl; omega)).2
    rw [hset k (fun e => h0 (rl_inj (t := t) (by rw [← hk, e, hx.role])))]
    exact hold k hl (fun e => h2 (rl_inj (t := t) (by rw [← hk, hpa k e.symm])))
  refine h.tx_turn ht hc hs (fun k hk => ?_) (fun k h0 h1 => ?_) (x' := { x with reads := x.reads ++ [n] }) (rd := v1) (pa := pa) (lf := lf) (ms := ms) ⟨hr gt hgt.2 _ hx.role, hx.ge, ?_, ?_, ?_, ?_, hx.maps.move (fun k hk => hr k (h.own k (by rw [hk]; unfold rl; omega)).2 _ hk) (fun k hk => mv 4 (by omega) (by omega) k hk)⟩ ?_ ?_
  · rw [setCell_size]
    unfold withRow at hk
    split at hk
    · next he => exact N_in hN k he
    · have := h.own k hk; have := hg.size; omega
  · have hl := (h.own k h0).2
    rw [hset k (fun e => h1 (by rw [e, hx.role]; exact rl_tx t 0 (by omega)))]
    exact hold k hl (fun e => h1 (by rw [hpa k e.symm]; exact rl_tx t 1 (by omega)))
  · have hbk : w1.heap[gt]? = some (.cells #[.int .i64 x.start, .int .i64 x.stamp, rd, pa, .bool x.commits, .bool x.pointed, lf] 81 (0, 0)) := (hold gt hgt.2 hgb).trans hx.blk
    exact blk_set hbk 2 v1
  · exact N_flat kI_flat (N_flat_move kI_flat hN fun k hk => hset k (hv1 k hk)) fun k hk => withRow_at k hk
  · exact N_flat kP_flat (N_flat_move kP_flat hx.parts fun k hk => mv 2 (by omega) (by omega) k (hx.parts.1 k hk)) fun k hk => hr k (h.own k (by rw [hx.parts.1 k hk]; unfold rl; omega)).2 _ (hx.parts.1 k hk)
  · exact V_move hx.left (fun k hk => hr k (h.own k (by rw [hk]; unfold rl; omega)).2 _ hk) (fun k hk _ => mv 3 (by omega) (by omega) k hk)
  · refine Kept.setCell (Kept.of_grown hg (Kept.refl W _) (fun k e => .inl (by rw [hpa k e]; unfold rl; omega))) (.inl (by rw [hx.role]; unfold rl; omega)) v1
  · exact hb.setCell (p := ⟨gt, 2, none⟩) hx.ge v1
theorem read_cells {W2 : World} {t gt : Nat} {x : PTx} {rd pa lf : Value} {ms : List Nat} (h : EngAt W base ρ g s cells vs) (hx : TxAt W base ρ t gt x rd pa lf ms) (hs : W.heap.size ≤ W2.heap.size) (hg : ∀ k, k < W.heap.size → some k ≠ rd.ownBlock → W2.heap[k]? = W.heap[k]?) (k j : Nat) (v : Value) (hk : k < W.heap.size) (hr : ρ k ≠ rl t 1) (hc : W.cell? ⟨k, j, none⟩ = some v) : W2.cell? ⟨k, j, none⟩ = some v := by
  have := hg k hk (fun e => hr (hx.reads.1 k e.symm))
  simpa [World.cell?, this] using hc
theorem read_frozen {W2 : World} {t gt : Nat} {x : PTx} {rd pa lf : Value} {ms : List Nat} (hx : TxAt W base ρ t gt x rd pa lf ms) (hs : W.heap.size ≤ W2.heap.size) (hg : ∀ k, k < W.heap.size → some k ≠ rd.ownBlock → W2.heap[k]? = W.heap[k]?) {k j : Nat} (hk : k < W.heap.size) (hr : ρ k ≠ rl t 1) (hc : W.frozen? ⟨k, j, none⟩ = false) : W2.frozen? ⟨k, j, none⟩ = false := by
  have := hg k hk (fun e => hr (hx.reads.1 k e.symm))
  simpa [World.frozen?, this] using hc
theorem cell_of_heap {W W' : World} {k j : Nat} {v : Value} (h : W'.heap[k]? = W.heap[k]?) (hc : W.cell? ⟨k, j, none⟩ = some v) : W'.cell? ⟨k, j, none⟩ = some v := by simpa [World.cell?, h] using hc
end
end Go.Proofs.Ytcnbgamalhfkmaa.P
