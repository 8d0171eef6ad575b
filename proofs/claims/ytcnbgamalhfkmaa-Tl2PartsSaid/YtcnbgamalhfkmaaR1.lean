/- tl2: the document's engine moved, made; Make; a new engine. -/
import Derived.Test.YtcnbgamalhfkmaaR0
namespace Go.Proofs.Ytcnbgamalhfkmaa.P
open Go.RowKit Go.Proofs.YtcnbgamalhfkmaaW.PrintWords Go.Proofs.YtcnbgamalhfkmaaW.PrintLast Go.Proofs.YtcnbgamalhfkmaaW.PrintMore
set_option linter.unusedVariables false
set_option linter.unusedSimpArgs false
open Go.WideShapes Go.Maps
theorem kW_open {w : World} {x : RPut} {cs : List Value} (h : kW.K w x cs) : cs = [.int .i64 x.n, .int .i64 x.v, .int .i64 x.part] := by
  obtain ⟨_, _, rfl, rfl, ⟨_, _, rfl, rfl, rfl⟩⟩ := h
  exact rfl
theorem kW_mk (w : World) (x : RPut) : kW.K w x [.int .i64 x.n, .int .i64 x.v, .int .i64 x.part] := ⟨[_], [_, _], rfl, rfl, ⟨[_], [_], rfl, rfl, rfl⟩⟩
theorem kW_flat : FlatK kW := fun w w' x cs h => by rw [kW_open h]; exact kW_mk w' x
section
variable {W : World} {base : Nat} {σ : Nat → Nat} {a : Nat} {s : REng} {V : Value} {gt : Nat} {tc : Array Value}
theorem RefAt.move {W' : World} (h : RefAt W base σ a s V gt tc) (hsz : W.heap.size ≤ W'.heap.size) (hh : ∀ k, σ k ≠ 0 → W'.heap[k]? = W.heap[k]?) : RefAt W' base σ a s V gt tc := by
  refine ⟨h.role, fun k hk => ⟨(h.own k hk).1, Nat.lt_of_lt_of_le (h.own k hk).2 hsz⟩, (hh a (by rw [h.role]; omega)).trans h.blk, ?_, h.trole, (hh gt (by rw [h.trole]; omega)).trans h.tblk, h.tsize, h.len, fun t ht => ?_⟩
  · exact N_flat_move kV_flat h.vars fun k hk => hh k (by have := h.vars.1 k hk; omega)
  · obtain ⟨rd, pu, h1, h2, h3⟩ := (h.txs t ht).ex
    exact ⟨rd, pu, h1, N_flat_move kI_flat h2 fun k hk => hh k (by have := h2.1 k hk; omega), N_flat_move kW_flat h3 fun k hk => hh k (by have := h3.1 k hk; omega)⟩
theorem RefAt.below {W' : World} (h : RefAt W base σ a s V gt tc) (hb : Below W.heap.size W W') : RefAt W' base σ a s V gt tc := h.move hb.size fun k hk => hb.block k (h.own k hk).2
theorem RefAt.kept {W' : World} {S : Nat → Prop} (h : RefAt W base σ a s V gt tc) (hk : Kept W W' S) (hS : ∀ k, S k → σ k = 0) : RefAt W' base σ a s V gt tc := h.move hk.1 fun k hk' => hk.2 k (h.own k hk').2 fun hs => hk' (hS k hs)
theorem RefAt.base_le (h : RefAt W base σ a s V gt tc) : base ≤ W.heap.size := by have := h.own a (by rw [h.role]; omega); omega
def RefPost (W : World) (base : Nat) (σ : Nat → Nat) (a : Nat) (s' : REng) (W' : World) : Prop := ∃ σ' V' gt' tc', RefAt W' base σ' a s' V' gt' tc' ∧ Did W base σ σ' W'
theorem new_ref (w : World) {base : Nat} (hb : base ≤ w.heap.size) : RefAt ((w.alloc (.cells zT 51)).alloc (.cells #[.int .i64 0, .slice none 0 0, .slice (some ⟨w.heap.size, 0, none⟩) 8 8] 55)) base (fun k => if k = w.heap.size then 3 else if k = w.heap.size + 1 then 1 else 0) (w.heap.size + 1) newR (.slice none 0 0) w.heap.size zT := by
  refine ⟨by simp, fun k hk => ?_, ?_, Kd.N_nil _ _ _ _ _, by simp, blk_alloc (blk_new w _) _, rfl, rfl, fun t ht => ?_⟩
  · change (if k = w.heap.size then 3 else if k = w.heap.size + 1 then 1 else 0) ≠ 0 at hk
    have : k = w.heap.size ∨ k = w.heap.size + 1 := by
      by_cases e1 : k = w.heap.size
      · exact .inl e1
      · rw [if_neg e1] at hk
        by_cases e2 : k = w.heap.size + 1
        · exact .inr e2
        · rw [if_neg e2] at hk; exact absurd rfl hk
    rw [World.size_alloc, World.size_alloc]
    omega
  · have := blk_new (w.alloc (.cells zT 51)) (.cells #[.int .i64 0, .slice none 0 0, .slice (some ⟨w.heap.size, 0, none⟩) 8 8] 55)
    rwa [World.size_alloc] at this
  · refine ⟨.slice none 0 0, .slice none 0 0, fun j u hj => ?_, ?_, ?_⟩
    · have hjl : j < 8 := by have := (List.getElem?_eq_some_iff.1 hj).1; simpa [rcells] using this
      have hz : newR.txs.getD t zR = zR := by
        match t, ht with
        | 0, _ => rfl | 1, _ => rfl | 2, _ => rfl | 3, _ => rfl | 4, _ => rfl | 5, _ => rfl | 6, _ => rfl | 7, _ => rfl
      rw [hz] at hj
      have : ∀ t : Fin 8, ∀ j : Fin 8, (rcells zR (.slice none 0 0) (.slice none 0 0))[j.1]? = zT[8 * t.1 + j.1]? := by
        intro t j
        match t, j with
        | ⟨0, _⟩, ⟨0, _⟩ => rfl | ⟨0, _⟩, ⟨1, _⟩ => rfl | ⟨0, _⟩, ⟨2, _⟩ => rfl | ⟨0, _⟩, ⟨3, _⟩ => rfl | ⟨0, _⟩, ⟨4, _⟩ => rfl | ⟨0, _⟩, ⟨5, _⟩ => rfl | ⟨0, _⟩, ⟨6, _⟩ => rfl | ⟨0, _⟩, ⟨7, _⟩ => rfl
        | ⟨1, _⟩, ⟨0, _⟩ => rfl | ⟨1, _⟩, ⟨1, _⟩ => rfl | ⟨1, _⟩, ⟨2, _⟩ => rfl | ⟨1, _⟩, ⟨3, _⟩ => rfl | ⟨1, _⟩, ⟨4, _⟩ => rfl | ⟨1, _⟩, ⟨5, _⟩ => rfl | ⟨1, _⟩, ⟨6, _⟩ => rfl | ⟨1, _⟩, ⟨7, _⟩ => rfl
        | ⟨2, _⟩, ⟨0, _⟩ => rfl | ⟨2, _⟩, ⟨1, _⟩ => rfl | ⟨2, _⟩, ⟨2, _⟩ => rfl | ⟨2, _⟩, ⟨3, _⟩ => rfl | ⟨2, _⟩, ⟨4, _⟩ => rfl | ⟨2, _⟩, ⟨5, _⟩ => rfl | ⟨2, _⟩, ⟨6, _⟩ => rfl | ⟨2, _⟩, ⟨7, _⟩ => rfl
        | ⟨3, _⟩, ⟨0, _⟩ => rfl | ⟨3, _⟩, ⟨1, _⟩ => rfl | ⟨3, _⟩, ⟨2, _⟩ => rfl | ⟨3, _⟩, ⟨3, _⟩ => rfl | ⟨3, _⟩, ⟨4, _⟩ => rfl | ⟨3, _⟩, ⟨5, _⟩ => rfl | ⟨3, _⟩, ⟨6, _⟩ => rfl | ⟨3, _⟩, ⟨7, _⟩ => rfl
        | ⟨4, _⟩, ⟨0, _⟩ => rfl | ⟨4, _⟩, ⟨1, _⟩ => rfl | ⟨4, _⟩, ⟨2, _⟩ => rfl | ⟨4, _⟩, ⟨3, _⟩ => rfl | ⟨4, _⟩, ⟨4, _⟩ => rfl | ⟨4, _⟩, ⟨5, _⟩ => rfl | ⟨4, _⟩, ⟨6, _⟩ => rfl | ⟨4, _⟩, ⟨7, _⟩ => rfl
        | ⟨5, _⟩, ⟨0, _⟩ => rfl | ⟨5, _⟩, ⟨1, _⟩ => rfl | ⟨5, _⟩, ⟨2, _⟩ => rfl | ⟨5, _⟩, ⟨3, _⟩ => rfl | ⟨5, _⟩, ⟨4, _⟩ => rfl | ⟨5, _⟩, ⟨5, _⟩ => rfl | ⟨5, _⟩, ⟨6, _⟩ => rfl | ⟨5, _⟩, ⟨7, _⟩ => rfl
        | ⟨6, _⟩, ⟨0, _⟩ => rfl | ⟨6, _⟩, ⟨1, _⟩ => rfl | ⟨6, _⟩, ⟨2, _⟩ => rfl | ⟨6, _⟩, ⟨3, _⟩ => rfl | ⟨6, _⟩, ⟨4, _⟩ => rfl | ⟨6, _⟩, ⟨5, _⟩ => rfl | ⟨6, _⟩, ⟨6, _⟩ => rfl | ⟨6, _⟩, ⟨7, _⟩ => rfl
        | ⟨7, _⟩, ⟨0, _⟩ => rfl | ⟨7, _⟩, ⟨1, _⟩ => rfl | ⟨7, _⟩, ⟨2, _⟩ => rfl | ⟨7, _⟩, ⟨3, _⟩ => rfl | ⟨7, _⟩, ⟨4, _⟩ => rfl | ⟨7, _⟩, ⟨5, _⟩ => rfl | ⟨7, _⟩, ⟨6, _⟩ => rfl | ⟨7, _⟩, ⟨7, _⟩ => rfl
      exact (this ⟨t, ht⟩ ⟨j, hjl⟩).symm.trans hj
    · have hz : newR.txs.getD t zR = zR := by
        match t, ht with
        | 0, _ => rfl | 1, _ => rfl | 2, _ => rfl | 3, _ => rfl | 4, _ => rfl | 5, _ => rfl | 6, _ => rfl | 7, _ => rfl
      rw [hz]; exact Kd.N_nil _ _ _ _ _
    · have hz : newR.txs.getD t zR = zR := by
        match t, ht with
        | 0, _ => rfl | 1, _ => rfl | 2, _ => rfl | 3, _ => rfl | 4, _ => rfl | 5, _ => rfl | 6, _ => rfl | 7, _ => rfl
      rw [hz]; exact Kd.N_nil _ _ _ _ _
/-- The vars' row has grown, and the engine has the new one. -/
theorem RefAt.push_vars {w1 : World} {v1 : Value} {vars' : List PVar} (h : RefAt W base σ a s V gt tc) (hN : Kd.N kV 69 w1 base (fun _ => True) v1 vars') (hb : Below base W w1) (hg : W.grownBy w1 V.ownBlock)
    (hat : v1.ownBlock = V.ownBlock ∨ ∃ b, v1.ownBlock = some b ∧ W.heap.size ≤ b) : RefPost W base σ a { s with vars := vars' } (w1.setCell ⟨a, 1, none⟩ v1) := by
  have hal := h.own a (by rw [h.role]; omega)
  have hng : ∀ k, v1.ownBlock = some k → k ≠ a := fun k hk e => by
    rcases hat with e1 | ⟨b, e1, hb1⟩
    · have := h.vars.1 k (e1 ▸ hk); have := h.role; subst e; omega
    · rw [e1] at hk; injection hk with hk; omega
  have hVa : ∀ k, V.ownBlock = some k → σ k = 2 := h.vars.1
  have hold : ∀ k, σ k ≠ 0 → σ k ≠ 1 → σ k ≠ 2 → (w1.setCell ⟨a, 1, none⟩ v1).heap[k]? = W.heap[k]? := fun k h0 h1 h2 => by
    rw [Below.heap_setCell w1 ⟨a, 1, none⟩ v1 k (fun e => h1 (by rw [e]; exact h.role))]
    exact hg.block k (h.own k h0).2 (fun e => h2 (hVa k e.symm))
  have hbk : w1.heap[a]? = some (.cells #[.int .i64 s.clock, V, .slice (some ⟨gt, 0, none⟩) 8 8] 55 (0, 0)) := (hg.block a hal.2 (fun e => by have := hVa a e.symm; have := h.role; omega)).trans h.blk
  have hs : Same W σ (withRow σ v1 2) := withRow_same hVa hat
  have hr : ∀ k, σ k ≠ 0 → withRow σ v1 2 k = σ k := fun k hk => hs k (h.own k hk).2
  refine ⟨withRow σ v1 2, v1, gt, tc, ⟨by rw [hr a (by rw [h.role]; omega)]; exact h.role, by rw [setCell_size]; exact withRow_own h.own hg.size (N_in hN), blk_set hbk 1 v1, ?_, by rw [hr gt (by rw [h.trole]; omega)]; exact h.trole, (hold gt (by rw [h.trole]; omega) (by rw [h.trole]; omega) (by rw [h.trole]; omega)).trans h.tblk, h.tsize, h.len, fun t ht => ?_⟩, hs, ?_, ?_⟩
  · exact N_flat kV_flat (N_flat_move kV_flat hN fun k hk => Below.heap_setCell w1 ⟨a, 1, none⟩ v1 k (hng k hk)) withRow_at
  · obtain ⟨rd, pu, h1, h2, h3⟩ := (h.txs t ht).ex
    refine ⟨rd, pu, h1, N_flat kI_flat (N_flat_move kI_flat h2 fun k hk => ?_) (fun k hk => ?_), N_flat kW_flat (N_flat_move kW_flat h3 fun k hk => ?_) (fun k hk => ?_)⟩
    · have := h2.1 k hk; exact hold k (by omega) (by omega) (by omega)
    · have := h2.1 k hk; show withRow σ v1 2 k = _; rw [hr k (by omega)]; exact this
    · have := h3.1 k hk; exact hold k (by omega) (by omega) (by omega)
    · have := h3.1 k hk; show withRow σ v1 2 k = _; rw [hr k (by omega)]; exact this
  · exact Kept.setCell (Kept.of_grown hg (Kept.refl W _) (fun k e => .inl (by rw [hVa k e]; omega))) (.inl (by show σ a ≠ 0; rw [h.role]; omega)) v1
  · exact hb.setCell (p := ⟨a, 1, none⟩) hal.1 v1
set_option maxHeartbeats 4000000 in
theorem rmake_calls (h : RefAt W base σ a s V gt tc) (v : Int) (hl : s.vars.length ≤ 4000) : Calls Try.prog 38 #[.pointer (some ⟨a, 0, none⟩), .int .i64 v] W fun e w' => e = .returned (.tuple #[.int .i64 (makeR s v).1, .int .i64 (makeR s v).2.1]) ∧ RefPost W base σ a (makeR s v).2.2 w' := by
  have HO := Aside0.mk (show makeR s v = if s.vars.length = 4000 then ((0 : Int), (16 : Int), s) else ((s.vars.length : Int), (0 : Int), ({ s with vars := s.vars ++ [⟨v, 0, -1⟩] } : REng)) from rfl)
  have HH := Aside0.mk h
  have k1 := blk_cell h.blk 1
  have f1 := blk_frozen h.blk 1
  have HN := Aside0.mk h.vars
  obtain ⟨A, c, rfl⟩ := Kd.N_slice h.vars
  clear h
  by_cases h4 : s.vars.length = 4000
  · have h4z : (s.vars.length : Int) = 4000 := by omega
    have HE := Aside0.mk (show makeR s v = (0, 16, s) by rw [HO.out, if_pos h4])
    clear HO h4
    go_enter Try.func38, Try.ntmps38
    go_wp2
    go_ret2
    rw [HE.out]
    exact ⟨rfl, σ, _, _, _, HH.out, Did.refl⟩
  · have h4z : ¬ (s.vars.length : Int) = 4000 := by omega
    have HE := Aside0.mk (show makeR s v = ((s.vars.length : Int), (0 : Int), ({ s with vars := s.vars ++ [⟨v, 0, -1⟩] } : REng)) by rw [HO.out, if_neg h4])
    clear HO h4
    go_enter Try.func38, Try.ntmps38
    go_wp2_with ((with_reducible refine gate_builtin (b := .append) (xs := #[.tmp 16, .tmp 19]) rfl ?_); at_builtin; refine Kd.N_append kV (w0 := W) base rfl (.tmp 16) (.tmp 19) 52 69 (.agg #[.int .i64 0, .int .i64 0, .int .i64 0]) 24 rfl Try.underlying52 info69 rfl (by decide) (by omega) (.slice A s.vars.length c) s.vars ⟨v, 0, -1⟩ [.int .i64 v, .int .i64 0, .int .i64 (-1)] (fun _ => True) (fun _ => False) rfl rfl ?aP (fun _ hk => hk.elim) (fun _ _ => trivial) ?aO ?aB ?aS ?aL ?_; (case aP => exact fun W' _ => kV_mk W' _); (case aO => exact Kd.N_mono HN.out (fun _ _ => trivial)); (case aB => exact Below.refl _ _); (case aS => exact HH.out.base_le); (case aL => omega); intro v1 w1 ho hb hg hat; have HN1 := Aside0.mk ho; have HB1 := Aside0.mk hb; have HG1 := Aside0.mk hg; have HA1 := Aside0.mk hat; clear ho hb hg hat; obtain ⟨A1, c1, e1⟩ := Kd.N_slice HN1.out; subst e1; have hb1 := (HG1.out.block a (HH.out.own a (by rw [HH.out.role]; omega)).2 (fun e => by have := HN.out.1 a e.symm; have := HH.out.role; omega)).trans HH.out.blk; have j1 := blk_cell hb1 1; have g1 := blk_frozen hb1 1; clear hb1 k1 f1)
    go_ret2
    have HP := HH.out.push_vars HN1.out HB1.out HG1.out HA1.out
    rw [show (s.vars ++ [(⟨v, 0, -1⟩ : PVar)]).length = s.vars.length + 1 from by simp] at HP
    rw [HE.out]
    exact ⟨rfl, HP⟩
end
end Go.Proofs.Ytcnbgamalhfkmaa.P
