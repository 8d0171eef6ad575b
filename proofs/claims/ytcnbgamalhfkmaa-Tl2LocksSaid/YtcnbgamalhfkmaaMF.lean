/- tl2: the document's engine: plain model, in memory; New. tl2: the document's engine moved, made; Make; a new engine. tl2: a new engine; both engines side by side; begin. tl2: one engine by itself; the example's states. tl2: lives. -/
import Derived.Test.YtcnbgamalhfkmaaMA
import Derived.Test.YtcnbgamalhfkmaaMC
import Derived.Test.YtcnbgamalhfkmaaME
namespace Go.Proofs.Ytcnbgamalhfkmaa.P
open Go.RowKit Go.Proofs.YtcnbgamalhfkmaaW.PrintWords Go.Proofs.YtcnbgamalhfkmaaW.PrintLast Go.Proofs.YtcnbgamalhfkmaaW.PrintMore
set_option linter.unusedVariables false
set_option linter.unusedSimpArgs false
open Go.WideShapes Go.Maps
structure RPut where
  n : Int
  v : Int
  part : Int
structure RTx where
  is : Bool
  start : Int
  reads : List Int
  puts : List RPut
  parts : Int
  commits : Bool
  stamp : Int
  done : Int
structure REng where
  clock : Int
  vars : List PVar
  txs : List RTx
def zR : RTx := ⟨false, 0, [], [], 0, false, 0, 0⟩
def newR : REng := ⟨0, [], List.replicate 8 zR⟩
def makeR (s : REng) (v : Int) : Int × Int × REng := if s.vars.length = 4000 then (0, 16, s) else (s.vars.length, 0, { s with vars := s.vars ++ [⟨v, 0, -1⟩] })
def kW : Kd RPut := Kd.iso (Kd.pair (Kd.int .i64) (Kd.pair (Kd.int .i64) (Kd.int .i64))) (fun x : RPut => (x.n, x.v, x.part))
def rcells (x : RTx) (rd pu : Value) : List Value := [.bool x.is, .int .i64 x.start, rd, pu, .int .i64 x.parts, .bool x.commits, .int .i64 x.stamp, .int .i64 x.done]
def zT : Array Value := #[.bool false, .int .i64 0, .slice none 0 0, .slice none 0 0, .int .i64 0, .bool false, .int .i64 0, .int .i64 0, .bool false, .int .i64 0, .slice none 0 0, .slice none 0 0, .int .i64 0, .bool false, .int .i64 0, .int .i64 0, .bool false, .int .i64 0, .slice none 0 0, .slice none 0 0, .int .i64 0, .bool false, .int .i64 0, .int .i64 0, .bool false, .int .i64 0, .slice none 0 0, .slice none 0 0, .int .i64 0, .bool false, .int .i64 0, .int .i64 0,
  .bool false, .int .i64 0, .slice none 0 0, .slice none 0 0, .int .i64 0, .bool false, .int .i64 0, .int .i64 0, .bool false, .int .i64 0, .slice none 0 0, .slice none 0 0, .int .i64 0, .bool false, .int .i64 0, .int .i64 0, .bool false, .int .i64 0, .slice none 0 0, .slice none 0 0, .int .i64 0, .bool false, .int .i64 0, .int .i64 0, .bool false, .int .i64 0, .slice none 0 0, .slice none 0 0, .int .i64 0, .bool false, .int .i64 0, .int .i64 0]
theorem info69 : (Try.prog.info? 69).map (fun i => (i.zero, i.size, i.bytes)) = some (some (.agg #[.int .i64 0, .int .i64 0, .int .i64 0]), 3, 24) := by kernel_rfl
/-- The roles of the ref engine's blocks: its own 1, the vars' row 2, the transactions' row 3; per thread what it has read 8 + 2 t, its puts 9 + 2 t. -/
structure RTxAt (W : World) (base : Nat) (σ : Nat → Nat) (t : Nat) (tc : Array Value) (x : RTx) : Prop where
  ex : ∃ rd pu, (∀ j u, (rcells x rd pu)[j]? = some u → tc[8 * t + j]? = some u) ∧ Kd.N kI 3 W base (fun k => σ k = 8 + 2 * t) rd x.reads ∧ Kd.N kW 61 W base (fun k => σ k = 9 + 2 * t) pu x.puts
structure RefAt (W : World) (base : Nat) (σ : Nat → Nat) (a : Nat) (s : REng) (V : Value) (gt : Nat) (tc : Array Value) : Prop where
  role : σ a = 1
  own : ∀ k, σ k ≠ 0 → base ≤ k ∧ k < W.heap.size
  blk : W.heap[a]? = some (.cells #[.int .i64 s.clock, V, .slice (some ⟨gt, 0, none⟩) 8 8] 55 (0, 0))
  vars : Kd.N kV 69 W base (fun k => σ k = 2) V s.vars
  trole : σ gt = 3
  tblk : W.heap[gt]? = some (.cells tc 51 (0, 0))
  tsize : tc.size = 64
  len : s.txs.length = 8
  txs : ∀ t, t < 8 → RTxAt W base σ t tc (s.txs.getD t zR)
set_option maxRecDepth 100000 in
set_option maxHeartbeats 4000000 in
theorem rnew_calls (w : World) : Calls Try.prog 36 #[] w fun e w' => e = .returned (.pointer (some ⟨w.heap.size + 1, 0, none⟩)) ∧ (w.alloc (.cells zT 51)).alloc (.cells #[.int .i64 0, .slice none 0 0, .slice (some ⟨w.heap.size, 0, none⟩) 8 8] 55) = w' := by
  have hmk : ∀ w, (Instr.makeSlice 53 (.int .i64 8) (.int .i64 8)).run Try.prog w = .ok (.slice (some ⟨w.heap.size, 0, none⟩) 8 8) (w.alloc (.cells zT 51)) := fun _ => by kernel_rfl
  go_enter Try.func36, Try.ntmps36
  go_wp2
  go_ret
  exact ⟨rfl, rfl⟩
end Go.Proofs.Ytcnbgamalhfkmaa.P
namespace Go.Proofs.Ytcnbgamalhfkmaa.P
open Go.RowKit Go.Proofs.YtcnbgamalhfkmaaW.PrintWords Go.Proofs.YtcnbgamalhfkmaaW.PrintLast Go.Proofs.YtcnbgamalhfkmaaW.PrintMore
set_option linter.unusedVariables false
set_option linter.unusedSimpArgs false
open Go.WideShapes Go.Maps
theorem kW_open {w : World} {x : RPut} {cs : List Value} (h : kW.K w x cs) : cs = [.int .i64 x.n, .int .i64 x.v, .int .i64 x.part] := by
  obtain ⟨_, _, rfl, rfl, ⟨_, _, rfl, rfl, rfl⟩⟩ := h
  exact rfl
theorem kW_mk (w : World) (x : RPut) : kW.K w x [.int .i64 x.n, .int .i64 x.v, .int .i64 x.part] := ⟨[_], [_, _], rfl, rfl, ⟨[_], [_], rfl, rfl, rfl⟩⟩
theorem kW_flat : FlatK kW := fun w w' x cs h => by rw [kW_open h]; exact kW_mk w' x
section
variable {W : World} {base : Nat} {σ : Nat → Nat} {a : Nat} {s : REng} {V : Value} {gt : Nat} {tc : Array Value}
theorem RefAt.move {W' : World} (h : RefAt W base σ a s V gt tc) (hsz : W.heap.size ≤ W'.heap.size) (hh : ∀ k, σ k ≠ 0 → W'.heap[k]? = W.heap[k]?) : RefAt W' base σ a s V gt tc := by
  refine ⟨h.role, fun k hk => ⟨(h.own k hk).1, Nat.lt_of_lt_of_le (h.own k hk).2 hsz⟩, (hh a (by rw [h.role]; omega)).trans h.blk, ?_, h.trole, (hh gt (by rw [h.trole]; omega)).trans h.tblk, h.tsize, h.len, fun t ht => ?_⟩
  · exact N_flat_move kV_flat h.vars fun k hk => hh k (by have := h.vars.1 k hk; omega)
  · obtain ⟨rd, pu, h1, h2, h3⟩ := (h.txs t ht).ex
    exact ⟨rd, pu, h1, N_flat_move kI_flat h2 fun k hk => hh k (by have := h2.1 k hk; omega), N_flat_move kW_flat h3 fun k hk => hh k (by have := h3.1 k hk; omega)⟩
theorem RefAt.below {W' : World} (h : RefAt W base σ a s V gt tc) (hb : Below W.heap.size W W') : RefAt W' base σ a s V gt tc := h.move hb.size fun k hk => hb.block k (h.own k hk).2
theorem RefAt.kept {W' : World} {S : Nat → Prop} (h : RefAt W base σ a s V gt tc) (hk : Kept W W' S) (hS : ∀ k, S k → σ k = 0) : RefAt W' base σ a s V gt tc := h.move hk.1 fun k hk' => hk.2 k (h.own k hk').2 fun hs => hk' (hS k hs)
theorem RefAt.base_le (h : RefAt W base σ a s V gt tc) : base ≤ W.heap.size := by have := h.own a (by rw [h.role]; omega); omega
def RefPost (W : World) (base : Nat) (σ : Nat → Nat) (a : Nat) (s' : REng) (W' : World) : Prop := ∃ σ' V' gt' tc', RefAt W' base σ' a s' V' gt' tc' ∧ Did W base σ σ' W'
theorem new_ref (w : World) {base : Nat} (hb : base ≤ w.heap.size) : RefAt ((w.alloc (.cells zT 51)).alloc (.cells #[.int .i64 0, .slice none 0 0, .slice (some ⟨w.heap.size, 0, none⟩) 8 8] 55)) base (fun k => if k = w.heap.size then 3 else if k = w.heap.size + 1 then 1 else 0) (w.heap.size + 1) newR (.slice none 0 0) w.heap.size zT := by
  refine ⟨by simp, fun k hk => ?_, ?_, Kd.N_nil _ _ _ _ _, by simp, blk_alloc (blk_new w _) _, rfl, rfl, fun t ht => ?_⟩
  · change (if k = w.heap.size then 3 else if k = w.heap.size + 1 then 1 else 0) ≠ 0 at hk
    have : k = w.heap.size ∨ k = w.heap.size + 1 := by
      by_cases e1 : k = w.heap.size
      · exact .inl e1
      · rw [if_neg e1] at hk
        by_cases e2 : k = w.heap.size + 1
        · exact .inr e2
        · rw [if_neg e2] at hk; exact absurd rfl hk
    rw [World.size_alloc, World.size_alloc]
    omega
  · have := blk_new (w.alloc (.cells zT 51)) (.cells #[.int .i64 0, .slice none 0 0, .slice (some ⟨w.heap.size, 0, none⟩) 8 8] 55)
    rwa [World.size_alloc] at this
  · refine ⟨.slice none 0 0, .slice none 0 0, fun j u hj => ?_, ?_, ?_⟩
    · have hjl : j < 8 := by have := (List.getElem?_eq_some_iff.1 hj).1; simpa [rcells] using this
      have hz : newR.txs.getD t zR = zR := by
        match t, ht with
        | 0, _ => rfl | 1, _ => rfl | 2, _ => rfl | 3, _ => rfl | 4, _ => rfl | 5, _ => rfl | 6, _ => rfl | 7, _ => rfl
      rw [hz] at hj
      have : ∀ t : Fin 8, ∀ j : Fin 8, (rcells zR (.slice none 0 0) (.slice none 0 0))[j.1]? = zT[8 * t.1 + j.1]? := by
        intro t j
        match t, j with
        | ⟨0, _⟩, ⟨0, _⟩ => rfl | ⟨0, _⟩, ⟨1, _⟩ => rfl | ⟨0, _⟩, ⟨2, _⟩ => rfl | ⟨0, _⟩, ⟨3, _⟩ => rfl | ⟨0, _⟩, ⟨4, _⟩ => rfl | ⟨0, _⟩, ⟨5, _⟩ => rfl | ⟨0, _⟩, ⟨6, _⟩ => rfl | ⟨0, _⟩, ⟨7, _⟩ => rfl
        | ⟨1, _⟩, ⟨0, _⟩ => rfl | ⟨1, _⟩, ⟨1, _⟩ => rfl | ⟨1, _⟩, ⟨2, _⟩ => rfl | ⟨1, _⟩, ⟨3, _⟩ => rfl | ⟨1, _⟩, ⟨4, _⟩ => rfl | ⟨1, _⟩, ⟨5, _⟩ => rfl | ⟨1, _⟩, ⟨6, _⟩ => rfl | ⟨1, _⟩, ⟨7, _⟩ => rfl
        | ⟨2, _⟩, ⟨0, _⟩ => rfl | ⟨2, _⟩, ⟨1, _⟩ => rfl | ⟨2, _⟩, ⟨2, _⟩ => rfl | ⟨2, _⟩, ⟨3, _⟩ => rfl | ⟨2, _⟩, ⟨4, _⟩ => rfl | ⟨2, _⟩, ⟨5, _⟩ => rfl | ⟨2, _⟩, ⟨6, _⟩ => rfl | ⟨2, _⟩, ⟨7, _⟩ => rfl
        | ⟨3, _⟩, ⟨0, _⟩ => rfl | ⟨3, _⟩, ⟨1, _⟩ => rfl | ⟨3, _⟩, ⟨2, _⟩ => rfl | ⟨3, _⟩, ⟨3, _⟩ => rfl | ⟨3, _⟩, ⟨4, _⟩ => rfl | ⟨3, _⟩, ⟨5, _⟩ => rfl | ⟨3, _⟩, ⟨6, _⟩ => rfl | ⟨3, _⟩, ⟨7, _⟩ => rfl
        | ⟨4, _⟩, ⟨0, _⟩ => rfl | ⟨4, _⟩, ⟨1, _⟩ => rfl | ⟨4, _⟩, ⟨2, _⟩ => rfl | ⟨4, _⟩, ⟨3, _⟩ => rfl | ⟨4, _⟩, ⟨4, _⟩ => rfl | ⟨4, _⟩, ⟨5, _⟩ => rfl | ⟨4, _⟩, ⟨6, _⟩ => rfl | ⟨4, _⟩, ⟨7, _⟩ => rfl
        | ⟨5, _⟩, ⟨0, _⟩ => rfl | ⟨5, _⟩, ⟨1, _⟩ => rfl | ⟨5, _⟩, ⟨2, _⟩ => rfl | ⟨5, _⟩, ⟨3, _⟩ => rfl | ⟨5, _⟩, ⟨4, _⟩ => rfl | ⟨5, _⟩, ⟨5, _⟩ => rfl | ⟨5, _⟩, ⟨6, _⟩ => rfl | ⟨5, _⟩, ⟨7, _⟩ => rfl
        | ⟨6, _⟩, ⟨0, _⟩ => rfl | ⟨6, _⟩, ⟨1, _⟩ => rfl | ⟨6, _⟩, ⟨2, _⟩ => rfl | ⟨6, _⟩, ⟨3, _⟩ => rfl | ⟨6, _⟩, ⟨4, _⟩ => rfl | ⟨6, _⟩, ⟨5, _⟩ => rfl | ⟨6, _⟩, ⟨6, _⟩ => rfl | ⟨6, _⟩, ⟨7, _⟩ => rfl
        | ⟨7, _⟩, ⟨0, _⟩ => rfl | ⟨7, _⟩, ⟨1, _⟩ => rfl | ⟨7, _⟩, ⟨2, _⟩ => rfl | ⟨7, _⟩, ⟨3, _⟩ => rfl | ⟨7, _⟩, ⟨4, _⟩ => rfl | ⟨7, _⟩, ⟨5, _⟩ => rfl | ⟨7, _⟩, ⟨6, _⟩ => rfl | ⟨7, _⟩, ⟨7, _⟩ => rfl
      exact (this ⟨t, ht⟩ ⟨j, hjl⟩).symm.trans hj
    · have hz : newR.txs.getD t zR = zR := by
        match t, ht with
        | 0, _ => rfl | 1, _ => rfl | 2, _ => rfl | 3, _ => rfl | 4, _ => rfl | 5, _ => rfl | 6, _ => rfl | 7, _ => rfl
      rw [hz]; exact Kd.N_nil _ _ _ _ _
    · have hz : newR.txs.getD t zR = zR := by
        match t, ht with
        | 0, _ => rfl | 1, _ => rfl | 2, _ => rfl | 3, _ => rfl | 4, _ => rfl | 5, _ => rfl | 6, _ => rfl | 7, _ => rfl
      rw [hz]; exact Kd.N_nil _ _ _ _ _
/-- The vars' row has grown, and the engine has the new one. -/
theorem RefAt.push_vars {w1 : World} {v1 : Value} {vars' : List PVar} (h : RefAt W base σ a s V gt tc) (hN : Kd.N kV 69 w1 base (fun _ => True) v1 vars') (hb : Below base W w1) (hg : W.grownBy w1 V.ownBlock)
    (hat : v1.ownBlock = V.ownBlock ∨ ∃ b, v1.ownBlock = some b ∧ W.heap.size ≤ b) : RefPost W base σ a { s with vars := vars' } (w1.setCell ⟨a, 1, none⟩ v1) := by
  have hal := h.own a (by rw [h.role]; omega)
  have hng : ∀ k, v1.ownBlock = some k → k ≠ a := fun k hk e => by
    rcases hat with e1 | ⟨b, e1, hb1⟩
    · have := h.vars.1 k (e1 ▸ hk); have := h.role; subst e; omega
    · rw [e1] at hk; injection hk with hk; omega
  have hVa : ∀ k, V.ownBlock = some k → σ k = 2 := h.vars.1
  have hold : ∀ k, σ k ≠ 0 → σ k ≠ 1 → σ k ≠ 2 → (w1.setCell ⟨a, 1, none⟩ v1).heap[k]? = W.heap[k]? := fun k h0 h1 h2 => by
    rw [Below.heap_setCell w1 ⟨a, 1, none⟩ v1 k (fun e => h1 (by rw [e]; exact h.role))]
    exact hg.block k (h.own k h0).2 (fun e => h2 (hVa k e.symm))
  have hbk : w1.heap[a]? = some (.cells #[.int .i64 s.clock, V, .slice (some ⟨gt, 0, none⟩) 8 8] 55 (0, 0)) := (hg.block a hal.2 (fun e => by have := hVa a e.symm; have := h.role; omega)).trans h.blk
  have hs : Same W σ (withRow σ v1 2) := withRow_same hVa hat
  have hr : ∀ k, σ k ≠ 0 → withRow σ v1 2 k = σ k := fun k hk => hs k (h.own k hk).2
  refine ⟨withRow σ v1 2, v1, gt, tc, ⟨by rw [hr a (by rw [h.role]; omega)]; exact h.role, by rw [setCell_size]; exact withRow_own h.own hg.size (N_in hN), blk_set hbk 1 v1, ?_, by rw [hr gt (by rw [h.trole]; omega)]; exact h.trole, (hold gt (by rw [h.trole]; omega) (by rw [h.trole]; omega) (by rw [h.trole]; omega)).trans h.tblk, h.tsize, h.len, fun t ht => ?_⟩, hs, ?_, ?_⟩
  · exact N_flat kV_flat (N_flat_move kV_flat hN fun k hk => Below.heap_setCell w1 ⟨a, 1, none⟩ v1 k (hng k hk)) withRow_at
  · obtain ⟨rd, pu, h1, h2, h3⟩ := (h.txs t ht).ex
    refine ⟨rd, pu, h1, N_flat kI_flat (N_flat_move kI_flat h2 fun k hk => ?_) (fun k hk => ?_), N_flat kW_flat (N_flat_move kW_flat h3 fun k hk => ?_) (fun k hk => ?_)⟩
    · have := h2.1 k hk; exact hold k (by omega) (by omega) (by omega)
    · have := h2.1 k hk; show withRow σ v1 2 k = _; rw [hr k (by omega)]; exact this
    · have := h3.1 k hk; exact hold k (by omega) (by omega) (by omega)
    · have := h3.1 k hk; show withRow σ v1 2 k = _; rw [hr k (by omega)]; exact this
  · exact Kept.setCell (Kept.of_grown hg (Kept.refl W _) (fun k e => .inl (by rw [hVa k e]; omega))) (.inl (by show σ a ≠ 0; rw [h.role]; omega)) v1
  · exact hb.setCell (p := ⟨a, 1, none⟩) hal.1 v1
set_option maxHeartbeats 4000000 in
theorem rmake_calls (h : RefAt W base σ a s V gt tc) (v : Int) (hl : s.vars.length ≤ 4000) : Calls Try.prog 38 #[.pointer (some ⟨a, 0, none⟩), .int .i64 v] W fun e w' => e = .returned (.tuple #[.int .i64 (makeR s v).1, .int .i64 (makeR s v).2.1]) ∧ RefPost W base σ a (makeR s v).2.2 w' := by
  have HO := Aside0.mk (show makeR s v = if s.vars.length = 4000 then ((0 : Int), (16 : Int), s) else ((s.vars.length : Int), (0 : Int), ({ s with vars := s.vars ++ [⟨v, 0, -1⟩] } : REng)) from rfl)
  have HH := Aside0.mk h
  have k1 := blk_cell h.blk 1
  have f1 := blk_frozen h.blk 1
  have HN := Aside0.mk h.vars
  obtain ⟨A, c, rfl⟩ := Kd.N_slice h.vars
  clear h
  by_cases h4 : s.vars.length = 4000
  · have h4z : (s.vars.length : Int) = 4000 := by omega
    have HE := Aside0.mk (show makeR s v = (0, 16, s) by rw [HO.out, if_pos h4])
    clear HO h4
    go_enter Try.func38, Try.ntmps38
    go_wp2
    go_ret2
    rw [HE.out]
    exact ⟨rfl, σ, _, _, _, HH.out, Did.refl⟩
  · have h4z : ¬ (s.vars.length : Int) = 4000 := by omega
    have HE := Aside0.mk (show makeR s v = ((s.vars.length : Int), (0 : Int), ({ s with vars := s.vars ++ [⟨v, 0, -1⟩] } : REng)) by rw [HO.out, if_neg h4])
    clear HO h4
    go_enter Try.func38, Try.ntmps38
    go_wp2_with ((with_reducible refine gate_builtin (b := .append) (xs := #[.tmp 16, .tmp 19]) rfl ?_); at_builtin; refine Kd.N_append kV (w0 := W) base rfl (.tmp 16) (.tmp 19) 52 69 (.agg #[.int .i64 0, .int .i64 0, .int .i64 0]) 24 rfl Try.underlying52 info69 rfl (by decide) (by omega) (.slice A s.vars.length c) s.vars ⟨v, 0, -1⟩ [.int .i64 v, .int .i64 0, .int .i64 (-1)] (fun _ => True) (fun _ => False) rfl rfl ?aP (fun _ hk => hk.elim) (fun _ _ => trivial) ?aO ?aB ?aS ?aL ?_; (case aP => exact fun W' _ => kV_mk W' _); (case aO => exact Kd.N_mono HN.out (fun _ _ => trivial)); (case aB => exact Below.refl _ _); (case aS => exact HH.out.base_le); (case aL => omega); intro v1 w1 ho hb hg hat; have HN1 := Aside0.mk ho; have HB1 := Aside0.mk hb; have HG1 := Aside0.mk hg; have HA1 := Aside0.mk hat; clear ho hb hg hat; obtain ⟨A1, c1, e1⟩ := Kd.N_slice HN1.out; subst e1; have hb1 := (HG1.out.block a (HH.out.own a (by rw [HH.out.role]; omega)).2 (fun e => by have := HN.out.1 a e.symm; have := HH.out.role; omega)).trans HH.out.blk; have j1 := blk_cell hb1 1; have g1 := blk_frozen hb1 1; clear hb1 k1 f1)
    go_ret2
    have HP := HH.out.push_vars HN1.out HB1.out HG1.out HA1.out
    rw [show (s.vars ++ [(⟨v, 0, -1⟩ : PVar)]).length = s.vars.length + 1 from by simp] at HP
    rw [HE.out]
    exact ⟨rfl, HP⟩
end
end Go.Proofs.Ytcnbgamalhfkmaa.P
namespace Go.Proofs.Ytcnbgamalhfkmaa.P
open Go.RowKit Go.Proofs.YtcnbgamalhfkmaaW.PrintWords Go.Proofs.YtcnbgamalhfkmaaW.PrintLast Go.Proofs.YtcnbgamalhfkmaaW.PrintMore
set_option linter.unusedVariables false
set_option linter.unusedSimpArgs false
open Go.WideShapes Go.Maps
theorem new_eng (w : World) {base : Nat} (hb : base ≤ w.heap.size) : EngAt (w.alloc (.cells #[.int .i64 0, .slice none 0 0, .pointer none, .pointer none, .pointer none, .pointer none, .pointer none, .pointer none, .pointer none, .pointer none] 77)) base (fun k => if k = w.heap.size then 1 else 0) w.heap.size newE #[.int .i64 0, .slice none 0 0, .pointer none, .pointer none, .pointer none, .pointer none, .pointer none, .pointer none, .pointer none, .pointer none] (.slice none 0 0) := by
  refine ⟨by simp, fun k hk => ?_, rfl, blk_new w _, rfl, rfl, rfl, Kd.N_nil _ _ _ _ _, fun t ht => ?_⟩
  · change (if k = w.heap.size then 1 else 0) ≠ 0 at hk
    have : k = w.heap.size := by
      by_cases e1 : k = w.heap.size
      · exact e1
      · rw [if_neg e1] at hk; exact absurd rfl hk
    rw [World.size_alloc]
    omega
  · match t, ht with
    | 0, _ => exact ⟨_, rfl, rfl⟩
    | 1, _ => exact ⟨_, rfl, rfl⟩
    | 2, _ => exact ⟨_, rfl, rfl⟩
    | 3, _ => exact ⟨_, rfl, rfl⟩
    | 4, _ => exact ⟨_, rfl, rfl⟩
    | 5, _ => exact ⟨_, rfl, rfl⟩
    | 6, _ => exact ⟨_, rfl, rfl⟩
    | 7, _ => exact ⟨_, rfl, rfl⟩
/-- The two engines, apart, in what was made since w0. -/
def Pair (w0 : World) (g a : Nat) (s : PEng) (r : REng) (W : World) : Prop := ∃ ρ cells vs σ V gt tc, EngAt W w0.heap.size ρ g s cells vs ∧ RefAt W w0.heap.size σ a r V gt tc ∧ (∀ k, ρ k ≠ 0 → σ k = 0) ∧ Below w0.heap.size w0 W
section
variable {w0 W W' : World} {ρ σ : Nat → Nat} {g a gt : Nat} {s s' : PEng} {r r' : REng} {cells tc : Array Value} {vs V : Value}
theorem Pair.turnE (hR : RefAt W w0.heap.size σ a r V gt tc) (hap : ∀ k, ρ k ≠ 0 → σ k = 0) (hb : Below w0.heap.size w0 W) (h : EngPost W w0.heap.size ρ g s' W') : Pair w0 g a s' r W' := by
  obtain ⟨ρ', cells', vs', he, hd⟩ := h
  refine ⟨ρ', cells', vs', σ, V, gt, tc, he, hR.kept hd.kept (fun k hk => hap k hk), fun k hk => ?_, hb.trans hd.below⟩
  by_cases hl : k < W.heap.size
  · rw [hd.same k hl] at hk; exact hap k hk
  · by_cases e : σ k = 0
    · exact e
    · have := hR.own k e; omega
theorem Pair.turnR (hE : EngAt W w0.heap.size ρ g s cells vs) (hap : ∀ k, ρ k ≠ 0 → σ k = 0) (hb : Below w0.heap.size w0 W) (h : RefPost W w0.heap.size σ a r' W') : Pair w0 g a s r' W' := by
  obtain ⟨σ', V', gt', tc', he, hd⟩ := h
  have hap2 : ∀ k, σ k ≠ 0 → ρ k = 0 := fun k hk => by
    by_cases e : ρ k = 0
    · exact e
    · exact absurd (hap k e) hk
  refine ⟨ρ, cells, vs, σ', V', gt', tc', hE.kept hd.kept (fun k hk => hap2 k hk), he, fun k hk => ?_, hb.trans hd.below⟩
  rw [hd.same k (hE.own k hk).2]
  exact hap k hk
theorem new_pair (w : World) : Pair w w.heap.size (w.heap.size + 1 + 1) newE newR (((w.alloc (.cells #[.int .i64 0, .slice none 0 0, .pointer none, .pointer none, .pointer none, .pointer none, .pointer none, .pointer none, .pointer none, .pointer none] 77)).alloc (.cells zT 51)).alloc (.cells #[.int .i64 0, .slice none 0 0, .slice (some ⟨w.heap.size + 1, 0, none⟩) 8 8] 55)) := by
  have h1 := new_eng w (Nat.le_refl w.heap.size)
  have h2 := new_ref (w.alloc (.cells #[.int .i64 0, .slice none 0 0, .pointer none, .pointer none, .pointer none, .pointer none, .pointer none, .pointer none, .pointer none, .pointer none] 77)) (base := w.heap.size) (by simp)
  rw [World.size_alloc] at h2
  refine ⟨_, _, _, _, _, _, _, h1.below (below_alloc (below_alloc (Below.refl _ _) _) _), h2, fun k hk => ?_, below_alloc (below_alloc (below_alloc (Below.refl _ _) _) _) _⟩
  change (if k = w.heap.size then 1 else 0) ≠ 0 at hk
  show (if k = w.heap.size + 1 then 3 else if k = w.heap.size + 1 + 1 then 1 else 0) = 0
  have : k = w.heap.size := by
    by_cases e1 : k = w.heap.size
    · exact e1
    · rw [if_neg e1] at hk; exact absurd rfl hk
  rw [if_neg (by omega), if_neg (by omega)]
def begE : Nat → PEng
  | 0 => newE
  | i + 1 => (makeE (begE i) (10 + (i : Int))).2.2
def begR : Nat → REng
  | 0 => newR
  | i + 1 => (makeR (begR i) (10 + (i : Int))).2.2
theorem begR_len : ∀ i, i < 4 → (begR i).vars.length ≤ 4000
  | 0, _ => by decide
  | 1, _ => by decide
  | 2, _ => by decide
  | 3, _ => by decide
theorem begE_len : ∀ i, i < 4 → (begE i).vars.length ≤ 4000
  | 0, _ => by decide
  | 1, _ => by decide
  | 2, _ => by decide
  | 3, _ => by decide
set_option maxHeartbeats 8000000 in
set_option maxRecDepth 100000 in
theorem begin2_calls (w : World) : Calls Try.prog 10 #[] w fun e w' => e = .returned (.tuple #[.pointer (some ⟨w.heap.size, 0, none⟩), .pointer (some ⟨w.heap.size + 1 + 1, 0, none⟩)]) ∧ Pair w w.heap.size (w.heap.size + 1 + 1) (begE 4) (begR 4) w' := by
  have hn := new_calls w
  have hr := rnew_calls (w.alloc (.cells #[.int .i64 0, .slice none 0 0, .pointer none, .pointer none, .pointer none, .pointer none, .pointer none, .pointer none, .pointer none, .pointer none] 77))
  rw [World.size_alloc] at hr
  have HP := Aside0.mk (new_pair w)
  go_enter Try.func10, Try.ntmps10
  go_wp2_with fail
  refine hn.mono ?_; rintro e w' ⟨rfl, rfl⟩
  go_wp2_with fail
  refine hr.mono ?_; rintro e w' ⟨rfl, rfl⟩
  clear hn hr
  generalize ((w.alloc (.cells #[.int .i64 0, .slice none 0 0, .pointer none, .pointer none, .pointer none, .pointer none, .pointer none, .pointer none, .pointer none, .pointer none] 77)).alloc (.cells zT 51)).alloc (.cells #[.int .i64 0, .slice none 0 0, .slice (some ⟨w.heap.size + 1, 0, none⟩) 8 8] 55) = W0 at *
  go_wp2
  go_loopg [4] 4 (fun gg s4 wr => ∃ i : Nat, i ≤ 4 ∧ 4 - i ≤ gg ∧ s4 = .int .i64 i ∧ Aside0 (Pair w w.heap.size (w.heap.size + 1 + 1) (begE i) (begR i) wr))
  case atStart => exact ⟨0, by omega, by omega, rfl, ⟨HP.out⟩⟩
  case round =>
    obtain ⟨i, hi, hg, rfl, HR⟩ := hrel
    by_cases hlt : i < 4
    · have hltz : (i : Int) < 4 := by omega
      have hw : wrap64 (10 + (i : Int)) = 10 + (i : Int) := IntWalk.wrap64_in _ (by omega)
      obtain ⟨ρ, cells, vs, σ, V, gt, tc, hE, hR, hap, hb⟩ := HR.out
      have hmk := make_calls hE (begE_len i hlt) (10 + (i : Int))
      have HAP := Aside0.mk hap
      have HB := Aside0.mk hb
      have HRR := Aside0.mk hR
      clear hE hap hb hR HR HP
      go_wp2_with fail
      refine hmk.mono ?_; rintro e W1 ⟨rfl, hP1⟩
      have HP1 := Aside0.mk (Pair.turnE HRR.out HAP.out HB.out hP1)
      clear hmk hP1 HAP HB HRR
      obtain ⟨ρ1, cells1, vs1, σ1, V1, gt1, tc1, hE1, hR1, hap1, hb1⟩ := HP1.out
      have hmr := rmake_calls hR1 (10 + (i : Int)) (begR_len i hlt)
      have HAP := Aside0.mk hap1
      have HB := Aside0.mk hb1
      have HEE := Aside0.mk hE1
      clear hE1 hap1 hb1 hR1 HP1
      go_wp2_with fail
      refine hmr.mono ?_; rintro e W2 ⟨rfl, hP2⟩
      have HP2 := Aside0.mk (Pair.turnR HEE.out HAP.out HB.out hP2)
      clear hmr hP2 HAP HB HEE
      go_wp2
      go_roundg (4 - (i + 1))
      case measure => omega
      case rel => exact ⟨i + 1, by omega, by omega, by go_num, ⟨HP2.out⟩⟩
    · have hltz : ¬ (i : Int) < 4 := by omega
      obtain rfl : i = 4 := by omega
      go_wp2
      go_ret2
      exact ⟨rfl, HR.out⟩
end
end Go.Proofs.Ytcnbgamalhfkmaa.P
namespace Go.Proofs.Ytcnbgamalhfkmaa.P
open Go.RowKit Go.Proofs.YtcnbgamalhfkmaaW.PrintWords Go.Proofs.YtcnbgamalhfkmaaW.PrintLast Go.Proofs.YtcnbgamalhfkmaaW.PrintMore
set_option linter.unusedVariables false
set_option linter.unusedSimpArgs false
open Go.WideShapes Go.Maps Go.Shelf
def Lone (w0 : World) (g : Nat) (s : PEng) (W : World) : Prop := ∃ ρ cells vs, EngAt W w0.heap.size ρ g s cells vs ∧ Below w0.heap.size w0 W
section
variable {w0 W W' : World} {g : Nat} {s s' : PEng}
theorem Lone.turn {ρ : Nat → Nat} (hb : Below w0.heap.size w0 W) (h : EngPost W w0.heap.size ρ g s' W') : Lone w0 g s' W' := by
  obtain ⟨ρ', cells', vs', he, hd⟩ := h
  exact ⟨ρ', cells', vs', he, hb.trans hd.below⟩
theorem Lone.new (w : World) : Lone w w.heap.size newE (w.alloc (.cells #[.int .i64 0, .slice none 0 0, .pointer none, .pointer none, .pointer none, .pointer none, .pointer none, .pointer none, .pointer none, .pointer none] 77)) :=
  ⟨_, _, _, new_eng w (Nat.le_refl _), below_alloc (Below.refl _ _) _⟩
theorem Lone.make (h : Lone w0 g s W) (v : Int) {n f : Int} {s1 : PEng} (he : makeE s v = (n, f, s1)) (hl : s.vars.length ≤ 4000) : Calls Try.prog 37 #[.pointer (some ⟨g, 0, none⟩), .int .i64 v] W fun e w' => e = .returned (.tuple #[.int .i64 n, .int .i64 f]) ∧ Aside0 (Lone w0 g s1 w') := by
  obtain ⟨ρ, cells, vs, h1, hb⟩ := h
  refine (make_calls h1 hl v).mono ?_
  rintro e w' ⟨rfl, hp⟩
  rw [he] at hp ⊢
  exact ⟨rfl, ⟨Lone.turn hb hp⟩⟩
theorem Lone.begin (h : Lone w0 g s W) (t : Int) {f : Int} {s1 : PEng} (he : beginE s t = (f, s1)) : Calls Try.prog 11 #[.pointer (some ⟨g, 0, none⟩), .int .i64 t] W fun e w' => e = .returned (.int .i64 f) ∧ Aside0 (Lone w0 g s1 w') := by
  obtain ⟨ρ, cells, vs, h1, hb⟩ := h
  refine (begin_calls h1 t).mono ?_
  rintro e w' ⟨rfl, hp⟩
  rw [he] at hp ⊢
  exact ⟨rfl, ⟨Lone.turn hb hp⟩⟩
theorem Lone.read (h : Lone w0 g s W) (t n : Int) {v f : Int} {s1 : PEng} (he : readE s t n = (v, f, s1)) (hn : in64 n) (hp : ∀ x, openE s t = some x → x.parts ≠ [] ∧ x.parts.length ≤ 100000 ∧ x.reads.length ≤ 100000) : Calls Try.prog 16 #[.pointer (some ⟨g, 0, none⟩), .int .i64 t, .int .i64 n] W fun e w' => e = .returned (.tuple #[.int .i64 v, .int .i64 f]) ∧ Aside0 (Lone w0 g s1 w') := by
  obtain ⟨ρ, cells, vs, h1, hb⟩ := h
  refine (read_calls h1 t n hn hp).mono ?_
  rintro e w' ⟨rfl, hp⟩
  rw [he] at hp ⊢
  exact ⟨rfl, ⟨Lone.turn hb hp⟩⟩
theorem Lone.write (h : Lone w0 g s W) (t n v : Int) {f : Int} {s1 : PEng} (he : writeE s t n v = (f, s1)) (hn : in64 n) (hv : in64 v) (hp : ∀ x, openE s t = some x → x.parts ≠ [] ∧ x.parts.length ≤ 100000 ∧ ∀ p ∈ x.parts, p.length ≤ 100000) : Calls Try.prog 13 #[.pointer (some ⟨g, 0, none⟩), .int .i64 t, .int .i64 n, .int .i64 v] W fun e w' => e = .returned (.int .i64 f) ∧ Aside0 (Lone w0 g s1 w') := by
  obtain ⟨ρ, cells, vs, h1, hb⟩ := h
  refine (write_calls h1 t n v hn hv hp).mono ?_
  rintro e w' ⟨rfl, hp⟩
  rw [he] at hp ⊢
  exact ⟨rfl, ⟨Lone.turn hb hp⟩⟩
theorem Lone.step (h : Lone w0 g s W) (t : Int) {n f : Int} {s1 : PEng} (he : stepE s t = (n, f, s1)) (hp : ∀ x, ofE s t = some x → StepOK s x) : Calls Try.prog 21 #[.pointer (some ⟨g, 0, none⟩), .int .i64 t] W fun e w' => e = .returned (.tuple #[.int .i64 n, .int .i64 f]) ∧ Aside0 (Lone w0 g s1 w') := by
  obtain ⟨ρ, cells, vs, h1, hb⟩ := h
  refine (step_calls h1 t hp).mono ?_
  rintro e w' ⟨rfl, hp⟩
  rw [he] at hp ⊢
  exact ⟨rfl, ⟨Lone.turn hb hp⟩⟩
theorem Lone.value (h : Lone w0 g s W) (n : Int) {v f : Int} (he : valueE s n = (v, f)) : Calls Try.prog 22 #[.pointer (some ⟨g, 0, none⟩), .int .i64 n] W fun e w' => e = .returned (.tuple #[.int .i64 v, .int .i64 f]) ∧ W = w' := by
  obtain ⟨ρ, cells, vs, h1, hb⟩ := h
  refine (value_calls h1 n).mono ?_
  rintro e w' ⟨rfl, hp⟩
  rw [he]
  exact ⟨rfl, hp⟩
theorem Lone.active (h : Lone w0 g s W) (t : Int) {q : Bool} (he : (ofE s t).isSome = q) : Calls Try.prog 19 #[.pointer (some ⟨g, 0, none⟩), .int .i64 t] W fun e w' => e = .returned (.bool q) ∧ W = w' := by
  obtain ⟨ρ, cells, vs, h1, hb⟩ := h
  refine (active_calls h1 t).mono ?_
  rintro e w' ⟨rfl, hp⟩
  rw [he]
  exact ⟨rfl, hp⟩
end
/-! the example -/
def lv0 : PTx := ⟨0, 0, [], [[]], false, false, []⟩
def lv1 : PEng := ⟨0, [⟨5, 0, -1⟩], [none, none, none, none, none, none, none, none]⟩
def lv2 : PEng := ⟨0, [⟨5, 0, -1⟩], [none, some lv0, none, none, none, none, none, none]⟩
def lv3 : PEng := ⟨0, [⟨5, 0, -1⟩], [some lv0, some lv0, none, none, none, none, none, none]⟩
def lv4 : PEng := ⟨0, [⟨5, 0, -1⟩], [some ⟨0, 0, [0], [[]], false, false, []⟩, some lv0, none, none, none, none, none, none]⟩
def lv5 : PEng := ⟨0, [⟨5, 0, -1⟩], [some ⟨0, 0, [0], [[(0, 6)]], false, false, []⟩, some lv0, none, none, none, none, none, none]⟩
def lv6 : PEng := ⟨0, [⟨5, 0, 0⟩], [some ⟨0, 0, [0], [[(0, 6)]], true, false, []⟩, some lv0, none, none, none, none, none, none]⟩
def lv7 : PEng := ⟨1, [⟨5, 0, 0⟩], [some ⟨0, 1, [0], [[(0, 6)]], true, true, [0]⟩, some lv0, none, none, none, none, none, none]⟩
def lv8 : PEng := ⟨1, [⟨6, 1, -1⟩], [none, some lv0, none, none, none, none, none, none]⟩
theorem lva1 : makeE newE 5 = (0, 0, lv1) := rfl
theorem lva2 : beginE lv1 1 = (0, lv2) := rfl
theorem lva3 : beginE lv2 0 = (0, lv3) := rfl
theorem lva4 : readE lv3 0 0 = (5, 0, lv4) := rfl
theorem lva5 : writeE lv4 0 0 6 = (0, lv5) := rfl
theorem lva6 : stepE lv5 0 = (1, 0, lv6) := rfl
theorem lva7 : stepE lv6 0 = (2, 0, lv7) := rfl
theorem lva8 : stepE lv7 0 = (4, 0, lv8) := rfl
theorem lva9 : valueE lv8 0 = (6, 0) := rfl
theorem lvaA : readE lv8 1 0 = (0, 33, lv8) := rfl
theorem lvaB : (ofE lv8 0).isSome = false := rfl
end Go.Proofs.Ytcnbgamalhfkmaa.P
namespace Go.Proofs.Ytcnbgamalhfkmaa.P
open Go.RowKit Go.Proofs.YtcnbgamalhfkmaaW.PrintWords Go.Proofs.YtcnbgamalhfkmaaW.PrintLast Go.Proofs.YtcnbgamalhfkmaaW.PrintMore
set_option linter.unusedVariables false
set_option linter.unusedSimpArgs false
open Go.WideShapes Go.Maps Go.Shelf
theorem zero64 : in64 0 := by unfold in64; omega
theorem lvs5 (x : PTx) (h : ofE lv5 0 = some x) : StepOK lv5 x := by
  have h' : some (⟨0, 0, [0], [[(0, 6)]], false, false, []⟩ : PTx) = some x := h
  injection h' with e; subst e
  exact ⟨by simp, by decide, by decide, fun n hn => by have : n = 0 := by simpa [keysM] using hn
                                                       subst this; exact ⟨rfl, zero64⟩, fun n hn => by have : n = 0 := by simpa using hn
                                                                                                       subst this; rfl, by decide, fun h => (by cases h), ⟨by decide, by decide⟩⟩
theorem lvs6 (x : PTx) (h : ofE lv6 0 = some x) : StepOK lv6 x := by
  have h' : some (⟨0, 0, [0], [[(0, 6)]], true, false, []⟩ : PTx) = some x := h
  injection h' with e; subst e
  exact ⟨by simp, by decide, by decide, fun n hn => by have : n = 0 := by simpa [keysM] using hn
                                                       subst this; exact ⟨rfl, zero64⟩, fun n hn => by have : n = 0 := by simpa using hn
                                                                                                       subst this; rfl, by decide, fun h => (by cases h), ⟨by decide, by decide⟩⟩
theorem lvs7 (x : PTx) (h : ofE lv7 0 = some x) : StepOK lv7 x := by
  have h' : some (⟨0, 1, [0], [[(0, 6)]], true, true, [0]⟩ : PTx) = some x := h
  injection h' with e; subst e
  exact ⟨by simp, by decide, by decide, fun n hn => by have : n = 0 := by simpa [keysM] using hn
                                                       subst this; exact ⟨rfl, zero64⟩, fun n hn => by have : n = 0 := by simpa using hn
                                                                                                       subst this; rfl, by decide, fun h => ⟨0, [], rfl, rfl, zero64, by decide⟩, ⟨by decide, by decide⟩⟩
theorem lvr3 (x : PTx) (h : openE lv3 0 = some x) : x.parts ≠ [] ∧ x.parts.length ≤ 100000 ∧ x.reads.length ≤ 100000 := by
  have h' : some lv0 = some x := h
  injection h' with e; subst e
  exact ⟨by simp [lv0], by decide, by decide⟩
theorem lvr8 (x : PTx) (h : openE lv8 1 = some x) : x.parts ≠ [] ∧ x.parts.length ≤ 100000 ∧ x.reads.length ≤ 100000 := by
  have h' : some lv0 = some x := h
  injection h' with e; subst e
  exact ⟨by simp [lv0], by decide, by decide⟩
theorem lvw4 (x : PTx) (h : openE lv4 0 = some x) : x.parts ≠ [] ∧ x.parts.length ≤ 100000 ∧ ∀ p ∈ x.parts, p.length ≤ 100000 := by
  have h' : some (⟨0, 0, [0], [[]], false, false, []⟩ : PTx) = some x := h
  injection h' with e; subst e
  exact ⟨by simp, by decide, fun p hp => by have : p = [] := by simpa using hp
                                            subst this; decide⟩
set_option maxHeartbeats 8000000 in
set_option maxRecDepth 100000 in
theorem lives2_calls (w : World) : Calls Try.prog 17 #[] w fun e w' => e = .returned (.bool true) ∧ Below w.heap.size w w' := by
  have hn := new_calls w
  have H0 := Aside0.mk (Lone.new w)
  go_enter Try.func17, Try.ntmps17
  go_wp2_with fail
  refine hn.mono ?_; rintro e w' ⟨rfl, rfl⟩
  clear hn
  generalize w.alloc (.cells #[.int .i64 0, .slice none 0 0, .pointer none, .pointer none, .pointer none, .pointer none, .pointer none, .pointer none, .pointer none, .pointer none] 77) = W0 at *
  have c1 := H0.out.make 5 lva1 (by decide)
  go_wp2_with fail
  refine c1.mono ?_; rintro e W1 ⟨rfl, H1⟩
  clear c1 H0
  have c2 := H1.out.begin 1 lva2
  go_wp2_with fail
  refine c2.mono ?_; rintro e W2 ⟨rfl, H2⟩
  clear c2 H1
  have c3 := H2.out.begin 0 lva3
  go_wp2_with fail
  refine c3.mono ?_; rintro e W3 ⟨rfl, H3⟩
  clear c3 H2
  have c4 := H3.out.read 0 0 lva4 zero64 lvr3
  go_wp2_with fail
  refine c4.mono ?_; rintro e W4 ⟨rfl, H4⟩
  clear c4 H3
  have c5 := H4.out.write 0 0 6 lva5 zero64 (by unfold in64; omega) lvw4
  go_wp2_with fail
  refine c5.mono ?_; rintro e W5 ⟨rfl, H5⟩
  clear c5 H4
  have c6 := H5.out.step 0 lva6 lvs5
  go_wp2_with fail
  refine c6.mono ?_; rintro e W6 ⟨rfl, H6⟩
  clear c6 H5
  have c7 := H6.out.step 0 lva7 lvs6
  go_wp2_with fail
  refine c7.mono ?_; rintro e W7 ⟨rfl, H7⟩
  clear c7 H6
  have c8 := H7.out.step 0 lva8 lvs7
  go_wp2_with fail
  refine c8.mono ?_; rintro e W8 ⟨rfl, H8⟩
  clear c8 H7
  have c9 := H8.out.value 0 lva9
  go_wp2_with fail
  refine c9.mono ?_; rintro e W9 ⟨rfl, rfl⟩
  clear c9
  have cA := H8.out.read 1 0 lvaA zero64 lvr8
  go_wp2_with fail
  refine cA.mono ?_; rintro e WA ⟨rfl, HA⟩
  clear cA H8
  have cB := HA.out.active 0 lvaB
  go_wp2_with fail
  refine cB.mono ?_; rintro e WB ⟨rfl, rfl⟩
  clear cB
  go_wp2
  go_ret
  obtain ⟨_, _, _, _, hb⟩ := HA.out
  exact ⟨rfl, hb⟩
end Go.Proofs.Ytcnbgamalhfkmaa.P
