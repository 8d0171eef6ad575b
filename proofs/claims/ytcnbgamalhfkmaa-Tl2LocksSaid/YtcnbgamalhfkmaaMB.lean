/- tl2: one transaction turns; Write, Part. tl2: slices.Backward over the parts. tl2: slices.Index, slices.Contains at a row of ints. tl2: what a call leaves beside the engine; a read more. tl2: maps.Copy. tl2: shut, Join, Undo. tl2: valid, Valid. tl2: a var turned, a transaction's cells turned, a transaction gone; write. -/
import Derived.Test.YtcnbgamalhfkmaaMA
import Derived.RangeFuncNested
import Derived.RangeFuncBound
import Derived.RangeFuncCalls
import Derived.RangeFuncLeaves
import Derived.Shelf.RegionOpen
import Derived.OwnWalkIn
import Derived.TacticsInMore
import Derived.LoopNIn
import Derived.LoopIn
import Derived.Maps.OwnIn
import Derived.Maps.Ext
import Derived.Maps.RangeWalk
namespace Go.Proofs.Ytcnbgamalhfkmaa.P
open Go.RowKit Go.Proofs.YtcnbgamalhfkmaaW.PrintWords Go.Proofs.YtcnbgamalhfkmaaW.PrintLast Go.Proofs.YtcnbgamalhfkmaaW.PrintMore
set_option linter.unusedVariables false
set_option linter.unusedSimpArgs false
open Go.WideShapes Go.Maps
section
variable {W : World} {base : Nat} {ρ : Nat → Nat} {g : Nat} {s : PEng} {cells : Array Value} {vs : Value}
theorem set_same {cells : Array Value} {i : Nat} {p : Value} (h : cells[i]? = some p) : cells.setIfInBounds i p = cells := by
  apply Array.ext_getElem?
  intro j
  by_cases e : i = j
  · subst e
    rw [Array.getElem?_setIfInBounds_self_of_lt (Array.getElem?_eq_some_iff.1 h).1, h]
  · rw [Array.getElem?_setIfInBounds_ne e]
theorem EngAt.tx_turn (h : EngAt W base ρ g s cells vs) {t gt : Nat} (ht : t < 8) (hc : cells[2 + t]? = some (.pointer (some ⟨gt, 0, none⟩))) {W' : World} {ρ' : Nat → Nat} {x' : PTx} {rd pa lf : Value} {ms : List Nat}
    (hs : Same W ρ ρ') (hown : ∀ k, ρ' k ≠ 0 → base ≤ k ∧ k < W'.heap.size) (hh : ∀ k, ρ k ≠ 0 → ¬ isTx t (ρ k) → W'.heap[k]? = W.heap[k]?) (hx : TxAt W' base ρ' t gt x' rd pa lf ms)
    (hk : Kept W W' (fun k => ρ k ≠ 0)) (hb : Below base W W') : EngPost W base ρ g (P.setTx s (t : Int) (some x')) W' := by
  have h1 := h.setTx ht (p' := .pointer (some ⟨gt, 0, none⟩)) (o := some x') hs hown (by
    rw [set_same hc, hh g (by rw [h.role]; omega) (by rw [h.role]; unfold isTx; omega)]; exact h.blk) (fun k h0 _ h2 => hh k h0 h2) ⟨gt, rd, pa, lf, ms, rfl, hx⟩
  exact ⟨ρ', _, vs, h1, ⟨hs, hk, hb⟩⟩
theorem EngPost.after {W1 W2 : World} {s' : PEng} (hb : Below W.heap.size W W1) (hbase : base ≤ W.heap.size) (h : EngPost W1 base ρ g s' W2) : EngPost W base ρ g s' W2 := by
  obtain ⟨ρ', cells', vs', he, hd⟩ := h
  exact ⟨ρ', cells', vs', he, (Did.of_below hb hbase).trans hd⟩
theorem TxAt.below {W1 : World} {t gt : Nat} {x : PTx} {rd pa lf : Value} {ms : List Nat} (hx : TxAt W base ρ t gt x rd pa lf ms) (h : EngAt W base ρ g s cells vs) (hb : Below W.heap.size W W1) : TxAt W1 base ρ t gt x rd pa lf ms :=
  hx.move (fun _ _ => rfl) (fun k _ hk => hb.block k hk) (fun k hk => (h.own k (by unfold isTx at hk; omega)).2)
theorem rl_inj {t i j : Nat} (h : rl t i = rl t j) : i = j := by unfold rl at h; omega
/-- One of its maps turned. -/
theorem EngAt.map_turn (h : EngAt W base ρ g s cells vs) {t gt : Nat} (ht : t < 8) (hc : cells[2 + t]? = some (.pointer (some ⟨gt, 0, none⟩))) {x : PTx} {rd pa lf : Value} {ms : List Nat} (hx : TxAt W base ρ t gt x rd pa lf ms) {i m : Nat} (hi : ms[i]? = some m) {W' : World} {p' : Mp}
    (hm : MapAt W' m p') (hg : W.grownBy W' (some m)) : EngPost W base ρ g (P.setTx s (t : Int) (some { x with parts := x.parts.set i p' })) W' := by
  have hil : i < ms.length := (List.getElem?_eq_some_iff.1 hi).1
  have hip : i < x.parts.length := by rw [← hx.maps.len]; exact hil
  obtain ⟨hmb, hmr, hma⟩ := hx.maps.at_ i m _ hi (List.getElem?_eq_getElem hip)
  have hml := hma.lt
  have hne : ∀ k, k < W.heap.size → k ≠ m → W'.heap[k]? = W.heap[k]? := fun k hk e => hg.block k hk (fun e2 => e (by injection e2))
  have hj : ∀ j, j ≠ 4 → ∀ k, ρ k = rl t j → W'.heap[k]? = W.heap[k]? := fun j hj k hk => hne k (h.own k (by rw [hk]; unfold rl; omega)).2 (fun e => hj (rl_inj (t := t) (by rw [← hk, e, hmr])))
  have hb : Below base W W' := ⟨hg.os, hg.tape, hg.output, hg.size, fun k hk => hg.block k (by omega) (fun e => by injection e with e; omega)⟩
  refine h.tx_turn ht hc (fun _ _ => rfl) (fun k hk => ⟨(h.own k hk).1, Nat.lt_of_lt_of_le (h.own k hk).2 hg.size⟩) (fun k h0 h1 => hne k (h.own k h0).2 (fun e => h1 (by rw [e, hmr]; exact rl_tx t 4 (by omega))))
    (x' := { x with parts := x.parts.set i p' }) (rd := rd) (pa := pa) (lf := lf) (ms := ms) ⟨hx.role, hx.ge, (hj 0 (by omega) _ hx.role).trans hx.blk, N_flat_move kI_flat hx.reads fun k hk => hj 1 (by omega) k (hx.reads.1 k hk), N_flat_move kP_flat hx.parts fun k hk => hj 2 (by omega) k (hx.parts.1 k hk), V_move hx.left (fun _ hk => hk) (fun k hk _ => hj 3 (by omega) k hk), ⟨by simp [hx.maps.len], hx.maps.nd, fun j m' q hm' hq => ?_⟩⟩
    (Kept.of_grown hg (Kept.refl W _) (fun k e => .inl (by injection e with e; subst e; rw [hmr]; unfold rl; omega))) hb
  by_cases e : j = i
  · subst e
    rw [hi] at hm'
    injection hm' with hm'
    subst hm'
    have hq2 : q = p' := by
      change (x.parts.set j p')[j]? = some q at hq
      rw [List.getElem?_set_self hip] at hq
      exact (Option.some.inj hq).symm
    subst hq2
    exact ⟨hmb, hmr, hm⟩
  · change (x.parts.set i p')[j]? = some q at hq
    rw [List.getElem?_set_ne (Ne.symm e)] at hq
    obtain ⟨a, b, c⟩ := hx.maps.at_ j m' q hm' hq
    refine ⟨a, b, c.move (hne _ c.lt (fun e2 => e ?_))⟩
    subst e2
    have hjl := (List.getElem?_eq_some_iff.1 hm').1
    have h1 : ms[j] = ms[i] := by
      rw [List.getElem?_eq_getElem hjl] at hm'
      rw [List.getElem?_eq_getElem hil] at hi
      rw [Option.some.inj hm', Option.some.inj hi]
    rcases Nat.lt_trichotomy j i with hl | hl | hl
    · exact absurd h1 (List.pairwise_iff_getElem.1 hx.maps.nd j i hjl hil hl)
    · exact hl
    · exact absurd h1.symm (List.pairwise_iff_getElem.1 hx.maps.nd i j hil hjl hl)
theorem openE_some {t : Int} {x : PTx} (h : openE s t = some x) : ofE s t = some x ∧ x.commits = false := by
  unfold openE at h
  cases ho : ofE s t with
  | none => rw [ho] at h; cases h
  | some y =>
    rw [ho] at h
    simp only [Option.bind_some] at h
    cases hc : y.commits with
    | true => rw [hc] at h; simp at h
    | false => rw [hc] at h; simp at h; subst h; exact ⟨rfl, hc⟩
set_option maxHeartbeats 8000000 in
set_option maxRecDepth 100000 in
theorem write_calls (h : EngAt W base ρ g s cells vs) (t n v : Int) (hn : in64 n) (hv : in64 v) (hp : ∀ x, openE s t = some x → x.parts ≠ [] ∧ x.parts.length ≤ 100000 ∧ ∀ p ∈ x.parts, p.length ≤ 100000) :
    Calls Try.prog 13 #[.pointer (some ⟨g, 0, none⟩), .int .i64 t, .int .i64 n, .int .i64 v] W fun e w' => e = .returned (.int .i64 (writeE s t n v).1) ∧ EngPost W base ρ g (writeE s t n v).2 w' := by
  have HO := Aside0.mk (show writeE s t n v = match openE s t with | none => (1, s) | some x => if !isE s n then (1, s) else (0, setTx s t (some { x with parts := x.parts.dropLast ++ [putM (x.parts.getLastD []) n v] })) from rfl)
  have HH := Aside0.mk h
  have HP := Aside0.mk hp
  have hof := open_calls h t
  have his := is_calls h n
  clear h hp
  go_enter Try.func13, Try.ntmps13
  go_wp2_with fail
  refine hof.mono ?_; rintro e w' ⟨⟨p, rfl, hp⟩, rfl⟩
  clear hof
  rcases hp.form with ⟨e0, rfl⟩ | ⟨x, tn, gt, rd, pa, lf, ms, e0, rfl, ht, rfl, hcc, hx⟩
  · have HE := Aside0.mk (show writeE s t n v = (1, s) by rw [HO.out, e0])
    clear hp e0 HO his
    go_wp2
    go_ret
    rw [HE.out]
    exact ⟨rfl, ρ, _, _, HH.out, Did.refl⟩
  · go_wp2_with fail
    refine his.mono ?_; rintro e w' ⟨rfl, rfl⟩
    clear his
    cases hb : isE s n with
    | false =>
      have HE := Aside0.mk (show writeE s tn n v = (1, s) by rw [HO.out, e0, hb]; rfl)
      clear hp e0 HO
      go_wp2
      go_ret
      rw [HE.out]
      exact ⟨rfl, ρ, _, _, HH.out, Did.refl⟩
    | true =>
      obtain ⟨hp0, hp1, hp2⟩ := HP.out x e0
      obtain ⟨k, hk⟩ : ∃ k, x.parts.length = k + 1 := ⟨x.parts.length - 1, by have := List.length_pos_iff.2 hp0; omega⟩
      have hkm : ms.length = k + 1 := by rw [hx.maps.len, hk]
      have hlc := last_calls hx hkm (by omega)
      have hmk : ms[k]? = some (ms[k]'(by omega)) := List.getElem?_eq_getElem (by omega)
      have hpk : x.parts[k]? = some (x.parts[k]'(by omega)) := List.getElem?_eq_getElem (by omega)
      have hlast : x.parts.getLastD [] = x.parts[k]'(by omega) := by
        rw [List.getLastD_eq_getLast?, List.getLast?_eq_getElem?, show x.parts.length - 1 = k by omega, hpk]; rfl
      have hdrop : x.parts.dropLast ++ [putM (x.parts.getLastD []) n v] = x.parts.set k (putM (x.parts[k]'(by omega)) n v) := by
        rw [hlast]
        apply List.ext_getElem?
        intro j
        by_cases hj : j < k
        · rw [List.getElem?_append_left (by simp; omega), List.getElem?_dropLast, if_pos (by omega), List.getElem?_set_ne (by omega)]
        · rw [List.getElem?_append_right (by simp; omega)]
          by_cases hj2 : j = k
          · subst hj2
            rw [List.getElem?_set_self (by omega)]
            simp [hk]
          · rw [List.getElem?_eq_none (by simp; omega), List.getElem?_eq_none (by simp; omega)]
      obtain ⟨_, _, hma⟩ := hx.maps.at_ k _ _ hmk hpk
      have hpl := hp2 _ (List.getElem_mem (l := x.parts) (n := k) (by omega))
      have HE := Aside0.mk (show writeE s tn n v = (0, setTx s tn (some { x with parts := x.parts.set k (putM (x.parts[k]'(by omega)) n v) })) by rw [HO.out, e0, hb, ← hdrop]; rfl)
      have HX := Aside0.mk hx
      have HM := Aside0.mk hmk
      generalize x.parts[k]'(by omega) = pk at *
      generalize ms[k]'(by omega) = mk at *
      clear hp e0 HO hb hlast hdrop hp0 hp1 hp2 hpk hk hkm hx hmk
      go_wp2_with fail
      refine hlc.mono ?_; rintro e w1 ⟨rfl, hB1⟩
      have hm1 := hma.move (hB1.block _ hma.lt)
      have HB := Aside0.mk hB1
      clear hlc hma hB1
      go_wp2_with (at_mapUpdate; refine wpList_mapUpdate_own _ rfl _ _ _ 78 rfl 3 3 lawM Try.underlying78 _ mk pk.length _ rfl hm1 (by unfold maxLen; omega) _ _ _ rfl rfl (key_in hn) _ [] (plainElem_int Try.underlying3 (in64_wf hv)) ?_; intro w2 hown2 hgrow2; have HW2 := Aside0.mk hown2; have HG2 := Aside0.mk hgrow2; clear hown2 hgrow2 hm1)
      go_ret
      rw [HE.out]
      have hmt : MapAt w2 mk (putM pk n v) := MapAt.of (n := pk.length + 1) (by rw [← put_toD]; exact HW2.out)
      exact ⟨rfl, EngPost.after HB.out HH.out.base_le ((HH.out.below HB.out).map_turn ht hcc (HX.out.below HH.out HB.out) HM.out hmt HG2.out)⟩
/-- A part more. -/
theorem EngAt.push_part (h : EngAt W base ρ g s cells vs) {t gt : Nat} (ht : t < 8) (hc : cells[2 + t]? = some (.pointer (some ⟨gt, 0, none⟩))) {x : PTx} {rd pa lf : Value} {ms : List Nat} (hx : TxAt W base ρ t gt x rd pa lf ms) {w1 : World} {v1 : Value}
    (hN : Kd.N kP 78 w1 base (fun _ => True) v1 (ms ++ [W.heap.size])) (hb : Below base (W.alloc (.map #[] 0)) w1) (hg : (W.alloc (.map #[] 0)).grownBy w1 pa.ownBlock) (hat : v1.ownBlock = pa.ownBlock ∨ ∃ b, v1.ownBlock = some b ∧ W.heap.size + 1 ≤ b) :
    EngPost W base ρ g (P.setTx s (t : Int) (some { x with parts := x.parts ++ [[]] })) (w1.setCell ⟨gt, 3, none⟩ v1) := by
  have s1 : (W.alloc (.map #[] 0)).heap.size = W.heap.size + 1 := by simp
  have hbase := h.base_le
  have hpa : ∀ k, pa.ownBlock = some k → ρ k = rl t 2 := hx.parts.1
  have hgt := h.own gt (by rw [hx.role]; unfold rl; omega)
  have hown : ∀ k, pa.ownBlock = some k → k < W.heap.size := fun k hk => (h.own k (by rw [hpa k hk]; unfold rl; omega)).2
  have hold : ∀ k, k < W.heap.size → some k ≠ pa.ownBlock → w1.heap[k]? = W.heap[k]? := fun k hk hne => (hg.block k (by omega) hne).trans (Below.heap_alloc W _ k hk)
  have hv1 : ∀ k, v1.ownBlock = some k → k ≠ gt ∧ k ≠ W.heap.size := fun k hk => by
    rcases hat with e | ⟨b, e, hb'⟩
    · have h1 := hpa k (e ▸ hk)
      have h2 := hown k (e ▸ hk)
      refine ⟨fun e2 => ?_, by omega⟩
      subst e2
      rw [hx.role] at h1
      exact absurd (rl_inj h1) (by omega)
    · rw [e] at hk; injection hk with hk; omega
  have hset : ∀ k, k ≠ gt → (w1.setCell ⟨gt, 3, none⟩ v1).heap[k]? = w1.heap[k]? := fun k hk => Below.heap_setCell w1 ⟨gt, 3, none⟩ v1 k hk
  have hlast : ∀ k, ρ k = rl t 0 → True := fun _ _ => trivial
  have hne0 : ρ W.heap.size = 0 := by
    by_cases e : ρ W.heap.size = 0
    · exact e
    · have := h.own _ e; omega
  obtain ⟨ρ', hρ'⟩ : ∃ ρ' : Nat → Nat, ρ' = fun k => if k = W.heap.size then rl t 4 else withRow ρ v1 (rl t 2) k := ⟨_, rfl⟩
  have hwr : Same W ρ (withRow ρ v1 (rl t 2)) := withRow_same hpa (by
    rcases hat with e | ⟨b, e, hb'⟩
    · exact .inl e
    · exact .inr ⟨b, e, by omega⟩)
  have hs : Same W ρ ρ' := fun k hk => by
    rw [hρ']
    show (if k = W.heap.size then _ else _) = _
    rw [if_neg (by omega)]; exact hwr k hk
  have hr : ∀ k, k < W.heap.size → ∀ r, ρ k = r → ρ' k = r := fun k hk r e => by rw [hs k hk, e]
  have hgb : some gt ≠ pa.ownBlock := fun e => by
    have h1 := hpa gt e.symm
    rw [hx.role] at h1
    exact absurd (rl_inj h1) (by omega)
  have hsz1 : W.heap.size + 1 ≤ w1.heap.size := by have := hg.size; omega
  have mv : ∀ j, j ≠ 0 → j ≠ 2 → ∀ k, ρ k = rl t j → (w1.setCell ⟨gt, 3, none⟩ v1).heap[k]? = W.heap[k]? := fun j h0 h2 k hk => by
    have hl := (h.own k (by rw [hk]; unfold rl; omega)).2
    rw [hset k (fun e => h0 (rl_inj (t := t) (by rw [← hk, e, hx.role])))]
    exact hold k hl (fun e => h2 (rl_inj (t := t) (by rw [← hk, hpa k e.symm])))
  refine h.tx_turn ht hc hs (fun k hk => ?_) (fun k h0 h1 => ?_) (x' := { x with parts := x.parts ++ [[]] }) (rd := rd) (pa := v1) (lf := lf) (ms := ms ++ [W.heap.size]) ⟨hr gt hgt.2 _ hx.role, hx.ge, ?_, ?_, ?_, ?_, ⟨by simp [hx.maps.len], ?_, fun i m p hm hp => ?_⟩⟩ ?_ ?_
  · rw [setCell_size]
    by_cases e : k = W.heap.size
    · omega
    · rw [hρ'] at hk
      simp only [e, if_false] at hk
      unfold withRow at hk
      split at hk
      · next he => exact N_in hN k he
      · have := h.own k hk; omega
  · have hl := (h.own k h0).2
    rw [hset k (fun e => h1 (by rw [e, hx.role]; exact rl_tx t 0 (by omega)))]
    exact hold k hl (fun e => h1 (by rw [hpa k e.symm]; exact rl_tx t 2 (by omega)))
  · have hbk : w1.heap[gt]? = some (.cells #[.int .i64 x.start, .int .i64 x.stamp, rd, pa, .bool x.commits, .bool x.pointed, lf] 81 (0, 0)) := (hold gt hgt.2 hgb).trans hx.blk
    exact blk_set hbk 3 v1
  · exact N_flat kI_flat (N_flat_move kI_flat hx.reads fun k hk => mv 1 (by omega) (by omega) k (hx.reads.1 k hk)) fun k hk => hr k (h.own k (by rw [hx.reads.1 k hk]; unfold rl; omega)).2 _ (hx.reads.1 k hk)
  · exact N_flat kP_flat (N_flat_move kP_flat hN fun k hk => hset k (hv1 k hk).1) fun k hk => by
      rw [hρ']
      show (if k = W.heap.size then _ else _) = _
      rw [if_neg (hv1 k hk).2]; exact withRow_at k hk
  · exact V_move hx.left (fun k hk => hr k (h.own k (by rw [hk]; unfold rl; omega)).2 _ hk) (fun k hk _ => mv 3 (by omega) (by omega) k hk)
  · rw [List.nodup_append]
    refine ⟨hx.maps.nd, by simp, fun a ha b hb' e => ?_⟩
    rw [List.mem_singleton.1 hb'] at e
    subst e
    obtain ⟨i, hi, e2⟩ := List.mem_iff_getElem.1 ha
    have hip : i < x.parts.length := by rw [← hx.maps.len]; exact hi
    have := (hx.maps.at_ i _ _ (List.getElem?_eq_getElem hi) (List.getElem?_eq_getElem hip)).2.2.lt
    omega
  · by_cases hi : i < ms.length
    · rw [List.getElem?_append_left hi] at hm
      change (x.parts ++ [[]])[i]? = some p at hp
      rw [List.getElem?_append_left (by rw [← hx.maps.len]; exact hi)] at hp
      obtain ⟨a, b, c⟩ := hx.maps.at_ i m p hm hp
      exact ⟨a, hr m c.lt _ b, c.move (mv 4 (by omega) (by omega) m b)⟩
    · rw [List.getElem?_append_right (by omega)] at hm
      change (x.parts ++ [[]])[i]? = some p at hp
      rw [List.getElem?_append_right (by rw [← hx.maps.len]; omega)] at hp
      have e0 : i - ms.length = 0 := by
        have := (List.getElem?_eq_some_iff.1 hm).1
        simpa using this
      rw [e0] at hm
      rw [← hx.maps.len, e0] at hp
      simp only [List.getElem?_cons_zero, Option.some.injEq] at hm hp
      subst hm hp
      refine ⟨hbase, by rw [hρ']; simp, (MapAt.made W).move ?_⟩
      rw [hset _ (by omega)]
      exact hg.block _ (by omega) (fun e => by have := hown _ e.symm; omega)
  · refine Kept.setCell (Kept.of_grown hg ((Kept.refl W _).alloc _) (fun k e => .inl (by rw [hpa k e]; unfold rl; omega))) (.inl (by rw [hx.role]; unfold rl; omega)) v1
  · exact (((below_1 W (.map #[] 0)).mono hbase).trans hb).setCell (p := ⟨gt, 3, none⟩) hx.ge v1
set_option maxHeartbeats 8000000 in
set_option maxRecDepth 100000 in
theorem part_calls (h : EngAt W base ρ g s cells vs) (t : Int) (hp : ∀ x, openE s t = some x → x.parts.length ≤ 100000) :
    Calls Try.prog 12 #[.pointer (some ⟨g, 0, none⟩), .int .i64 t] W fun e w' => e = .returned (.int .i64 (partE s t).1) ∧ EngPost W base ρ g (partE s t).2 w' := by
  have HO := Aside0.mk (show partE s t = match openE s t with | none => (1, s) | some x => (0, setTx s t (some { x with parts := x.parts ++ [[]] })) from rfl)
  have HH := Aside0.mk h
  have HP := Aside0.mk hp
  have hof := open_calls h t
  clear h hp
  have hmm := @run_makeMap Try.prog
  go_enter Try.func12, Try.ntmps12
  go_wp2_with fail
  refine hof.mono ?_; rintro e w' ⟨⟨p, rfl, hp⟩, rfl⟩
  clear hof
  rcases hp.form with ⟨e0, rfl⟩ | ⟨x, tn, gt, rd, pa, lf, ms, e0, rfl, ht, rfl, hcc, hx⟩
  · have HE := Aside0.mk (show partE s t = (1, s) by rw [HO.out, e0])
    clear hp e0 HO
    go_wp2
    go_ret
    rw [HE.out]
    exact ⟨rfl, ρ, _, _, HH.out, Did.refl⟩
  · have HE := Aside0.mk (show partE s tn = (0, setTx s tn (some { x with parts := x.parts ++ [[]] })) by rw [HO.out, e0])
    have hpl := HP.out x e0
    have hml : ms.length ≤ 100000 := by rw [hx.maps.len]; exact hpl
    have HX := Aside0.mk hx
    have k3 := blk_cell hx.blk 3
    have hN := hx.parts
    obtain ⟨A, c, rfl⟩ := Kd.N_slice hN
    have HN := Aside0.mk (Kd.N_alloc (Kd.N_mono hN (fun _ _ => trivial) : Kd.N kP 78 W base (fun _ => True) (.slice A ms.length c) ms) (.map #[] 0))
    have hgne : some gt ≠ (Value.slice A ms.length c).ownBlock := fun e => by
      have h1 : ρ gt = rl tn 2 := hN.1 gt e.symm
      rw [hx.role] at h1
      exact absurd (rl_inj h1) (by omega)
    have HGN := Aside0.mk hgne
    clear hp e0 HO hx hpl hN hgne HP
    go_wp2_with ((with_reducible refine gate_builtin (b := .append) (xs := #[.tmp 15, .tmp 17]) rfl ?_); at_builtin; refine Kd.N_append kP (w0 := W.alloc (.map #[] 0)) base rfl (.tmp 15) (.tmp 17) 79 78 (.map none) 8 rfl Try.underlying79 info78 rfl (by decide) (by omega) (.slice A ms.length c) ms W.heap.size [.map (some W.heap.size)] (fun _ => True) (fun _ => False) rfl (by simp [Act.eval]) ?aP (fun _ hk => hk.elim) (fun _ _ => trivial) ?aO ?aB ?aS ?aL ?_; (case aP => exact fun W' _ => rfl); (case aO => exact HN.out); (case aB => exact Below.refl _ _); (case aS => exact Nat.le_trans HH.out.base_le (by simp)); (case aL => omega); intro v1 w1 ho hb hg hat; have HN1 := Aside0.mk ho; have HB1 := Aside0.mk hb; have HG1 := Aside0.mk hg; have HA1 := Aside0.mk hat; clear ho hb hg hat; obtain ⟨A1, c1, e1⟩ := Kd.N_slice HN1.out; subst e1; have hb1 := (HG1.out.block gt (by have := (HH.out.own gt (by rw [HX.out.role]; unfold rl; omega)).2; simp; omega) HGN.out).trans (blk_alloc HX.out.blk _); have j3 := blk_cell hb1 3; have g3 := blk_frozen hb1 3; clear hb1 k3)
    go_ret
    rw [HE.out]
    have HP := HH.out.push_part ht hcc HX.out HN1.out HB1.out HG1.out (by simpa using HA1.out)
    rw [show (ms ++ [W.heap.size]).length = ms.length + 1 from by simp] at HP
    exact ⟨rfl, HP⟩
end
end Go.Proofs.Ytcnbgamalhfkmaa.P
namespace Go.Proofs.Ytcnbgamalhfkmaa.P
open Go.RowKit Go.Proofs.YtcnbgamalhfkmaaW.PrintWords Go.Proofs.YtcnbgamalhfkmaaW.PrintLast Go.Proofs.YtcnbgamalhfkmaaW.PrintMore
set_option linter.unusedVariables false
set_option linter.unusedSimpArgs false
open Go.WideShapes Go.Maps Go.Shelf
attribute [local go_sem] Oper.semAt_some

/-- The places of a row, the last one ahead. -/
def backs (n : Nat) : List (Fin n) := (List.finRange n).reverse
theorem backs_len (n : Nat) : (backs n).length = n := by simp [backs]
theorem backs_take {n r : Nat} (h : r + 1 ≤ n) : (backs n).take (n - r) = (backs n).take (n - (r + 1)) ++ [(⟨r, by omega⟩ : Fin n)] := by
  have e : n - r = (n - (r + 1)) + 1 := by omega
  rw [e, List.take_succ_eq_append_getElem (by rw [backs_len]; omega)]
  congr 2
  unfold backs
  rw [List.getElem_reverse, List.getElem_finRange]
  ext
  simp
  omega
set_option maxRecDepth 100000 in
set_option maxHeartbeats 4000000 in
theorem back_round (n : Nat) (hn : 1 ≤ n) (l Bs n₀ b cap : Nat) (ms : List Nat) (hm : ms.length ≤ 100000) (hb : b < n₀) (hBn : Bs < n₀) (J Jx : List (Fin ms.length) → World → Prop)
    (hY : ∀ pre x W, J pre W → pre.length < ms.length → YieldAt Fence.wide (n - 1) Try.prog l #[.int .i64 (x.1 : Nat), .map (some (ms[x.1]'x.2))] W fun e W' =>
      (e = .returned (.bool true) ∧ J (pre ++ [x]) W' ∧ Below n₀ W W') ∨ (e = .returned (.bool false) ∧ Jx (pre ++ [x]) W'))
    (W : World) (hBs : W.cell? ⟨Bs, 0, none⟩ = some (.slice (some ⟨b, 0, none⟩) ms.length cap)) (hc : ∀ (j : Nat) (hj : j < ms.length), W.cell? ⟨b, j, none⟩ = some (.map (some ms[j]))) (h0 : J [] W) :
    CallsIn Fence.wide n Try.prog 63 #[.func (.yield l) #[] #[], .pointer (some ⟨Bs, 0, none⟩)] W fun e W' => (∃ v, e = .returned v) ∧
      ((∃ ys, ys = backs ms.length ∧ J ys W') ∨ (∃ pre, pre <+: backs ms.length ∧ Jx pre W')) := by
  refine callsIn_of_wp Try.func63 rfl trivial ?_ rfl
  simp only [Try.ntmps63, List.size_toArray, List.length_cons, List.length_nil, Nat.reduceAdd, Nat.reduceSub, Array.replicate_succ, Array.replicate_zero, List.push_toArray, List.append_toArray, List.nil_append, List.cons_append]
  gi_wp2
  gi_loopw [3] (fun i wr => ∃ r : Nat, r ≤ ms.length ∧ i = .int .i64 ((r : Int) - 1) ∧ J ((backs ms.length).take (ms.length - r)) wr ∧ Below n₀ W wr)
    (fun i _ => (intOf i + 1).toNat)
  case atStart => exact ⟨ms.length, Nat.le_refl _, rfl, by rw [Nat.sub_self]; exact h0, Below.refl _ _⟩
  case round =>
    obtain ⟨r, hr, rfl, hJs, hnx⟩ := hrel
    have hbx := (hnx.cell (p := ⟨Bs, 0, none⟩) hBn).trans hBs
    cases r with
    | zero =>
      have hneg : ¬ (0 : Int) ≤ ((0 : Nat) : Int) - 1 := by omega
      have hJ' : J (backs ms.length) wr := by
        have h := hJs
        rw [Nat.sub_zero, List.take_of_length_le (by rw [backs_len]; omega)] at h
        exact h
      have HJ := Aside0.mk hJ'
      clear hJs hJ'
      gi_wp2
      go_end0
      first | exact ⟨⟨_, rfl⟩, .inl ⟨_, rfl, HJ.out⟩⟩ | exact ⟨⟨_, rfl⟩, .inl HJ.out⟩ | exact .inl HJ.out
    | succ r =>
      have hri : (((r + 1 : Nat)) : Int) - 1 = (r : Int) := by omega
      rw [hri]
      have hlt : r < ms.length := by omega
      have hcx := (hnx.cell (p := ⟨b, r, none⟩) hb).trans (hc r hlt)
      have hz : (0 : Int) ≤ (r : Int) := by omega
      have hltz : (r : Int) < (ms.length : Int) := by omega
      obtain ⟨fn, tmps, assign, body, hy, hR⟩ := hY _ ⟨r, hlt⟩ wr hJs (by rw [List.length_take, backs_len]; omega)
      dsimp only at hy
      have HP := Aside0.mk (show (backs ms.length).take (ms.length - (r + 1)) ++ [(⟨r, hlt⟩ : Fin ms.length)] = (backs ms.length).take (ms.length - r) from (backs_take hr).symm)
      clear hri hbx hJs
      have hbx := (hnx.cell (p := ⟨Bs, 0, none⟩) hBn).trans hBs
      gi_wp2
      refine hR.mono ?_
      rintro e W3 (⟨rfl, hJ3, hk3⟩ | ⟨rfl, hJx3⟩)
      · gi_wp2
        go_roundw
        case rel => exact ⟨r, by omega, rfl, by rw [← HP.out]; exact hJ3, hnx.trans hk3⟩
        case measure => simp [intOf]
      · gi_wp2
        refine bodyPost_ret (results_none rfl _ _ _) rfl ?_
        exact ⟨⟨_, rfl⟩, .inr ⟨_, by rw [HP.out]; exact List.take_prefix _ _, hJx3⟩⟩
set_option maxHeartbeats 1000000 in
theorem backward_calls (A : Option Addr) (len cap : Nat) (w : World) :
    Calls Try.prog 43 #[.slice A len cap] w fun e w' => e = .returned (.func (.func 63) #[] #[.pointer (some ⟨w.heap.size, 0, none⟩)]) ∧ w.alloc (.cells #[.slice A len cap] 79) = w' := by
  go_enter Try.func43, Try.ntmps43
  go_wp2
  go_ret
  exact ⟨rfl, rfl⟩
/-- The iterator's contract. -/
theorem back_stops (n : Nat) (hn : 1 ≤ n) (Bs n₀ b cap : Nat) (ms : List Nat) (hm : ms.length ≤ 100000) (w : World) (hb : b < n₀) (hBn : Bs < n₀) (hn₀ : n₀ ≤ w.heap.size)
    (hBs : w.cell? ⟨Bs, 0, none⟩ = some (.slice (some ⟨b, 0, none⟩) ms.length cap)) (hc : ∀ (j : Nat) (hj : j < ms.length), w.cell? ⟨b, j, none⟩ = some (.map (some ms[j]))) :
    SeqStopsK Fence.wide n Try.prog 63 #[.pointer (some ⟨Bs, 0, none⟩)] (fun x : Fin ms.length => #[Value.int .i64 (x.1 : Nat), .map (some (ms[x.1]'x.2))]) (Below n₀) (fun ys => ys = backs ms.length) (fun pre => pre <+: backs ms.length) ms.length w := fun l J Jx W hW _ _ hY h0 =>
  back_round n hn l Bs n₀ b cap ms hm hb hBn J Jx hY W ((hW.cell (p := ⟨Bs, 0, none⟩) (by show Bs < _; omega)).trans hBs) (fun j hj => (hW.cell (p := ⟨b, j, none⟩) (by show b < _; omega)).trans (hc j hj)) h0
end Go.Proofs.Ytcnbgamalhfkmaa.P
namespace Go.Proofs.Ytcnbgamalhfkmaa.P
open Go.RowKit Go.Proofs.YtcnbgamalhfkmaaW.PrintWords Go.Proofs.YtcnbgamalhfkmaaW.PrintLast Go.Proofs.YtcnbgamalhfkmaaW.PrintMore
set_option linter.unusedVariables false
set_option linter.unusedSimpArgs false
open Go.WideShapes Go.Maps Go.Shelf
theorem rowI_at {w : World} {base : Nat} {ok : Nat → Prop} {v : Value} {ms : List Int} (h : Kd.N kI 3 w base ok v ms) {i : Nat} (hi : i < ms.length) :
    ∃ gv cap, v = .slice (some ⟨gv, 0, none⟩) ms.length cap ∧ ms.length ≤ cap ∧ w.cell? ⟨gv, i, none⟩ = some (.int .i64 ms[i]) := by
  obtain ⟨gv, cap, rfl, _, _, _⟩ := Kd.N_form h (by omega)
  obtain ⟨c, hcl, hK, hc, hf⟩ := Kd.N_elem h 0 (i : Int) (by omega) (by omega)
  rw [Int.toNat_natCast, List.getD_eq_getElem?_getD, List.getElem?_eq_getElem hi, Option.getD_some] at hK
  have e : c = [.int .i64 ms[i]] := Kd.FK_now hK
  subst e
  have h0 := hc 0 _ rfl
  rw [Int.toNat_natCast, show kI.sz = 1 from rfl, Nat.mul_one, Nat.add_zero] at h0
  exact ⟨gv, cap, rfl, (Kd.N_reads' h).2.1, h0⟩
def idxI (l : List Int) (n : Int) : Int := match l.findIdx? (· == n) with | some i => i | none => -1
theorem idxI_hit {l : List Int} {n : Int} {k : Nat} (hk : k < l.length) (he : l[k] = n) (hne : ∀ j (hj : j < k) (hl : j < l.length), l[j] ≠ n) : idxI l n = k := by
  unfold idxI
  have : l.findIdx? (· == n) = some k := by
    rw [List.findIdx?_eq_some_iff_getElem]
    exact ⟨hk, by simp [he], fun j hj => by simp [hne j hj (by omega)]⟩
  rw [this]
theorem idxI_miss {l : List Int} {n : Int} (hne : ∀ j (hl : j < l.length), l[j] ≠ n) : idxI l n = -1 := by
  unfold idxI
  have : l.findIdx? (· == n) = none := by
    rw [List.findIdx?_eq_none_iff]
    intro x hx
    obtain ⟨j, hj, rfl⟩ := List.mem_iff_getElem.1 hx
    simp [hne j hj]
  rw [this]
theorem idxI_contains (l : List Int) (n : Int) : decide (idxI l n ≥ 0) = l.contains n := by
  unfold idxI
  cases h : l.findIdx? (· == n) with
  | none =>
    rw [List.findIdx?_eq_none_iff] at h
    have : l.contains n = false := by
      rw [Bool.eq_false_iff]
      intro e
      have := h n (by simpa using e)
      simp at this
    rw [this]; rfl
  | some i =>
    obtain ⟨hi, he, _⟩ := List.findIdx?_eq_some_iff_getElem.1 h
    have hm : n ∈ l := by rw [← (by simpa using he : l[i] = n)]; exact List.getElem_mem hi
    have : l.contains n = true := by simpa using hm
    rw [this]
    simp
section
variable {w : World} {base : Nat} {ok : Nat → Prop} {l : List Int}
set_option maxHeartbeats 4000000 in
theorem index_calls {A : Option Addr} {len cap : Nat} (h : Kd.N kI 3 w base ok (.slice A len cap) l) (n : Int) (hl : l.length ≤ 100000) :
    Calls Try.prog 64 #[.slice A len cap, .int .i64 n] w fun e w' => e = .returned (.int .i64 (idxI l n)) ∧ w = w' := by
  have HN := Aside0.mk h
  obtain rfl := (Kd.N_reads' h).1
  clear h
  go_enter Try.func64, Try.ntmps64
  go_wp2
  go_loopg [5, 8] l.length (fun gg _ s8 wr => ∃ kk : Nat, kk ≤ l.length ∧ l.length - kk ≤ gg ∧ s8 = .int .i64 kk ∧ w = wr ∧ Aside0 (∀ j (hj : j < kk) (hl : j < l.length), l[j] ≠ n))
  case atStart => exact ⟨0, Nat.zero_le _, by omega, rfl, rfl, ⟨fun j hj => absurd hj (Nat.not_lt_zero _)⟩⟩
  case round =>
    obtain ⟨kk, hkk, hg, rfl, rfl, AA⟩ := hrel
    by_cases hlt : kk < l.length
    · have hltz : (kk : Int) < (l.length : Int) := by omega
      obtain ⟨gv, cap', e, hcap, c0⟩ := rowI_at HN.out hlt
      cases e
      by_cases he : l[kk] = n
      · have hE : n = l[kk] := he.symm
        have HE := Aside0.mk he
        have hI := Aside0.mk (idxI_hit hlt he AA.out)
        generalize l[kk] = y at *
        subst hE
        clear HE he
        go_wp2
        go_ret
        exact ⟨by rw [hI.out]; rfl, rfl⟩
      · have HE := Aside0.mk he
        have hE : ¬ n = l[kk] := fun e => he e.symm
        generalize hy : l[kk] = y at c0 hE
        clear he
        have HY := Aside0.mk hy
        clear hy
        go_wp2
        go_roundg (l.length - (kk + 1))
        case measure => omega
        case rel => exact ⟨kk + 1, by omega, by omega, by go_num, rfl, ⟨fun j hj hjl => by
          by_cases e2 : j = kk
          · subst e2; exact HE.out
          · exact AA.out j (by omega) hjl⟩⟩
    · have hltz : ¬ (kk : Int) < (l.length : Int) := by omega
      have hI := Aside0.mk (idxI_miss (fun j hj => AA.out j (by omega) hj))
      go_wp2
      go_ret
      exact ⟨by rw [hI.out]; rfl, rfl⟩
set_option maxHeartbeats 4000000 in
theorem contains_calls {A : Option Addr} {len cap : Nat} (h : Kd.N kI 3 w base ok (.slice A len cap) l) (n : Int) (hl : l.length ≤ 100000) :
    Calls Try.prog 45 #[.slice A len cap, .int .i64 n] w fun e w' => e = .returned (.bool (l.contains n)) ∧ w = w' := by
  have hc := index_calls h n hl
  have HI := Aside0.mk (idxI_contains l n)
  clear h
  generalize idxI l n = q at hc HI
  go_enter Try.func45, Try.ntmps45
  go_wp2_with fail
  refine hc.mono ?_; rintro e w' ⟨rfl, rfl⟩
  clear hc
  by_cases hq : q ≥ 0
  · go_wp2
    go_ret
    exact ⟨by rw [← HI.out]; simp [hq], rfl⟩
  · go_wp2
    go_ret
    exact ⟨by rw [← HI.out]; simp [hq], rfl⟩
end
end Go.Proofs.Ytcnbgamalhfkmaa.P
namespace Go.Proofs.Ytcnbgamalhfkmaa.P
open Go.RowKit Go.Proofs.YtcnbgamalhfkmaaW.PrintWords Go.Proofs.YtcnbgamalhfkmaaW.PrintLast Go.Proofs.YtcnbgamalhfkmaaW.PrintMore
set_option linter.unusedVariables false
set_option linter.unusedSimpArgs false
open Go.WideShapes Go.Maps Go.Shelf
section
variable {W : World} {base : Nat} {ρ : Nat → Nat} {g : Nat} {s : PEng} {cells : Array Value} {vs : Value}
theorem parts_backs (parts : List Mp) (N : Nat) (h : N = parts.length) : parts.reverse = (backs N).map fun i => parts.getD i.1 [] := by
  subst h
  unfold backs
  rw [List.map_reverse]
  congr 1
  apply List.ext_getElem
  · simp
  · intro i h1 h2
    simp [h1]
theorem hit_none {parts : List Mp} {n : Int} {N : Nat} (h : N = parts.length) (hn : ∀ i ∈ backs N, getM (parts.getD i.1 []) n = none) : hitM parts n = none := by
  unfold hitM
  rw [parts_backs parts N h, List.findSome?_map, List.findSome?_eq_none_iff]
  exact hn
theorem hit_stop {parts : List Mp} {n v : Int} {N : Nat} (h : N = parts.length) {ini : List (Fin N)} {last : Fin N} (hp : ini ++ [last] <+: backs N) (hn : ∀ i ∈ ini, getM (parts.getD i.1 []) n = none) (hv : getM (parts.getD last.1 []) n = some v) : hitM parts n = some v := by
  obtain ⟨r, hr⟩ := hp
  have h0 : ini.findSome? ((fun p => getM p n) ∘ fun i => parts.getD i.1 []) = none := List.findSome?_eq_none_iff.2 hn
  unfold hitM
  rw [parts_backs parts N h, List.findSome?_map, ← hr, List.append_assoc, List.findSome?_append, h0, Option.none_or, List.singleton_append, List.findSome?_cons]
  simp only [Function.comp]
  rw [hv]
/-- What a call has written in blocks of its own. -/
theorem EngPost.scratch {W1 W2 W3 : World} {s' : PEng} (hb : Below W.heap.size W W1) (hbase : base ≤ W.heap.size) (h0 : ∀ k, ρ k ≠ 0 → k < W.heap.size) (h : EngPost W1 base ρ g s' W2) (hk : Kept W2 W3 (fun k => W.heap.size ≤ k ∧ k < W1.heap.size)) (hb3 : Below base W2 W3) : EngPost W base ρ g s' W3 := by
  obtain ⟨ρ', cells', vs', he, hd⟩ := h
  have hd' : Did W base ρ ρ' W2 := (Did.of_below hb hbase).trans hd
  refine ⟨ρ', cells', vs', he.kept hk (fun k hS => ?_), hd'.same, ⟨Nat.le_trans hd'.kept.1 hk.1, fun k hl hn => (hk.2 k (Nat.lt_of_lt_of_le hl hd'.kept.1) (fun hS => by omega)).trans (hd'.kept.2 k hl hn)⟩, hd'.below.trans hb3⟩
  rw [hd.same k hS.2]
  by_cases e : ρ k = 0
  · exact e
  · have := h0 k e; omega
/-- A read more. -/
theorem EngAt.push_reads (h : EngAt W base ρ g s cells vs) {t gt : Nat} (ht : t < 8) (hc : cells[2 + t]? = some (.pointer (some ⟨gt, 0, none⟩))) {x : PTx} {rd pa lf : Value} {ms : List Nat} (hx : TxAt W base ρ t gt x rd pa lf ms) {w1 : World} {v1 : Value} {n : Int}
    (hN : Kd.N kI 3 w1 base (fun _ => True) v1 (x.reads ++ [n])) (hb : Below base W w1) (hg : W.grownBy w1 rd.ownBlock) (hat : v1.ownBlock = rd.ownBlock ∨ ∃ b, v1.ownBlock = some b ∧ W.heap.size ≤ b) :
    EngPost W base ρ g (P.setTx s (t : Int) (some { x with reads := x.reads ++ [n] })) (w1.setCell ⟨gt, 2, none⟩ v1) := by
  have hpa : ∀ k, rd.ownBlock = some k → ρ k = rl t 1 := hx.reads.1
  have hgt := h.own gt (by rw [hx.role]; unfold rl; omega)
  have hown : ∀ k, rd.ownBlock = some k → k < W.heap.size := fun k hk => (h.own k (by rw [hpa k hk]; unfold rl; omega)).2
  have hold : ∀ k, k < W.heap.size → some k ≠ rd.ownBlock → w1.heap[k]? = W.heap[k]? := fun k hk hne => hg.block k hk hne
  have hv1 : ∀ k, v1.ownBlock = some k → k ≠ gt := fun k hk e2 => by
    rcases hat with e | ⟨b, e, hb'⟩
    · have h1 := hpa k (e ▸ hk)
      subst e2
      rw [hx.role] at h1
      exact absurd (rl_inj h1) (by omega)
    · rw [e] at hk; injection hk with hk; omega
  have hset : ∀ k, k ≠ gt → (w1.setCell ⟨gt, 2, none⟩ v1).heap[k]? = w1.heap[k]? := fun k hk => Below.heap_setCell w1 ⟨gt, 2, none⟩ v1 k hk
  have hs : Same W ρ (withRow ρ v1 (rl t 1)) := withRow_same hpa (by
    rcases hat with e | ⟨b, e, hb'⟩
    · exact .inl e
    · exact .inr ⟨b, e, hb'⟩)
  have hr : ∀ k, k < W.heap.size → ∀ r, ρ k = r → (withRow ρ v1 (rl t 1)) k = r := fun k hk r e => by rw [hs k hk, e]
  have hgb : some gt ≠ rd.ownBlock := fun e => by
    have h1 := hpa gt e.symm
    rw [hx.role] at h1
    exact absurd (rl_inj h1) (by omega)
  have mv : ∀ j, j ≠ 0 → j ≠ 1 → ∀ k, ρ k = rl t j → (w1.setCell ⟨gt, 2, none⟩ v1).heap[k]? = W.heap[k]? := fun j h0 h2 k hk => by
    have hl := (h.own k (by rw [hk]; unfold rl; omega)).2
    rw [hset k (fun e => h0 (rl_inj (t := t) (by rw [← hk, e, hx.role])))]
    exact hold k hl (fun e => h2 (rl_inj (t := t) (by rw [← hk, hpa k e.symm])))
  refine h.tx_turn ht hc hs (fun k hk => ?_) (fun k h0 h1 => ?_) (x' := { x with reads := x.reads ++ [n] }) (rd := v1) (pa := pa) (lf := lf) (ms := ms) ⟨hr gt hgt.2 _ hx.role, hx.ge, ?_, ?_, ?_, ?_, hx.maps.move (fun k hk => hr k (h.own k (by rw [hk]; unfold rl; omega)).2 _ hk) (fun k hk => mv 4 (by omega) (by omega) k hk)⟩ ?_ ?_
  · rw [setCell_size]
    unfold withRow at hk
    split at hk
    · next he => exact N_in hN k he
    · have := h.own k hk; have := hg.size; omega
  · have hl := (h.own k h0).2
    rw [hset k (fun e => h1 (by rw [e, hx.role]; exact rl_tx t 0 (by omega)))]
    exact hold k hl (fun e => h1 (by rw [hpa k e.symm]; exact rl_tx t 1 (by omega)))
  · have hbk : w1.heap[gt]? = some (.cells #[.int .i64 x.start, .int .i64 x.stamp, rd, pa, .bool x.commits, .bool x.pointed, lf] 81 (0, 0)) := (hold gt hgt.2 hgb).trans hx.blk
    exact blk_set hbk 2 v1
  · exact N_flat kI_flat (N_flat_move kI_flat hN fun k hk => hset k (hv1 k hk)) fun k hk => withRow_at k hk
  · exact N_flat kP_flat (N_flat_move kP_flat hx.parts fun k hk => mv 2 (by omega) (by omega) k (hx.parts.1 k hk)) fun k hk => hr k (h.own k (by rw [hx.parts.1 k hk]; unfold rl; omega)).2 _ (hx.parts.1 k hk)
  · exact V_move hx.left (fun k hk => hr k (h.own k (by rw [hk]; unfold rl; omega)).2 _ hk) (fun k hk _ => mv 3 (by omega) (by omega) k hk)
  · refine Kept.setCell (Kept.of_grown hg (Kept.refl W _) (fun k e => .inl (by rw [hpa k e]; unfold rl; omega))) (.inl (by rw [hx.role]; unfold rl; omega)) v1
  · exact hb.setCell (p := ⟨gt, 2, none⟩) hx.ge v1
theorem read_cells {W2 : World} {t gt : Nat} {x : PTx} {rd pa lf : Value} {ms : List Nat} (h : EngAt W base ρ g s cells vs) (hx : TxAt W base ρ t gt x rd pa lf ms) (hs : W.heap.size ≤ W2.heap.size) (hg : ∀ k, k < W.heap.size → some k ≠ rd.ownBlock → W2.heap[k]? = W.heap[k]?) (k j : Nat) (v : Value) (hk : k < W.heap.size) (hr : ρ k ≠ rl t 1) (hc : W.cell? ⟨k, j, none⟩ = some v) : W2.cell? ⟨k, j, none⟩ = some v := by
  have := hg k hk (fun e => hr (hx.reads.1 k e.symm))
  simpa [World.cell?, this] using hc
theorem read_frozen {W2 : World} {t gt : Nat} {x : PTx} {rd pa lf : Value} {ms : List Nat} (hx : TxAt W base ρ t gt x rd pa lf ms) (hs : W.heap.size ≤ W2.heap.size) (hg : ∀ k, k < W.heap.size → some k ≠ rd.ownBlock → W2.heap[k]? = W.heap[k]?) {k j : Nat} (hk : k < W.heap.size) (hr : ρ k ≠ rl t 1) (hc : W.frozen? ⟨k, j, none⟩ = false) : W2.frozen? ⟨k, j, none⟩ = false := by
  have := hg k hk (fun e => hr (hx.reads.1 k e.symm))
  simpa [World.frozen?, this] using hc
theorem cell_of_heap {W W' : World} {k j : Nat} {v : Value} (h : W'.heap[k]? = W.heap[k]?) (hc : W.cell? ⟨k, j, none⟩ = some v) : W'.cell? ⟨k, j, none⟩ = some v := by simpa [World.cell?, h] using hc
end
end Go.Proofs.Ytcnbgamalhfkmaa.P
namespace Go.Proofs.Ytcnbgamalhfkmaa.P
open Go.RowKit Go.Proofs.YtcnbgamalhfkmaaW.PrintWords Go.Proofs.YtcnbgamalhfkmaaW.PrintLast Go.Proofs.YtcnbgamalhfkmaaW.PrintMore
set_option linter.unusedVariables false
set_option linter.unusedSimpArgs false
open Go.WideShapes Go.Maps Go.Shelf
def Rise (m : Mp) : Prop := m.Pairwise fun a b => a.1 < b.1
theorem MapAt.rise {w : World} {b : Nat} {m : Mp} (h : MapAt w b m) : Rise m := by
  obtain ⟨es, e, hp, _⟩ := World.ownsMap.canon (show w.ownsMap Try.prog 3 (plainElem (H := Unit) Try.prog 3) b m.length (toD m) from h) lawM
  have e2 : m.map (fun e => (keyL e.1, (.lit (keyL e.2) : DataW Unit))) = es := DataW.map.inj e
  rw [← e2, List.pairwise_map] at hp
  exact hp.imp fun {a b} hab => by
    have : (keyL a.1).before (keyL b.1) = true := hab
    rw [before_key] at this
    exact of_decide_eq_true this
theorem insM_len (x : Int × Int) : ∀ m : Mp, (insM x m).length = m.length + 1
  | [] => rfl
  | y :: r => by
    unfold insM
    split
    · simp
    · simp [insM_len x r]
theorem putM_len (m : Mp) (k v : Int) : (putM m k v).length ≤ m.length + 1 := by
  unfold putM
  rw [insM_len]
  have := List.length_filter_le (fun p : Int × Int => p.1 != k) m
  omega
theorem insM_find_ne (x : Int × Int) (j : Int) (hj : x.1 ≠ j) : ∀ m : Mp, (insM x m).find? (fun p => p.1 == j) = m.find? fun p => p.1 == j
  | [] => by simp [insM, hj]
  | y :: r => by
    unfold insM
    split
    · rw [List.find?_cons]
      have : (x.1 == j) = false := by simp [hj]
      rw [this]
    · rw [List.find?_cons, List.find?_cons, insM_find_ne x j hj r]
theorem insM_find_eq (x : Int × Int) : ∀ m : Mp, (∀ y ∈ m, y.1 ≠ x.1) → (insM x m).find? (fun p => p.1 == x.1) = some x
  | [], _ => by simp [insM]
  | y :: r, h => by
    unfold insM
    split
    · rw [List.find?_cons]; simp
    · rw [List.find?_cons]
      have : (y.1 == x.1) = false := by simp [h y (List.mem_cons_self)]
      rw [this]
      exact insM_find_eq x r (fun z hz => h z (List.mem_cons_of_mem _ hz))
theorem getM_put (m : Mp) (k v j : Int) : getM (putM m k v) j = if k = j then some v else getM m j := by
  unfold getM putM
  by_cases e : k = j
  · subst e
    rw [if_pos rfl, insM_find_eq (k, v) _ (fun y hy => by have := (List.mem_filter.1 hy).2; simpa using this)]
    rfl
  · rw [if_neg e, insM_find_ne (k, v) j e, List.find?_filter]
    congr 1
    congr 1
    funext p
    by_cases h1 : p.1 = j
    · have : p.1 ≠ k := fun e2 => e (e2.symm.trans h1)
      simp [h1, this]
      exact fun e2 => e e2.symm
    · simp [h1]
theorem getM_cons (x : Int × Int) (m : Mp) (j : Int) : getM (x :: m) j = if x.1 = j then some x.2 else getM m j := by
  unfold getM
  rw [List.find?_cons]
  by_cases h : x.1 = j
  · simp [h]
  · have : (x.1 == j) = false := by simp [h]
    rw [this, if_neg h]
theorem getM_none {m : Mp} {j : Int} (h : ∀ y ∈ m, y.1 ≠ j) : getM m j = none := by
  unfold getM
  rw [List.find?_eq_none.2 (fun y hy => by simp [h y hy])]
  rfl
theorem rise_ext : ∀ {a b : Mp}, Rise a → Rise b → (∀ j, getM a j = getM b j) → a = b
  | [], [], _, _, _ => rfl
  | [], y :: r, _, _, h => by have := h y.1; rw [getM_cons, if_pos rfl] at this; simp [getM] at this
  | x :: l, [], _, _, h => by have := h x.1; rw [getM_cons, if_pos rfl] at this; simp [getM] at this
  | x :: l, y :: r, ha, hb, h => by
    have ha2 := List.pairwise_cons.1 ha
    have hb2 := List.pairwise_cons.1 hb
    have e1 : x.1 = y.1 := by
      rcases Int.lt_trichotomy x.1 y.1 with hl | hl | hl
      · have := h x.1
        rw [getM_cons, if_pos rfl, getM_none (fun z hz => by
          rcases List.mem_cons.1 hz with rfl | hz
          · omega
          · have := hb2.1 z hz; omega)] at this
        cases this
      · exact hl
      · have := h y.1
        rw [getM_cons y, if_pos rfl, getM_none (m := x :: l) (fun z hz => by
          rcases List.mem_cons.1 hz with rfl | hz
          · omega
          · have := ha2.1 z hz; omega)] at this
        cases this
    have e2 : x.2 = y.2 := by
      have := h x.1
      rw [getM_cons, if_pos rfl, getM_cons, if_pos e1.symm] at this
      exact Option.some.inj this
    have e3 : x = y := Prod.ext e1 e2
    subst e3
    congr 1
    refine rise_ext ha2.2 hb2.2 fun j => ?_
    by_cases hj : x.1 = j
    · rw [getM_none (fun z hz => by have := ha2.1 z hz; omega), getM_none (fun z hz => by have := hb2.1 z hz; omega)]
    · have := h j
      rwa [getM_cons, if_neg hj, getM_cons, if_neg hj] at this
theorem insM_mem (x : Int × Int) : ∀ (m : Mp) (z : Int × Int), z ∈ insM x m ↔ z = x ∨ z ∈ m
  | [], z => by simp [insM]
  | y :: r, z => by
    unfold insM
    split
    · simp
    · simp only [List.mem_cons, insM_mem x r z]
      constructor
      · rintro (h | h | h) <;> simp [h]
      · rintro (h | h | h) <;> simp [h]
theorem insM_rise (x : Int × Int) : ∀ m : Mp, Rise m → (∀ y ∈ m, y.1 ≠ x.1) → Rise (insM x m)
  | [], _, _ => by simp [insM, Rise]
  | y :: r, h, hn => by
    have h2 := List.pairwise_cons.1 h
    unfold insM
    split
    · next hl =>
      refine List.pairwise_cons.2 ⟨fun z hz => ?_, h⟩
      rcases List.mem_cons.1 hz with rfl | hz
      · exact hl
      · have := h2.1 z hz; omega
    · next hl =>
      refine List.pairwise_cons.2 ⟨fun z hz => ?_, insM_rise x r h2.2 (fun z hz => hn z (List.mem_cons_of_mem _ hz))⟩
      rcases (insM_mem x r z).1 hz with rfl | hz
      · have := hn y List.mem_cons_self; omega
      · exact h2.1 z hz
theorem putM_rise {m : Mp} (h : Rise m) (k v : Int) : Rise (putM m k v) :=
  insM_rise (k, v) _ (List.Pairwise.filter _ h) (fun y hy => by have := (List.mem_filter.1 hy).2; simpa using this)
theorem copyM_rise : ∀ (q p : Mp), Rise p → Rise (copyM p q)
  | [], p, h => h
  | e :: q, p, h => by
    show Rise (copyM (putM p e.1 e.2) q)
    exact copyM_rise q _ (putM_rise h _ _)
theorem getM_copy : ∀ (q p : Mp) (j : Int), Rise q → getM (copyM p q) j = (getM q j).or (getM p j)
  | [], p, j, _ => by simp [copyM, getM]
  | e :: q, p, j, h => by
    have h2 := List.pairwise_cons.1 h
    show getM (copyM (putM p e.1 e.2) q) j = _
    rw [getM_copy q _ j h2.2, getM_put, getM_cons]
    by_cases he : e.1 = j
    · rw [if_pos he, if_pos he, getM_none (fun z hz => by have := h2.1 z hz; omega)]
      rfl
    · rw [if_neg he, if_neg he]
theorem isSome_of_has {q : Mp} {k : Int} (h : Maps.has (toD q) (keyL k) = true) : (getM q k).isSome = true := by rw [has_toD] at h; exact h
section
variable {w : World}
set_option maxRecDepth 100000 in
set_option maxHeartbeats 4000000 in
theorem copy_calls {bp bq : Nat} {p q : Mp} (hp : MapAt w bp p) (hq : MapAt w bq q) (hne : bp ≠ bq) (hl : p.length + q.length ≤ 1000000) :
    Calls Try.prog 62 #[.map (some bp), .map (some bq)] w fun e w' => (∃ v, e = .returned v) ∧ MapAt w' bp (copyM p q) ∧ w.grownBy w' (some bp) := by
  have HP := Aside0.mk hp
  have HQ := Aside0.mk hq
  have hbp := hp.lt
  have hbq := hq.lt
  go_enter Try.func62, Try.ntmps62
  go_wp2_with (first
    | (at_range; refine wpList_range_own _ rfl _ 78 rfl 3 3 lawM Try.underlying78 _ bq q.length _ rfl hq ?_; intro w0 hrg0 hg0 hs0)
    | go_in)
  go_frame
  go_loopw [4, 5] (fun _ _ wr => ∃ (left : Lit → Bool) (cnt : Nat) (p' : Mp), wr.ranges Try.prog 3 (plainElem (H := Unit) Try.prog 3) bq w.heap.size q.length (toD q) left cnt ∧ Aside0 (p'.length + cnt ≤ p.length + q.length) ∧
      MapAt wr bp p' ∧ Aside0 (∀ j, left (keyL j) = true → (getM q j).isSome = true) ∧ Aside0 (∀ j, getM p' j = if left (keyL j) then getM p j else (getM q j).or (getM p j)) ∧ Aside0 (w.grownBy wr (some bp)))
    (fun _ _ wr => wr.rangeLeft bq w.heap.size)
  case atStart =>
    refine ⟨_, _, p, hrg0, ⟨?_⟩, hp.move (hg0.block _ hbp (by simp)), ⟨fun j hj => isSome_of_has hj⟩, ⟨fun j => ?_⟩, ⟨hg0.but _⟩⟩
    · show p.length + Maps.size (toD q) ≤ _
      unfold toD; rw [Maps.size_eq, List.length_map]; exact Nat.le_refl _
    · rw [has_toD]
      cases getM q j <;> rfl
  case round =>
    obtain ⟨left, cnt, p', hrg, HL, hm, HI, HG, HW⟩ := hrel
    have hpl : p'.length ≤ 1000000 := by have := HL.out; omega
    go_wp2_with (first
      | (at_next; refine wpList_next_ranges_ii _ rfl _ rfl 3 3 .i64 .i64 lawM Try.underlying3 Try.underlying3 bq w.heap.size q.length _ _ _ rfl hrg ?_ ?_)
      | go_in)
    · intro hc0 hl0
      go_wp2
      go_end0
      refine ⟨⟨_, rfl⟩, ?_, HW.out⟩
      have e : p' = copyM p q := rise_ext hm.rise (copyM_rise q p HP.out.rise) (fun j => by rw [HG.out j, hl0, getM_copy q p j HQ.out.rise]; rfl)
      rw [← e]; exact hm
    · intro x c w1 cnt1 hwx hwc hlx hat hrg1 hlt hg1 hs1 hen
      have hm1 := hm.move (hg1.block _ hm.lt (fun e => by injection e with e; omega))
      have hgx : getM q x = some c := by
        have h1 := HI.out x hlx
        have h2 := (at_toD q x).symm.trans (hat _)
        cases hq : getM q x with
        | none => rw [hq] at h1; cases h1
        | some v => rw [hq] at h2; exact congrArg some (Lit.int.inj (DataW.lit.inj h2)).2
      go_wp2_with (first
        | (at_mapUpdate; refine wpList_mapUpdate_own _ rfl _ _ _ 78 rfl 3 3 lawM Try.underlying78 _ bp p'.length _ rfl hm1 (by unfold maxLen; omega) _ _ _ rfl rfl (Maps.keyOf_int_mk Try.underlying3 hwx) _ [] (plainElem_int Try.underlying3 hwc) ?_; intro w2 hout2 hg2; go_frame)
        | go_in)
      have hrg2 := hrg1.kept hg2 (fun e => by have := Option.some.inj e; omega) (fun e => by have := Option.some.inj e; omega)
      have hm2 : MapAt w2 bp (putM p' x c) := MapAt.of (n := p'.length + 1) (by rw [← put_toD]; exact hout2)
      go_roundw
      case rel =>
        refine ⟨_, cnt1, _, hrg2, ⟨by have := putM_len p' x c; have := HL.out; omega⟩, hm2, ⟨fun j hj => HI.out j (by simp only [Bool.and_eq_true] at hj; exact hj.1)⟩, ⟨fun j => ?_⟩, ⟨(HW.out.andThen hg1 (fun j e => by injection e with e; exact .inl (by omega))).andThen hg2 (fun j e => .inr e)⟩⟩
        rw [getM_put, HG.out j]
        show _ = if (left (keyL j) && !(keyL j).sameKey (keyL x)) = true then _ else _
        rw [same_key]
        by_cases e : x = j
        · subst e
          rw [if_pos rfl, hgx]; simp
        · have e2 : (j == x) = false := by rw [beq_eq_false_iff_ne]; exact fun e3 => e e3.symm
          rw [if_neg e, e2]; simp
      case measure => rw [hrg2.left_eq, hrg.left_eq]; exact hlt
end
end Go.Proofs.Ytcnbgamalhfkmaa.P
namespace Go.Proofs.Ytcnbgamalhfkmaa.P
open Go.RowKit Go.Proofs.YtcnbgamalhfkmaaW.PrintWords Go.Proofs.YtcnbgamalhfkmaaW.PrintLast Go.Proofs.YtcnbgamalhfkmaaW.PrintMore
set_option linter.unusedVariables false
set_option linter.unusedSimpArgs false
open Go.WideShapes Go.Maps Go.Shelf
section
variable {W : World} {base : Nat} {ρ : Nat → Nat} {g : Nat} {s : PEng} {cells : Array Value} {vs : Value}
theorem dropLast_set {α : Type} {l : List α} {k : Nat} (hk : l.length = k + 1) (v : α) : l.dropLast ++ [v] = l.set k v := by
  apply List.ext_getElem?
  intro j
  by_cases hj : j < k
  · rw [List.getElem?_append_left (by simp; omega), List.getElem?_dropLast, if_pos (by omega), List.getElem?_set_ne (by omega)]
  · rw [List.getElem?_append_right (by simp; omega)]
    by_cases hj2 : j = k
    · subst hj2
      rw [List.getElem?_set_self (by omega)]
      simp [hk]
    · rw [List.getElem?_eq_none (by simp; omega), List.getElem?_eq_none (by simp; omega)]
theorem getLastD_at {α : Type} {l : List α} {k : Nat} (hk : l.length = k + 1) (d : α) : l.getLastD d = l[k]'(by omega) := by
  rw [List.getLastD_eq_getLast?, List.getLast?_eq_getElem?, show l.length - 1 = k by omega, List.getElem?_eq_getElem (by omega)]; rfl
theorem setTx_twice (s : PEng) (t : Int) (o o' : Option PTx) : P.setTx (P.setTx s t o) t o' = P.setTx s t o' := by simp [P.setTx]
theorem EngPost.via {W1 W2 : World} {s' : PEng} (hd : Did W base ρ ρ W1) (h : EngPost W1 base ρ g s' W2) : EngPost W base ρ g s' W2 := by
  obtain ⟨ρ', cells', vs', he, hd2⟩ := h
  exact ⟨ρ', cells', vs', he, hd.trans hd2⟩
/-- The last part is dropped. -/
theorem EngAt.drop_part (h : EngAt W base ρ g s cells vs) {t gt : Nat} (ht : t < 8) (hc : cells[2 + t]? = some (.pointer (some ⟨gt, 0, none⟩))) {x : PTx} {rd lf : Value} {ms : List Nat} {A : Option Addr} {c k : Nat} (hk : ms.length = k + 1)
    (hx : TxAt W base ρ t gt x rd (.slice A (k + 1) c) lf ms) :
    EngAt (W.setCell ⟨gt, 3, none⟩ (.slice A k c)) base ρ g (P.setTx s (t : Int) (some { x with parts := x.parts.dropLast })) cells vs ∧ TxAt (W.setCell ⟨gt, 3, none⟩ (.slice A k c)) base ρ t gt { x with parts := x.parts.dropLast } rd (.slice A k c) lf (ms.take k) ∧ Did W base ρ ρ (W.setCell ⟨gt, 3, none⟩ (.slice A k c)) := by
  have hgt := h.own gt (by rw [hx.role]; unfold rl; omega)
  have hset : ∀ i, i ≠ gt → (W.setCell ⟨gt, 3, none⟩ (.slice A k c)).heap[i]? = W.heap[i]? := fun i hi => Below.heap_setCell W ⟨gt, 3, none⟩ _ i hi
  have mv : ∀ j, j ≠ 0 → ∀ i, ρ i = rl t j → (W.setCell ⟨gt, 3, none⟩ (.slice A k c)).heap[i]? = W.heap[i]? := fun j h0 i hi => hset i (fun e => h0 (rl_inj (t := t) (by rw [← hi, e, hx.role])))
  have hxl : x.parts.length = k + 1 := by rw [← hx.maps.len, hk]
  have hx' : TxAt (W.setCell ⟨gt, 3, none⟩ (.slice A k c)) base ρ t gt { x with parts := x.parts.dropLast } rd (.slice A k c) lf (ms.take k) := by
    refine ⟨hx.role, hx.ge, blk_set hx.blk 3 _, N_flat_move kI_flat hx.reads fun i hi => mv 1 (by omega) i (hx.reads.1 i hi), ?_, V_move hx.left (fun _ hi => hi) (fun i hi _ => mv 3 (by omega) i hi), ⟨?_, hx.maps.nd.sublist (List.take_sublist _ _), fun i m p hm hp => ?_⟩⟩
    · have hN := Kd.N_take hx.parts (m := k) (by omega)
      exact N_flat_move kP_flat hN fun i hi => mv 2 (by omega) i (hN.1 i hi)
    · simp [hk, hxl]
    · rw [List.getElem?_take] at hm
      split at hm
      · change x.parts.dropLast[i]? = some p at hp
        rw [List.getElem?_dropLast] at hp
        split at hp
        · obtain ⟨a, b, d⟩ := hx.maps.at_ i m p hm hp
          exact ⟨a, b, d.move (mv 4 (by omega) m b)⟩
        · cases hp
      · cases hm
  have hown : ∀ i, ρ i ≠ 0 → base ≤ i ∧ i < (W.setCell ⟨gt, 3, none⟩ (.slice A k c)).heap.size := fun i hi => by rw [setCell_size]; exact h.own i hi
  have h1 := h.setTx ht (p' := .pointer (some ⟨gt, 0, none⟩)) (o := some { x with parts := x.parts.dropLast }) (fun _ _ => rfl) hown (by
    rw [set_same hc, hset g (fun e => by have h1 := h.role; rw [e, hx.role] at h1; unfold rl at h1; omega)]; exact h.blk) (fun i _ _ hi => hset i (fun e => hi (by rw [e, hx.role]; exact rl_tx t 0 (by omega)))) ⟨gt, rd, _, lf, _, rfl, hx'⟩
  rw [set_same hc] at h1
  exact ⟨h1, hx', fun _ _ => rfl, (Kept.refl W _).setCell (.inl (by show ρ gt ≠ 0; rw [hx.role]; unfold rl; omega)) _, (Below.refl _ W).setCell (p := ⟨gt, 3, none⟩) hx.ge _⟩
set_option maxHeartbeats 8000000 in
set_option maxRecDepth 100000 in
theorem shut_calls (h : EngAt W base ρ g s cells vs) (t : Int) (keep : Bool) (hp : ∀ x, openE s t = some x → x.parts.length ≤ 100000 ∧ ∀ p ∈ x.parts, p.length ≤ 100000) :
    Calls Try.prog 42 #[.pointer (some ⟨g, 0, none⟩), .int .i64 t, .bool keep] W fun e w' => e = .returned (.int .i64 (shutE s t keep).1) ∧ EngPost W base ρ g (shutE s t keep).2 w' := by
  have HO := Aside0.mk (show shutE s t keep = match openE s t with
    | none => (1, s)
    | some x =>
      if x.parts.length < 2 then (1, s) else
      let p := x.parts.getLastD []
      let r := x.parts.dropLast
      (0, setTx s t (some { x with parts := if keep then r.dropLast ++ [copyM (r.getLastD []) p] else r })) from rfl)
  have HH := Aside0.mk h
  have HP := Aside0.mk hp
  have hof := open_calls h t
  clear h hp
  go_enter Try.func42, Try.ntmps42
  go_wp2_with fail
  refine hof.mono ?_; rintro e w' ⟨⟨p, rfl, hp⟩, rfl⟩
  clear hof
  rcases hp.form with ⟨e0, rfl⟩ | ⟨x, tn, gt, rd, pa, lf, ms, e0, rfl, ht, rfl, hcc, hx⟩
  · have HE := Aside0.mk (show shutE s t keep = (1, s) by rw [HO.out, e0])
    clear hp e0 HO
    go_wp2
    go_ret
    rw [HE.out]
    exact ⟨rfl, ρ, _, _, HH.out, Did.refl⟩
  · have HPX := Aside0.mk (HP.out x e0)
    obtain ⟨A, c, rfl⟩ := Kd.N_slice hx.parts
    have hcap := (Kd.N_reads' hx.parts).2.1
    have k3 := blk_cell hx.blk 3
    have f3 := blk_frozen hx.blk 3
    have HX := Aside0.mk hx
    have hml : ms.length ≤ 100000 := by rw [hx.maps.len]; exact HPX.out.1
    by_cases h2 : ms.length < 2
    · have HE := Aside0.mk (show shutE s tn keep = (1, s) by rw [HO.out, e0]; show (if x.parts.length < 2 then _ else _) = _; rw [if_pos (by rw [← hx.maps.len]; exact h2)])
      have h2z : (ms.length : Int) < 2 := by omega
      clear hp e0 HO hx
      go_wp2
      go_ret
      rw [HE.out]
      exact ⟨rfl, ρ, _, _, HH.out, Did.refl⟩
    · obtain ⟨k, hk⟩ : ∃ k, ms.length = k + 1 + 1 := ⟨ms.length - 2, by omega⟩
      have hlc := last_calls hx hk (by omega)
      have hxl : x.parts.length = k + 1 + 1 := by rw [← hx.maps.len, hk]
      have HMR := Aside0.mk (hx.maps.at_ (k + 1) _ _ (List.getElem?_eq_getElem (by omega)) (List.getElem?_eq_getElem (by omega))).2.1
      have hma := (hx.maps.at_ (k + 1) _ _ (List.getElem?_eq_getElem (by omega)) (List.getElem?_eq_getElem (by omega))).2.2
      have hlast : x.parts.getLastD [] = x.parts[k + 1]'(by omega) := by
        rw [List.getLastD_eq_getLast?, List.getLast?_eq_getElem?, show x.parts.length - 1 = k + 1 by omega, List.getElem?_eq_getElem (by omega)]; rfl
      have HE := Aside0.mk (show shutE s tn keep = (0, setTx s tn (some { x with parts := if keep then x.parts.dropLast.dropLast ++ [copyM (x.parts.dropLast.getLastD []) (x.parts[k + 1]'(by omega))] else x.parts.dropLast })) by rw [HO.out, e0]; show (if x.parts.length < 2 then _ else _) = _; rw [if_neg (by omega), hlast])
      have hpm := HPX.out.2 (x.parts[k + 1]'(by omega)) (List.getElem_mem _)
      have HND := Aside0.mk hx.maps.nd
      have HMK := Aside0.mk (show ms[k + 1]? = some (ms[k + 1]'(by omega)) from List.getElem?_eq_getElem (by omega))
      have hA : A = some ⟨(A.getD ⟨0, 0, none⟩).block, 0, none⟩ := by
        obtain ⟨gv, cap, e, _⟩ := Kd.N_form hx.parts (by omega)
        cases e; rfl
      generalize (A.getD ⟨0, 0, none⟩).block = gv at hA
      subst hA
      generalize x.parts[k + 1]'(by omega) = pk at *
      generalize ms[k + 1]'(by omega) = mk at *
      have HK := Aside0.mk hk
      have HKX := Aside0.mk hxl
      generalize hn : ms.length = n at *
      subst hk
      have HNK := Aside0.mk hn
      clear hn
      have h2z : ¬ ((k : Int) + 1 + 1 < 2) := by omega
      have hw : IntKind.i64.wrap ((k : Int) + 1) = (k : Int) + 1 := IntWalk.i64_in _ (by omega)
      have q0 : (0 : Int) ≤ (k : Int) + 1 := by omega
      have q1 : (k : Int) + 1 ≤ (c : Int) := by omega
      clear hp e0 HO hx hlast hxl h2 HP
      go_wp2_with fail
      refine hlc.mono ?_; rintro e w1 ⟨rfl, hB1⟩
      have k31 := (hB1.cell (p := ⟨gt, 3, none⟩) (HH.out.own gt (by rw [HX.out.role]; unfold rl; omega)).2).trans k3
      have f31 := (hB1.frozen (p := ⟨gt, 3, none⟩) (HH.out.own gt (by rw [HX.out.role]; unfold rl; omega)).2).trans f3
      have HB1 := Aside0.mk hB1
      clear hlc hB1 k3 f3
      go_wp2_with fail
      go_region_law (fail)
      all_goals
        have hE1 := HH.out.below HB1.out
        have hX1 := HX.out.below HH.out HB1.out
        obtain ⟨hE2, hX2, hd2⟩ := hE1.drop_part ht hcc HNK.out hX1
        obtain ⟨w2, hw2⟩ : ∃ w2, (w1.setCell ⟨gt, 3, none⟩ (.slice (some ⟨gv, 0, none⟩) (k + 1) c)).drew = w2 := ⟨_, rfl⟩
        have hBd : Below (w1.setCell ⟨gt, 3, none⟩ (.slice (some ⟨gv, 0, none⟩) (k + 1) c)).heap.size (w1.setCell ⟨gt, 3, none⟩ (.slice (some ⟨gv, 0, none⟩) (k + 1) c)) w2 := by rw [← hw2]; exact below_drew (Below.refl _ _)
        have HE2 := Aside0.mk (hE2.below hBd)
        have HX2 := Aside0.mk (hX2.below hE2 hBd)
        have HD2 := Aside0.mk ((Did.of_below HB1.out HH.out.base_le).trans (hd2.trans (Did.of_below hBd hE2.base_le)))
        have hm2 : MapAt w2 mk pk := by
          have hne : mk ≠ gt := fun e => by have h1 := HMR.out; rw [e, HX.out.role] at h1; unfold rl at h1; omega
          rw [← hw2]
          exact (hma.move (HB1.out.block _ hma.lt)).move (show (w1.setCell ⟨gt, 3, none⟩ (.slice (some ⟨gv, 0, none⟩) (k + 1) c)).heap[mk]? = w1.heap[mk]? from Below.heap_setCell w1 ⟨gt, 3, none⟩ _ mk hne)
        rw [hw2]
        clear hE1 hX1 hE2 hX2 hd2 hBd hw2 k31 f31
        cases keep with
        | false =>
          go_wp2
          go_ret
          rw [HE.out]
          exact ⟨rfl, ρ, _, _, HE2.out, HD2.out⟩
        | true =>
          have hlk : (ms.take (k + 1)).length = k + 1 := by simp [HNK.out]
          have hlc2 := last_calls HX2.out (k := k) hlk (by omega)
          have hxd : x.parts.dropLast.length = k + 1 := by simp [HKX.out]
          have hbi : (ms.take (k + 1))[k]? = some ((ms.take (k + 1))[k]'(by omega)) := List.getElem?_eq_getElem (by omega)
          have hbp := (HX2.out.maps.at_ k _ _ hbi (show x.parts.dropLast[k]? = some (x.parts.dropLast[k]'(by omega)) from List.getElem?_eq_getElem (by omega))).2.2
          have hpb := HPX.out.2 (x.parts.dropLast[k]'(by omega)) (List.dropLast_subset _ (List.getElem_mem _))
          have HEP := Aside0.mk (show shutE s tn true = (0, setTx (setTx s tn (some { x with parts := x.parts.dropLast })) tn (some { x with parts := x.parts.dropLast.set k (copyM (x.parts.dropLast[k]'(by omega)) pk) })) by
            rw [HE.out, setTx_twice, dropLast_set hxd, getLastD_at hxd]; rfl)
          have hne : (ms.take (k + 1))[k]'(by omega) ≠ mk := fun e => by
            have h1 : ms[k]'(by have := HNK.out; omega) = ms[k + 1]'(by have := HNK.out; omega) := by
              have h2 := HMK.out
              rw [List.getElem?_eq_getElem (by have := HNK.out; omega)] at h2
              rw [List.getElem_take] at e
              rw [e, Option.some.inj h2]
            exact absurd h1 (List.pairwise_iff_getElem.1 HND.out k (k + 1) _ _ (by omega))
          have HBI := Aside0.mk hbi
          generalize x.parts.dropLast[k]'(by omega) = pb at *
          generalize (ms.take (k + 1))[k]'(by omega) = bp at *
          clear hbi
          go_wp2_with fail
          refine hlc2.mono ?_; rintro e w3 ⟨rfl, hB3⟩
          have hcp := copy_calls (hbp.move (hB3.block _ hbp.lt)) (hm2.move (hB3.block _ hm2.lt)) hne (by omega)
          have HB3 := Aside0.mk hB3
          clear hlc2 hB3
          go_wp2_with fail
          refine hcp.mono ?_; rintro e w4 ⟨⟨v, rfl⟩, hm4, hg4⟩
          have HM4 := Aside0.mk hm4
          have HG4 := Aside0.mk hg4
          clear hcp hm4 hg4
          go_wp2
          go_ret
          rw [HEP.out]
          exact ⟨rfl, EngPost.via HD2.out (EngPost.after HB3.out HE2.out.base_le ((HE2.out.below HB3.out).map_turn ht hcc (HX2.out.below HE2.out HB3.out) HBI.out HM4.out HG4.out))⟩
set_option maxHeartbeats 4000000 in
theorem join_calls (h : EngAt W base ρ g s cells vs) (t : Int) (hp : ∀ x, openE s t = some x → x.parts.length ≤ 100000 ∧ ∀ p ∈ x.parts, p.length ≤ 100000) :
    Calls Try.prog 14 #[.pointer (some ⟨g, 0, none⟩), .int .i64 t] W fun e w' => e = .returned (.int .i64 (shutE s t true).1) ∧ EngPost W base ρ g (shutE s t true).2 w' := by
  have hs := shut_calls h t true hp
  clear h
  go_enter Try.func14, Try.ntmps14
  go_wp2_with fail
  refine hs.mono ?_; rintro e w' ⟨rfl, hE⟩
  have HE := Aside0.mk hE
  clear hs hE
  go_wp2
  go_ret
  exact ⟨rfl, HE.out⟩
set_option maxHeartbeats 4000000 in
theorem undo_calls (h : EngAt W base ρ g s cells vs) (t : Int) (hp : ∀ x, openE s t = some x → x.parts.length ≤ 100000 ∧ ∀ p ∈ x.parts, p.length ≤ 100000) :
    Calls Try.prog 15 #[.pointer (some ⟨g, 0, none⟩), .int .i64 t] W fun e w' => e = .returned (.int .i64 (shutE s t false).1) ∧ EngPost W base ρ g (shutE s t false).2 w' := by
  have hs := shut_calls h t false hp
  clear h
  go_enter Try.func15, Try.ntmps15
  go_wp2_with fail
  refine hs.mono ?_; rintro e w' ⟨rfl, hE⟩
  have HE := Aside0.mk hE
  clear hs hE
  go_wp2
  go_ret
  exact ⟨rfl, HE.out⟩
end
end Go.Proofs.Ytcnbgamalhfkmaa.P
namespace Go.Proofs.Ytcnbgamalhfkmaa.P
open Go.RowKit Go.Proofs.YtcnbgamalhfkmaaW.PrintWords Go.Proofs.YtcnbgamalhfkmaaW.PrintLast Go.Proofs.YtcnbgamalhfkmaaW.PrintMore
set_option linter.unusedVariables false
set_option linter.unusedSimpArgs false
open Go.WideShapes Go.Maps Go.Shelf
section
variable {W : World} {base : Nat} {ρ : Nat → Nat} {g : Nat} {s : PEng} {cells : Array Value} {vs : Value}
set_option maxHeartbeats 4000000 in
set_option maxRecDepth 100000 in
theorem valid_calls (h : EngAt W base ρ g s cells vs) {t gt : Nat} {x : PTx} {rd pa lf : Value} {ms : List Nat} (hx : TxAt W base ρ t gt x rd pa lf ms) (hr : ∀ n ∈ x.reads, isE s n = true) (hl : x.reads.length ≤ 100000) :
    Calls Try.prog 56 #[.pointer (some ⟨g, 0, none⟩), .int .i64 t, .pointer (some ⟨gt, 0, none⟩)] W fun e w' => e = .returned (.int .i64 (validL s t x.start x.reads)) ∧ Below W.heap.size W w' := by
  obtain ⟨A, c, rfl⟩ := Kd.N_slice hx.reads
  have k2 := blk_cell hx.blk 2
  have HX := Aside0.mk hx
  have HH := Aside0.mk h
  have HR := Aside0.mk hr
  have hgt := (h.own gt (by rw [hx.role]; unfold rl; omega)).2
  have HGT := Aside0.mk hgt
  clear hx h hr hgt
  go_enter Try.func56, Try.ntmps56
  go_wp2
  go_loopg [8, 9, 15] x.reads.length (fun gg _ _ s15 wr => ∃ i : Nat, i ≤ x.reads.length ∧ x.reads.length - i ≤ gg ∧ s15 = .int .i64 i ∧ Aside0 (Below W.heap.size W wr) ∧ Aside0 (validL s t x.start (x.reads.drop i) = validL s t x.start x.reads))
  case atStart => exact ⟨0, Nat.zero_le _, by omega, rfl, ⟨Below.refl _ W⟩, ⟨rfl⟩⟩
  case round =>
    obtain ⟨i, hi, hg, rfl, BW, AA⟩ := hrel
    by_cases hlt : i < x.reads.length
    · have hltz : (i : Int) < (x.reads.length : Int) := by omega
      obtain ⟨gv, cap', e, hcap, c0⟩ := rowI_at (Kd.N_below HX.out.reads BW.out) hlt
      cases e
      have hin := isE_iff.1 (HR.out _ (List.getElem_mem hlt))
      have hdr : x.reads.drop i = x.reads[i] :: x.reads.drop (i + 1) := List.drop_eq_getElem_cons hlt
      have hA := AA.out
      rw [hdr] at hA
      have HA := Aside0.mk (show (if lookE s t x.start x.reads[i] != 0 then lookE s t x.start x.reads[i] else validL s t x.start (x.reads.drop (i + 1))) = validL s t x.start x.reads from hA)
      clear hA hdr AA
      generalize x.reads[i] = n at *
      obtain ⟨m, rfl⟩ : ∃ m : Nat, n = m := ⟨n.toNat, by omega⟩
      have hm : m < s.vars.length := by omega
      have hXr := HX.out.below HH.out BW.out
      have hlk := look_calls (HH.out.below BW.out) t (blk_cell hXr.blk 0) (Nat.lt_of_lt_of_le HGT.out BW.out.size) hm
      generalize hf : lookE s t x.start m = f at *
      clear hXr hf hin
      go_wp2_with fail
      refine hlk.mono ?_; rintro e w' ⟨rfl, hb'⟩
      have HB := Aside0.mk hb'
      clear hlk hb' c0
      by_cases hf0 : f = 0
      · subst hf0
        go_wp2
        go_roundg (x.reads.length - (i + 1))
        case measure => omega
        case rel => exact ⟨i + 1, by omega, by omega, by go_num, ⟨BW.out.trans (HB.out.mono BW.out.size)⟩, ⟨HA.out⟩⟩
      · have HF := Aside0.mk (show f = validL s t x.start x.reads by rw [← HA.out, if_pos (by simpa using hf0)])
        clear HA
        go_wp2
        go_ret
        exact ⟨by rw [← HF.out]; rfl, BW.out.trans (HB.out.mono BW.out.size)⟩
    · have hltz : ¬ (i : Int) < (x.reads.length : Int) := by omega
      have HA := Aside0.mk (show validL s t x.start x.reads = 0 by rw [← AA.out, List.drop_eq_nil_of_le (by omega)]; rfl)
      go_wp2
      go_ret
      exact ⟨by rw [HA.out]; rfl, BW.out⟩
set_option maxHeartbeats 4000000 in
theorem Valid_calls (h : EngAt W base ρ g s cells vs) (t : Int) (hr : ∀ x, openE s t = some x → (∀ n ∈ x.reads, isE s n = true) ∧ x.reads.length ≤ 100000) :
    Calls Try.prog 51 #[.pointer (some ⟨g, 0, none⟩), .int .i64 t] W fun e w' => e = .returned (.int .i64 (validE s t)) ∧ Below W.heap.size W w' := by
  have HO := Aside0.mk (show validE s t = match openE s t with | none => 1 | some x => validL s t x.start x.reads from rfl)
  have HH := Aside0.mk h
  have HR := Aside0.mk hr
  have hof := open_calls h t
  clear h hr
  go_enter Try.func51, Try.ntmps51
  go_wp2_with fail
  refine hof.mono ?_; rintro e w' ⟨⟨p, rfl, hp⟩, rfl⟩
  clear hof
  rcases hp.form with ⟨e0, rfl⟩ | ⟨x, tn, gt, rd, pa, lf, ms, e0, rfl, ht, rfl, hcc, hx⟩
  · have HE := Aside0.mk (show validE s t = 1 by rw [HO.out, e0])
    clear hp e0 HO
    go_wp2
    go_ret
    exact ⟨by rw [HE.out]; rfl, Below.refl _ _⟩
  · have hvc := valid_calls HH.out hx (HR.out x e0).1 (HR.out x e0).2
    have HE := Aside0.mk (show validE s tn = validL s tn x.start x.reads by rw [HO.out, e0])
    clear hp e0 HO hx
    go_wp2_with fail
    refine hvc.mono ?_; rintro e w' ⟨rfl, hb⟩
    have HB := Aside0.mk hb
    clear hvc hb
    go_wp2
    go_ret
    exact ⟨by rw [HE.out]; rfl, HB.out⟩
end
end Go.Proofs.Ytcnbgamalhfkmaa.P
namespace Go.Proofs.Ytcnbgamalhfkmaa.P
open Go.RowKit Go.Proofs.YtcnbgamalhfkmaaW.PrintWords Go.Proofs.YtcnbgamalhfkmaaW.PrintLast Go.Proofs.YtcnbgamalhfkmaaW.PrintMore
set_option linter.unusedVariables false
set_option linter.unusedSimpArgs false
open Go.WideShapes Go.Maps Go.Shelf
section
variable {W : World} {base : Nat} {ρ : Nat → Nat} {g : Nat} {s : PEng} {cells : Array Value} {vs : Value}
theorem grown_below {W W' : World} {base m : Nat} (hg : W.grownBy W' (some m)) (hm : base ≤ m) (hb : base ≤ W.heap.size) : Below base W W' :=
  ⟨hg.os, hg.tape, hg.output, hg.size, fun k hk => hg.block k (by omega) (fun e => by injection e with e; omega)⟩
/-- Cells of one var are written. -/
theorem EngAt.set_var (h : EngAt W base ρ g s cells vs) {gv cap i j : Nat} {seg : List Value} (hv : vs = .slice (some ⟨gv, 0, none⟩) s.vars.length cap) (hi : i < s.vars.length) (hj : j + seg.length ≤ 3) (v' : PVar)
    (hM : ([.int .i64 (varE s i).value, .int .i64 (varE s i).version, .int .i64 (varE s i).lock] : List Value).take j ++ seg ++ ([.int .i64 (varE s i).value, .int .i64 (varE s i).version, .int .i64 (varE s i).lock] : List Value).drop (j + seg.length) = [.int .i64 v'.value, .int .i64 v'.version, .int .i64 v'.lock]) :
    EngAt (W.setCells gv (i * 3 + j) seg) base ρ g (P.setVar s (i : Int) v') cells vs ∧ Did W base ρ ρ (W.setCells gv (i * 3 + j) seg) := by
  obtain ⟨gv', cap', e1, hcap, c0, c1, c2, _⟩ := rowV_at h.vars hi
  have hN := h.vars
  rw [hv] at hN
  have e2 := e1.symm.trans hv
  injection e2 with e3 e4 e5
  injection e3 with e3
  injection e3 with e3
  subst e3 e5
  rw [varE_at hi] at hM
  obtain ⟨h1, h2⟩ := Kd.N_seg (d := kV) hN (i : Int) (by omega) (by omega) (c := [.int .i64 s.vars[i].value, .int .i64 s.vars[i].version, .int .i64 s.vars[i].lock]) (seg := seg) (j := j) (okp := fun _ => False) (x' := v') rfl
    (fun q u hq => by
      rw [Int.toNat_natCast, show kV.sz = 3 from rfl]
      match q, hq with
      | 0, hq => obtain rfl := Option.some.inj hq; exact c0
      | 1, hq => obtain rfl := Option.some.inj hq; exact c1
      | 2, hq => obtain rfl := Option.some.inj hq; exact c2) hj (fun W' _ => by rw [hM]; exact kV_mk W' v') (fun _ hk => hk.elim)
  rw [Int.toNat_natCast, show kV.sz = 3 from rfl] at h1 h2
  have hgv : ρ gv' = 2 := hN.1 gv' rfl
  have hgb := h.own gv' (by omega)
  have hne : ∀ k, ρ k ≠ 2 → k < W.heap.size → (W.setCells gv' (i * 3 + j) seg).heap[k]? = W.heap[k]? := fun k hk hl => h2.block k hl (fun e => by injection e with e; subst e; omega)
  have h3 := h.setVars (W' := W.setCells gv' (i * 3 + j) seg) (ρ' := ρ) (vs' := vs) (vars' := s.vars.set i v') (fun _ _ => rfl) (fun k hk => ⟨(h.own k hk).1, Nat.lt_of_lt_of_le (h.own k hk).2 h2.size⟩)
    (by rw [set_same h.cv, hne g (by rw [h.role]; omega) h.g_lt.2]; exact h.blk) (fun k h0 _ h2' => hne k h2' (h.own k h0).2) (by rw [hv]; exact h1)
  rw [set_same h.cv] at h3
  refine ⟨by rw [show P.setVar s (i : Int) v' = { s with vars := s.vars.set i v' } from by simp [P.setVar]]; exact h3, fun _ _ => rfl, Kept.of_grown h2 (Kept.refl W _) (fun k e => .inl (by injection e with e; subst e; omega)), grown_below h2 hgb.1 h.base_le⟩
/-- A transaction whose block was written. -/
theorem TxAt.turn {W' : World} {t gt : Nat} {x x' : PTx} {rd pa lf lf' : Value} {ms : List Nat} (hx : TxAt W base ρ t gt x rd pa lf ms) (hh : ∀ i, i ≠ gt → W'.heap[i]? = W.heap[i]?)
    (hb : W'.heap[gt]? = some (.cells #[.int .i64 x'.start, .int .i64 x'.stamp, rd, pa, .bool x'.commits, .bool x'.pointed, lf'] 81 (0, 0))) (e1 : x'.reads = x.reads) (e2 : x'.parts = x.parts) (hlf : Kd.V kI 3 W' base (fun k => ρ k = rl t 3) lf' x'.left) : TxAt W' base ρ t gt x' rd pa lf' ms := by
  have mv : ∀ j, j ≠ 0 → ∀ i, ρ i = rl t j → W'.heap[i]? = W.heap[i]? := fun j h0 i hi => hh i (fun e => h0 (rl_inj (t := t) (by rw [← hi, e, hx.role])))
  exact ⟨hx.role, hx.ge, hb, by rw [e1]; exact N_flat_move kI_flat hx.reads fun i hi => mv 1 (by omega) i (hx.reads.1 i hi), N_flat_move kP_flat hx.parts fun i hi => mv 2 (by omega) i (hx.parts.1 i hi), hlf,
    by rw [e2]; exact hx.maps.move (fun _ hk => hk) (fun k hk => mv 4 (by omega) k hk)⟩
/-- .. and the engine with it. -/
theorem EngAt.at_tx (h : EngAt W base ρ g s cells vs) {W' : World} {t gt : Nat} (ht : t < 8) (hc : cells[2 + t]? = some (.pointer (some ⟨gt, 0, none⟩))) (hrole : ρ gt = rl t 0) (hgt : base ≤ gt) {x' : PTx} {rd pa lf : Value} {ms : List Nat} (hg : W.grownBy W' (some gt)) (hx' : TxAt W' base ρ t gt x' rd pa lf ms) :
    EngAt W' base ρ g (P.setTx s (t : Int) (some x')) cells vs ∧ Did W base ρ ρ W' := by
  have hh : ∀ i, i < W.heap.size → i ≠ gt → W'.heap[i]? = W.heap[i]? := fun i hl hi => hg.block i hl (fun e => hi (by injection e))
  have hown : ∀ i, ρ i ≠ 0 → base ≤ i ∧ i < W'.heap.size := fun i hi => ⟨(h.own i hi).1, Nat.lt_of_lt_of_le (h.own i hi).2 hg.size⟩
  have h1 := h.setTx ht (p' := .pointer (some ⟨gt, 0, none⟩)) (o := some x') (fun _ _ => rfl) hown (by
    rw [set_same hc, hh g h.g_lt.2 (fun e => by have h1 := h.role; rw [e, hrole] at h1; unfold rl at h1; omega)]; exact h.blk) (fun i h0 _ hi => hh i (h.own i h0).2 (fun e => hi (by rw [e, hrole]; exact rl_tx t 0 (by omega)))) ⟨gt, rd, _, lf, _, rfl, hx'⟩
  rw [set_same hc] at h1
  exact ⟨h1, fun _ _ => rfl, Kept.of_grown hg (Kept.refl W _) (fun k e => .inl (by injection e with e; subst e; rw [hrole]; unfold rl; omega)), grown_below hg hgt h.base_le⟩
/-- The thread has no transaction any more. -/
theorem EngAt.nil_tx (h : EngAt W base ρ g s cells vs) {t : Nat} (ht : t < 8) : EngAt (W.setCell ⟨g, 2 + t, none⟩ (.pointer none)) base ρ g (P.setTx s (t : Int) none) (cells.setIfInBounds (2 + t) (.pointer none)) vs ∧ Did W base ρ ρ (W.setCell ⟨g, 2 + t, none⟩ (.pointer none)) := by
  have hset : ∀ i, i ≠ g → (W.setCell ⟨g, 2 + t, none⟩ (.pointer none)).heap[i]? = W.heap[i]? := fun i hi => Below.heap_setCell W ⟨g, 2 + t, none⟩ _ i hi
  exact ⟨h.setTx ht (p' := .pointer none) (o := none) (fun _ _ => rfl) (fun i hi => by rw [setCell_size]; exact h.own i hi) (blk_set h.blk _ _) (fun i _ h1 _ => hset i (fun e => h1 (by rw [e, h.role]))) rfl,
    fun _ _ => rfl, (Kept.refl W _).setCell (.inl (by show ρ g ≠ 0; rw [h.role]; omega)) _, (Below.refl _ W).setCell (p := ⟨g, 2 + t, none⟩) (h.own g (by rw [h.role]; omega)).1 _⟩
/-- The rest of the left. -/
theorem V_rest {w : World} {ok : Nat → Prop} {ad : Addr} {c n : Nat} {l : List Int} (h : Kd.V kI 3 w base ok (.slice (some ad) (l.length + 1) c) (n :: l)) : Kd.V kI 3 w base ok (.slice (if c = 1 then some ad else some (ad.add 1)) l.length (c - 1)) l := by
  obtain ⟨h1, h2, hF⟩ := Kd.V_at h
  have h3 := Kd.F_cut (m := 1) (c := c) hF (by simp) h2
  rw [List.drop_one, List.tail_cons] at h3
  have e : (if c = 1 then (some ad : Option Addr) else Option.map (fun x => x.add (1 * kI.sz)) (some ad)) = if c = 1 then some ad else some (ad.add 1) := by
    split <;> rfl
  rw [e] at h3
  exact ⟨_, c - 1, rfl, by have h2a : l.length + 1 ≤ c := h2; omega, h3⟩
end
end Go.Proofs.Ytcnbgamalhfkmaa.P
