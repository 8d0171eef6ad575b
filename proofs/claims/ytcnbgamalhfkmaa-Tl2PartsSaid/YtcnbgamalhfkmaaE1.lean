/- tl2: one transaction turns; Write, Part. -/
import Derived.Test.YtcnbgamalhfkmaaD1
namespace Go.Proofs.Ytcnbgamalhfkmaa.P
open Go.RowKit Go.Proofs.YtcnbgamalhfkmaaW.PrintWords Go.Proofs.YtcnbgamalhfkmaaW.PrintLast Go.Proofs.YtcnbgamalhfkmaaW.PrintMore
set_option linter.unusedVariables false
set_option linter.unusedSimpArgs false
open Go.WideShapes Go.Maps
section
variable {W : World} {base : Nat} {ρ : Nat → Nat} {g : Nat} {s : PEng} {cells : Array Value} {vs : Value}
theorem set_same {cells : Array Value} {i : Nat} {p : Value} (h : cells[i]? = some p) : cells.setIfInBounds i p = cells := by
  apply Array.ext_getElem?
  intro j
  by_cases e : i = j
  · subst e
    rw [Array.getElem?_setIfInBounds_self_of_lt (Array.getElem?_eq_some_iff.1 h).1, h]
  · rw [Array.getElem?_setIfInBounds_ne e]
theorem EngAt.tx_turn (h : EngAt W base ρ g s cells vs) {t gt : Nat} (ht : t < 8) (hc : cells[2 + t]? = some (.pointer (some ⟨gt, 0, none⟩))) {W' : World} {ρ' : Nat → Nat} {x' : PTx} {rd pa lf : Value} {ms : List Nat}
    (hs : Same W ρ ρ') (hown : ∀ k, ρ' k ≠ 0 → base ≤ k ∧ k < W'.heap.size) (hh : ∀ k, ρ k ≠ 0 → ¬ isTx t (ρ k) → W'.heap[k]? = W.heap[k]?) (hx : TxAt W' base ρ' t gt x' rd pa lf ms)
    (hk : Kept W W' (fun k => ρ k ≠ 0)) (hb : Below base W W') : EngPost W base ρ g (P.setTx s (t : Int) (some x')) W' := by
  have h1 := h.setTx ht (p' := .pointer (some ⟨gt, 0, none⟩)) (o := some x') hs hown (by
    rw [set_same hc, hh g (by rw [h.role]; omega) (by rw [h.role]; unfold isTx; omega)]; exact h.blk) (fun k h0 _ h2 => hh k h0 h2) ⟨gt, rd, pa, lf, ms, rfl, hx⟩
  exact ⟨ρ', _, vs, h1, ⟨hs, hk, hb⟩⟩
theorem EngPost.after {W1 W2 : World} {s' : PEng} (hb : Below W.heap.size W W1) (hbase : base ≤ W.heap.size) (h : EngPost W1 base ρ g s' W2) : EngPost W base ρ g s' W2 := by
  obtain ⟨ρ', cells', vs', he, hd⟩ := h
  exact ⟨ρ', cells', vs', he, (Did.of_below hb hbase).trans hd⟩
theorem TxAt.below {W1 : World} {t gt : Nat} {x : PTx} {rd pa lf : Value} {ms : List Nat} (hx : TxAt W base ρ t gt x rd pa lf ms) (h : EngAt W base ρ g s cells vs) (hb : Below W.heap.size W W1) : TxAt W1 base ρ t gt x rd pa lf ms :=
  hx.move (fun _ _ => rfl) (fun k _ hk => hb.block k hk) (fun k hk => (h.own k (by unfold isTx at hk; omega)).2)
theorem rl_inj {t i j : Nat} (h : rl t i = rl t j) : i = j := by unfold rl at h; omega
/-- One of its maps turned. -/
theorem EngAt.map_turn (h : EngAt W base ρ g s cells vs) {t gt : Nat} (ht : t < 8) (hc : cells[2 + t]? = some (.pointer (some ⟨gt, 0, none⟩))) {x : PTx} {rd pa lf : Value} {ms : List Nat} (hx : TxAt W base ρ t gt x rd pa lf ms) {i m : Nat} (hi : ms[i]? = some m) {W' : World} {p' : Mp}
    (hm : MapAt W' m p') (hg : W.grownBy W' (some m)) : EngPost W base ρ g (P.setTx s (t : Int) (some { x with parts := x.parts.set i p' })) W' := by
  have hil : i < ms.length := (List.getElem?_eq_some_iff.1 hi).1
  have hip : i < x.parts.length := by rw [← hx.maps.len]; exact hil
  obtain ⟨hmb, hmr, hma⟩ := hx.maps.at_ i m _ hi (List.getElem?_eq_getElem hip)
  have hml := hma.lt
  have hne : ∀ k, k < W.heap.size → k ≠ m → W'.heap[k]? = W.heap[k]? := fun k hk e => hg.block k hk (fun e2 => e (by injection e2))
  have hj : ∀ j, j ≠ 4 → ∀ k, ρ k = rl t j → W'.heap[k]? = W.heap[k]? := fun j hj k hk => hne k (h.own k (by rw [hk]; unfold rl; omega)).2 (fun e => hj (rl_inj (t := t) (by rw [← hk, e, hmr])))
  have hb : Below base W W' := ⟨hg.os, hg.tape, hg.output, hg.size, fun k hk => hg.block k (by omega) (fun e => by injection e with e; omega)⟩
  refine h.tx_turn ht hc (fun _ _ => rfl) (fun k hk => ⟨(h.own k hk).1, Nat.lt_of_lt_of_le (h.own k hk).2 hg.size⟩) (fun k h0 h1 => hne k (h.own k h0).2 (fun e => h1 (by rw [e, hmr]; exact rl_tx t 4 (by omega))))
    (x' := { x with parts := x.parts.set i p' }) (rd := rd) (pa := pa) (lf := lf) (ms := ms) ⟨hx.role, hx.ge, (hj 0 (by omega) _ hx.role).trans hx.blk, N_flat_move kI_flat hx.reads fun k hk => hj 1 (by omega) k (hx.reads.1 k hk), N_flat_move kP_flat hx.parts fun k hk => hj 2 (by omega) k (hx.parts.1 k hk), V_move hx.left (fun _ hk => hk) (fun k hk _ => hj 3 (by omega) k hk), ⟨by simp [hx.maps.len], hx.maps.nd, fun j m' q hm' hq => ?_⟩⟩
    (Kept.of_grown hg (Kept.refl W _) (fun k e => .inl (by injection e with e; subst e; rw [hmr]; unfold rl; omega))) hb
  by_cases e : j = i
  · subst e
    rw [hi] at hm'
    injection hm' with hm'
    subst hm'
    have hq2 : q = p' := by
      change (x.parts.set j p')[j]? = some q at hq
      rw [List.getElem?_set_self hip] at hq
      exact (Option.some.inj hq).symm
    subst hq2
    exact ⟨hmb, hmr, hm⟩
  · change (x.parts.set i p')[j]? = some q at hq
    rw [List.getElem?_set_ne (Ne.symm e)] at hq
    obtain ⟨a, b, c⟩ := hx.maps.at_ j m' q hm' hq
    refine ⟨a, b, c.move (hne _ c.lt (fun e2 => e ?_))⟩
    subst e2
    have hjl := (List.getElem?_eq_some_iff.1 hm').1
    have h1 : ms[j] = ms[i] := by
      rw [List.getElem?_eq_getElem hjl] at hm'
      rw [List.getElem?_eq_getElem hil] at hi
      rw [Option.some.inj hm', Option.some.inj hi]
    rcases Nat.lt_trichotomy j i with hl | hl | hl
    · exact absurd h1 (List.pairwise_iff_getElem.1 hx.maps.nd j i hjl hil hl)
    · exact hl
    · exact absurd h1.symm (List.pairwise_iff_getElem.1 hx.maps.nd i j hil hjl hl)
theorem openE_some {t : Int} {x : PTx} (h : openE s t = some x) : ofE s t = some x ∧ x.commits = false := by
  unfold openE at h
  cases ho : ofE s t with
  | none => rw [ho] at h; cases h
  | some y =>
    rw [ho] at h
    simp only [Option.bind_some] at h
    cases hc : y.commits with
    | true => rw [hc] at h; simp at h
    | false => rw [hc] at h; simp at h; subst h; exact ⟨rfl, hc⟩
set_option maxHeartbeats 8000000 in
set_option maxRecDepth 100000 in
theorem write_calls (h : EngAt W base ρ g s cells vs) (t n v : Int) (hn : in64 n) (hv : in64 v) (hp : ∀ x, openE s t = some x → x.parts ≠ [] ∧ x.parts.length ≤ 100000 ∧ ∀ p ∈ x.parts, p.length ≤ 100000) :
    Calls Try.prog 13 #[.pointer (some ⟨g, 0, none⟩), .int .i64 t, .int .i64 n, .int .i64 v] W fun e w' => e = .returned (.int .i64 (writeE s t n v).1) ∧ EngPost W base ρ g (writeE s t n v).2 w' := by
  have HO := Aside0.mk (show writeE s t n v = match openE s t with | none => (1, s) | some x => if !isE s n then (1, s) else (0, setTx s t (some { x with parts := x.parts.dropLast ++ [putM (x.parts.getLastD []) n v] })) from rfl)
  have HH := Aside0.mk h
  have HP := Aside0.mk hp
  have hof := open_calls h t
  have his := is_calls h n
  clear h hp
  go_enter Try.func13, Try.ntmps13
  go_wp2_with fail
  refine hof.mono ?_; rintro e w' ⟨⟨p, rfl, hp⟩, rfl⟩
  clear hof
  rcases hp.form with ⟨e0, rfl⟩ | ⟨x, tn, gt, rd, pa, lf, ms, e0, rfl, ht, rfl, hcc, hx⟩
  · have HE := Aside0.mk (show writeE s t n v = (1, s) by rw [HO.out, e0])
    clear hp e0 HO his
    go_wp2
    go_ret
    rw [HE.out]
    exact ⟨rfl, ρ, _, _, HH.out, Did.refl⟩
  · go_wp2_with fail
    refine his.mono ?_; rintro e w' ⟨rfl, rfl⟩
    clear his
    cases hb : isE s n with
    | false =>
      have HE := Aside0.mk (show writeE s tn n v = (1, s) by rw [HO.out, e0, hb]; rfl)
      clear hp e0 HO
      go_wp2
      go_ret
      rw [HE.out]
      exact ⟨rfl, ρ, _, _, HH.out, Did.refl⟩
    | true =>
      obtain ⟨hp0, hp1, hp2⟩ := HP.out x e0
      obtain ⟨k, hk⟩ : ∃ k, x.parts.length = k + 1 := ⟨x.parts.length - 1, by have := List.length_pos_iff.2 hp0; omega⟩
      have hkm : ms.length = k + 1 := by rw [hx.maps.len, hk]
      have hlc := last_calls hx hkm (by omega)
      have hmk : ms[k]? = some (ms[k]'(by omega)) := List.getElem?_eq_getElem (by omega)
      have hpk : x.parts[k]? = some (x.parts[k]'(by omega)) := List.getElem?_eq_getElem (by omega)
      have hlast : x.parts.getLastD [] = x.parts[k]'(by omega) := by
        rw [List.getLastD_eq_getLast?, List.getLast?_eq_getElem?, show x.parts.length - 1 = k by omega, hpk]; rfl
      have hdrop : x.parts.dropLast ++ [putM (x.parts.getLastD []) n v] = x.parts.set k (putM (x.parts[k]'(by omega)) n v) := by
        rw [hlast]
        apply List.ext_getElem?
        intro j
        by_cases hj : j < k
        · rw [List.getElem?_append_left (by simp; omega), List.getElem?_dropLast, if_pos (by omega), List.getElem?_set_ne (by omega)]
        · rw [List.getElem?_append_right (by simp; omega)]
          by_cases hj2 : j = k
          · subst hj2
            rw [List.getElem?_set_self (by omega)]
            simp [hk]
          · rw [List.getElem?_eq_none (by simp; omega), List.getElem?_eq_none (by simp; omega)]
      obtain ⟨_, _, hma⟩ := hx.maps.at_ k _ _ hmk hpk
      have hpl := hp2 _ (List.getElem_mem (l := x.parts) (n := k) (by omega))
      have HE := Aside0.mk (show writeE s tn n v = (0, setTx s tn (some { x with parts := x.parts.set k (putM (x.parts[k]'(by omega)) n v) })) by rw [HO.out, e0, hb, ← hdrop]; rfl)
      have HX := Aside0.mk hx
      have HM := Aside0.mk hmk
      generalize x.parts[k]'(by omega) = pk at *
      generalize ms[k]'(by omega) = mk at *
      clear hp e0 HO hb hlast hdrop hp0 hp1 hp2 hpk hk hkm hx hmk
      go_wp2_with fail
      refine hlc.mono ?_; rintro e w1 ⟨rfl, hB1⟩
      have hm1 := hma.move (hB1.block _ hma.lt)
      have HB := Aside0.mk hB1
      clear hlc hma hB1
      go_wp2_with (at_mapUpdate; refine wpList_mapUpdate_own _ rfl _ _ _ 78 rfl 3 3 lawM Try.underlying78 _ mk pk.length _ rfl hm1 (by unfold maxLen; omega) _ _ _ rfl rfl (key_in hn) _ [] (plainElem_int Try.underlying3 (in64_wf hv)) ?_; intro w2 hown2 hgrow2; have HW2 := Aside0.mk hown2; have HG2 := Aside0.mk hgrow2; clear hown2 hgrow2 hm1)
      go_ret
      rw [HE.out]
      have hmt : MapAt w2 mk (putM pk n v) := MapAt.of (n := pk.length + 1) (by rw [← put_toD]; exact HW2.out)
      exact ⟨rfl, EngPost.after HB.out HH.out.base_le ((HH.out.below HB.out).map_turn ht hcc (HX.out.below HH.out HB.out) HM.out hmt HG2.out)⟩
/-- A part more. -/
theorem EngAt.push_part (h : EngAt W base ρ g s cells vs) {t gt : Nat} (ht : t < 8) (hc : cells[2 + t]? = some (.pointer (some ⟨gt, 0, none⟩))) {x : PTx} {rd pa lf : Value} {ms : List Nat} (hx : TxAt W base ρ t gt x rd pa lf ms) {w1 : World} {v1 : Value}
    (hN : Kd.N kP 78 w1 base (fun _ => True) v1 (ms ++ [W.heap.size])) (hb : Below base (W.alloc (.map #[] 0)) w1) (hg : (W.alloc (.map #[] 0)).grownBy w1 pa.ownBlock) (hat : v1.ownBlock = pa.ownBlock ∨ ∃ b, v1.ownBlock = some b ∧ W.heap.size + 1 ≤ b) :
    EngPost W base ρ g (P.setTx s (t : Int) (some { x with parts := x.parts ++ [[]] })) (w1.setCell ⟨gt, 3, none⟩ v1) := by
  have s1 : (W.alloc (.map #[] 0)).heap.size = W.heap.size + 1 := by simp
  have hbase := h.base_le
  have hpa : ∀ k, pa.ownBlock = some k → ρ k = rl t 2 := hx.parts.1
  have hgt := h.own gt (by rw [hx.role]; unfold rl; omega)
  have hown : ∀ k, pa.ownBlock = some k → k < W.heap.size := fun k hk => (h.own k (by rw [hpa k hk]; unfold rl; omega)).2
  have hold : ∀ k, k < W.heap.size → some k ≠ pa.ownBlock → w1.heap[k]? = W.heap[k]? := fun k hk hne => (hg.block k (by omega) hne).trans (Below.heap_alloc W _ k hk)
  have hv1 : ∀ k, v1.ownBlock = some k → k ≠ gt ∧ k ≠ W.heap.size := fun k hk => by
    rcases hat with e | ⟨b, e, hb'⟩
    · have h1 := hpa k (e ▸ hk)
      have h2 := hown k (e ▸ hk)
      refine ⟨fun e2 => ?_, by omega⟩
      subst e2
      rw [hx.role] at h1
      exact absurd (rl_inj h1) (by omega)
    · rw [e] at hk; injection hk with hk; omega
  have hset : ∀ k, k ≠ gt → (w1.setCell ⟨gt, 3, none⟩ v1).heap[k]? = w1.heap[k]? := fun k hk => Below.heap_setCell w1 ⟨gt, 3, none⟩ v1 k hk
  have hlast : ∀ k, ρ k = rl t 0 → True := fun _ _ => trivial
  have hne0 : ρ W.heap.size = 0 := by
    by_cases e : ρ W.heap.size = 0
    · exact e
    · have := h.own _ e; omega
  obtain ⟨ρ', hρ'⟩ : ∃ ρ' : Nat → Nat, ρ' = fun k => if k = W.heap.size then rl t 4 else withRow ρ v1 (rl t 2) k := ⟨_, rfl⟩
  have hwr : Same W ρ (withRow ρ v1 (rl t 2)) := withRow_same hpa (by
    rcases hat with e | ⟨b, e, hb'⟩
    · exact .inl e
    · exact .inr ⟨b, e, by omega⟩)
  have hs : Same W ρ ρ' := fun k hk => by
    rw [hρ']
    show (if k = W.heap.size then _ else _) = _
    rw [if_neg (by omega)]; exact hwr k hk
  have hr : ∀ k, k < W.heap.size → ∀ r, ρ k = r → ρ' k = r := fun k hk r e => by rw [hs k hk, e]
  have hgb : some gt ≠ pa.ownBlock := fun e => by
    have h1 := hpa gt e.symm
    rw [hx.role] at h1
    exact absurd (rl_inj h1) (by omega)
  have hsz1 : W.heap.size + 1 ≤ w1.heap.size := by have := hg.size; omega
  have mv : ∀ j, j ≠ 0 → j ≠ 2 → ∀ k, ρ k = rl t j → (w1.setCell ⟨gt, 3, none⟩ v1).heap[k]? = W.heap[k]? := fun j h0 h2 k hk => by
    have hl := (h.own k (by rw [hk]; unfold rl; omega)).2
    rw [hset k (fun e => h0 (rl_inj (t := t) (by rw [← hk, e, hx.role])))]
    exact hold k hl (fun e => h2 (rl_inj (t := t) (by rw [← hk, hpa k e.symm])))
  refine h.tx_turn ht hc hs (fun k hk => ?_) (fun k h0 h1 => ?_) (x' := { x with parts := x.parts ++ [[]] }) (rd := rd) (pa := v1) (lf := lf) (ms := ms ++ [W.heap.size]) ⟨hr gt hgt.2 _ hx.role, hx.ge, ?_, ?_, ?_, ?_, ⟨by simp [hx.maps.len], ?_, fun i m p hm hp => ?_⟩⟩ ?_ ?_
  · rw [setCell_size]
    by_cases e : k = W.heap.size
    · omega
    · rw [hρ'] at hk
      simp only [e, if_false] at hk
      unfold withRow at hk
      split at hk
      · next he => exact N_in hN k he
      · have := h.own k hk; omega
  · have hl := (h.own k h0).2
    rw [hset k (fun e => h1 (by rw [e, hx.role]; exact rl_tx t 0 (by omega)))]
    exact hold k hl (fun e => h1 (by rw [hpa k e.symm]; exact rl_tx t 2 (by omega)))
  · have hbk : w1.heap[gt]? = some (.cells #[.int .i64 x.start, .int .i64 x.stamp, rd, pa, .bool x.commits, .bool x.pointed, lf] 81 (0, 0)) := (hold gt hgt.2 hgb).trans hx.blk
    exact blk_set hbk 3 v1
  · exact N_flat kI_flat (N_flat_move kI_flat hx.reads fun k hk => mv 1 (by omega) (by omega) k (hx.reads.1 k hk)) fun k hk => hr k (h.own k (by rw [hx.reads.1 k hk]; unfold rl; omega)).2 _ (hx.reads.1 k hk)
  · exact N_flat kP_flat (N_flat_move kP_flat hN fun k hk => hset k (hv1 k hk).1) fun k hk => by
      rw [hρ']
      show (if k = W.heap.size then _ else _) = _
      rw [if_neg (hv1 k hk).2]; exact withRow_at k hk
  · exact V_move hx.left (fun k hk => hr k (h.own k (by rw [hk]; unfold rl; omega)).2 _ hk) (fun k hk _ => mv 3 (by omega) (by omega) k hk)
  · rw [List.nodup_append]
    refine ⟨hx.maps.nd, by simp, fun a ha b hb' e => ?_⟩
    rw [List.mem_singleton.1 hb'] at e
    subst e
    obtain ⟨i, hi, e2⟩ := List.mem_iff_getElem.1 ha
    have hip : i < x.parts.length := by rw [← hx.maps.len]; exact hi
    have := (hx.maps.at_ i _ _ (List.getElem?_eq_getElem hi) (List.getElem?_eq_getElem hip)).2.2.lt
    omega
  · by_cases hi : i < ms.length
    · rw [List.getElem?_append_left hi] at hm
      change (x.parts ++ [[]])[i]? = some p at hp
      rw [List.getElem?_append_left (by rw [← hx.maps.len]; exact hi)] at hp
      obtain ⟨a, b, c⟩ := hx.maps.at_ i m p hm hp
      exact ⟨a, hr m c.lt _ b, c.move (mv 4 (by omega) (by omega) m b)⟩
    · rw [List.getElem?_append_right (by omega)] at hm
      change (x.parts ++ [[]])[i]? = some p at hp
      rw [List.getElem?_append_right (by rw [← hx.maps.len]; omega)] at hp
      have e0 : i - ms.length = 0 := by
        have := (List.getElem?_eq_some_iff.1 hm).1
        simpa using this
      rw [e0] at hm
      rw [← hx.maps.len, e0] at hp
      simp only [List.getElem?_cons_zero, Option.some.injEq] at hm hp
      subst hm hp
      refine ⟨hbase, by rw [hρ']; simp, (MapAt.made W).move ?_⟩
      rw [hset _ (by omega)]
      exact hg.block _ (by omega) (fun e => by have := hown _ e.symm; omega)
  · refine Kept.setCell (Kept.of_grown hg ((Kept.refl W _).alloc _) (fun k e => .inl (by rw [hpa k e]; unfold rl; omega))) (.inl (by rw [hx.role]; unfold rl; omega)) v1
  · exact (((below_1 W (.map #[] 0)).mono hbase).trans hb).setCell (p := ⟨gt, 3, none⟩) hx.ge v1
set_option maxHeartbeats 8000000 in
set_option maxRecDepth 100000 in
theorem part_calls (h : EngAt W base ρ g s cells vs) (t : Int) (hp : ∀ x, openE s t = some x → x.parts.length ≤ 100000) :
    Calls Try.prog 12 #[.pointer (some ⟨g, 0, none⟩), .int .i64 t] W fun e w' => e = .returned (.int .i64 (partE s t).1) ∧ EngPost W base ρ g (partE s t).2 w' := by
  have HO := Aside0.mk (show partE s t = match openE s t with | none => (1, s) | some x => (0, setTx s t (some { x with parts := x.parts ++ [[]] })) from rfl)
  have HH := Aside0.mk h
  have HP := Aside0.mk hp
  have hof := open_calls h t
  clear h hp
  have hmm := @run_makeMap Try.prog
  go_enter Try.func12, Try.ntmps12
  go_wp2_with fail
  refine hof.mono ?_; rintro e w' ⟨⟨p, rfl, hp⟩, rfl⟩
  clear hof
  rcases hp.form with ⟨e0, rfl⟩ | ⟨x, tn, gt, rd, pa, lf, ms, e0, rfl, ht, rfl, hcc, hx⟩
  · have HE := Aside0.mk (show partE s t = (1, s) by rw [HO.out, e0])
    clear hp e0 HO
    go_wp2
    go_ret
    rw [HE.out]
    exact ⟨rfl, ρ, _, _, HH.out, Did.refl⟩
  · have HE := Aside0.mk (show partE s tn = (0, setTx s tn (some { x with parts := x.parts ++ [[]] })) by rw [HO.out, e0])
    have hpl := HP.out x e0
    have hml : ms.length ≤ 100000 := by rw [hx.maps.len]; exact hpl
    have HX := Aside0.mk hx
    have k3 := blk_cell hx.blk 3
    have hN := hx.parts
    obtain ⟨A, c, rfl⟩ := Kd.N_slice hN
    have HN := Aside0.mk (Kd.N_alloc (Kd.N_mono hN (fun _ _ => trivial) : Kd.N kP 78 W base (fun _ => True) (.slice A ms.length c) ms) (.map #[] 0))
    have hgne : some gt ≠ (Value.slice A ms.length c).ownBlock := fun e => by
      have h1 : ρ gt = rl tn 2 := hN.1 gt e.symm
      rw [hx.role] at h1
      exact absurd (rl_inj h1) (by omega)
    have HGN := Aside0.mk hgne
    clear hp e0 HO hx hpl hN hgne HP
    go_wp2_with ((with_reducible refine gate_builtin (b := .append) (xs := #[.tmp 15, .tmp 17]) rfl ?_); at_builtin; refine Kd.N_append kP (w0 := W.alloc (.map #[] 0)) base rfl (.tmp 15) (.tmp 17) 79 78 (.map none) 8 rfl Try.underlying79 info78 rfl (by decide) (by omega) (.slice A ms.length c) ms W.heap.size [.map (some W.heap.size)] (fun _ => True) (fun _ => False) rfl (by simp [Act.eval]) ?aP (fun _ hk => hk.elim) (fun _ _ => trivial) ?aO ?aB ?aS ?aL ?_; (case aP => exact fun W' _ => rfl); (case aO => exact HN.out); (case aB => exact Below.refl _ _); (case aS => exact Nat.le_trans HH.out.base_le (by simp)); (case aL => omega); intro v1 w1 ho hb hg hat; have HN1 := Aside0.mk ho; have HB1 := Aside0.mk hb; have HG1 := Aside0.mk hg; have HA1 := Aside0.mk hat; clear ho hb hg hat; obtain ⟨A1, c1, e1⟩ := Kd.N_slice HN1.out; subst e1; have hb1 := (HG1.out.block gt (by have := (HH.out.own gt (by rw [HX.out.role]; unfold rl; omega)).2; simp; omega) HGN.out).trans (blk_alloc HX.out.blk _); have j3 := blk_cell hb1 3; have g3 := blk_frozen hb1 3; clear hb1 k3)
    go_ret
    rw [HE.out]
    have HP := HH.out.push_part ht hcc HX.out HN1.out HB1.out HG1.out (by simpa using HA1.out)
    rw [show (ms ++ [W.heap.size]).length = ms.length + 1 from by simp] at HP
    exact ⟨rfl, HP⟩
end
end Go.Proofs.Ytcnbgamalhfkmaa.P
