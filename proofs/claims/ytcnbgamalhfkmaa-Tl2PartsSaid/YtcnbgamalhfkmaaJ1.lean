/- tl2: shut, Join, Undo. -/
import Derived.Test.YtcnbgamalhfkmaaI1
namespace Go.Proofs.Ytcnbgamalhfkmaa.P
open Go.RowKit Go.Proofs.YtcnbgamalhfkmaaW.PrintWords Go.Proofs.YtcnbgamalhfkmaaW.PrintLast Go.Proofs.YtcnbgamalhfkmaaW.PrintMore
set_option linter.unusedVariables false
set_option linter.unusedSimpArgs false
open Go.WideShapes Go.Maps Go.Shelf
section
variable {W : World} {base : Nat} {ρ : Nat → Nat} {g : Nat} {s : PEng} {cells : Array Value} {vs : Value}
theorem dropLast_set {α : Type} {l : List α} {k : Nat} (hk : l.length = k + 1) (v : α) : l.dropLast ++ [v] = l.set k v := by
  apply List.ext_getElem?
  intro j
  by_cases hj : j < k
  · rw [List.getElem?_append_left (by simp; omega), List.getElem?_dropLast, if_pos (by omega), List.getElem?_set_ne (by omega)]
  · rw [List.getElem?_append_right (by simp; omega)]
    by_cases hj2 : j = k
    · subst hj2
      rw [List.getElem?_set_self (by omega)]
      simp [hk]
    · rw [List.getElem?_eq_none (by simp; omega), List.getElem?_eq_none (by simp; omega)]
theorem getLastD_at {α : Type} {l : List α} {k : Nat} (hk : l.length = k + 1) (d : α) : l.getLastD d = l[k]'(by omega) := by
  rw [List.getLastD_eq_getLast?, List.getLast?_eq_getElem?, show l.length - 1 = k by omega, List.getElem?_eq_getElem (by omega)]; rfl
theorem setTx_twice (s : PEng) (t : Int) (o o' : Option PTx) : P.setTx (P.setTx s t o) t o' = P.setTx s t o' := by simp [P.setTx]
theorem EngPost.via {W1 W2 : World} {s' : PEng} (hd : Did W base ρ ρ W1) (h : EngPost W1 base ρ g s' W2) : EngPost W base ρ g s' W2 := by
  obtain ⟨ρ', cells', vs', he, hd2⟩ := h
  exact ⟨ρ', cells', vs', he, hd.trans hd2⟩
/-- The last part is dropped. -/
theorem EngAt.drop_part (h : EngAt W base ρ g s cells vs) {t gt : Nat} (ht : t < 8) (hc : cells[2 + t]? = some (.pointer (some ⟨gt, 0, none⟩))) {x : PTx} {rd lf : Value} {ms : List Nat} {A : Option Addr} {c k : Nat} (hk : ms.length = k + 1)
    (hx : TxAt W base ρ t gt x rd (.slice A (k + 1) c) lf ms) :
    EngAt (W.setCell ⟨gt, 3, none⟩ (.slice A k c)) base ρ g (P.setTx s (t : Int) (some { x with parts := x.parts.dropLast })) cells vs ∧ TxAt (W.setCell ⟨gt, 3, none⟩ (.slice A k c)) base ρ t gt { x with parts := x.parts.dropLast } rd (.slice A k c) lf (ms.take k) ∧ Did W base ρ ρ (W.setCell ⟨gt, 3, none⟩ (.slice A k c)) := by
  have hgt := h.own gt (by rw [hx.role]; unfold rl; omega)
  have hset : ∀ i, i ≠ gt → (W.setCell ⟨gt, 3, none⟩ (.slice A k c)).heap[i]? = W.heap[i]? := fun i hi => Below.heap_setCell W ⟨gt, 3, none⟩ _ i hi
  have mv : ∀ j, j ≠ 0 → ∀ i, ρ i = rl t j → (W.setCell ⟨gt, 3, none⟩ (.slice A k c)).heap[i]? = W.heap[i]? := fun j h0 i hi => hset i (fun e => h0 (rl_inj (t := t) (by rw [← hi, e, hx.role])))
  have hxl : x.parts.length = k + 1 := by rw [← hx.maps.len, hk]
  have hx' : TxAt (W.setCell ⟨gt, 3, none⟩ (.slice A k c)) base ρ t gt { x with parts := x.parts.dropLast } rd (.slice A k c) lf (ms.take k) := by
    refine ⟨hx.role, hx.ge, blk_set hx.blk 3 _, N_flat_move kI_flat hx.reads fun i hi => mv 1 (by omega) i (hx.reads.1 i hi), ?_, V_move hx.left (fun _ hi => hi) (fun i hi _ => mv 3 (by omega) i hi), ⟨?_, hx.maps.nd.sublist (List.take_sublist _ _), fun i m p hm hp => ?_⟩⟩
    · have hN := Kd.N_take hx.parts (m := k) (by omega)
      exact N_flat_move kP_flat hN fun i hi => mv 2 (by omega) i (hN.1 i hi)
    · simp [hk, hxl]
    · rw [List.getElem?_take] at hm
      split at hm
      · change x.parts.dropLast[i]? = some p at hp
        rw [List.getElem?_dropLast] at hp
        split at hp
        · obtain ⟨a, b, d⟩ := hx.maps.at_ i m p hm hp
          exact ⟨a, b, d.move (mv 4 (by omega) m b)⟩
        · cases hp
      · cases hm
  have hown : ∀ i, ρ i ≠ 0 → base ≤ i ∧ i < (W.setCell ⟨gt, 3, none⟩ (.slice A k c)).heap.size := fun i hi => by rw [setCell_size]; exact h.own i hi
  have h1 := h.setTx ht (p' := .pointer (some ⟨gt, 0, none⟩)) (o := some { x with parts := x.parts.dropLast }) (fun _ _ => rfl) hown (by
    rw [set_same hc, hset g (fun e => by have h1 := h.role; rw [e, hx.role] at h1; unfold rl at h1; omega)]; exact h.blk) (fun i _ _ hi => hset i (fun e => hi (by rw [e, hx.role]; exact rl_tx t 0 (by omega)))) ⟨gt, rd, _, lf, _, rfl, hx'⟩
  rw [set_same hc] at h1
  exact ⟨h1, hx', fun _ _ => rfl, (Kept.refl W _).setCell (.inl (by show ρ gt ≠ 0; rw [hx.role]; unfold rl; omega)) _, (Below.refl _ W).setCell (p := ⟨gt, 3, none⟩) hx.ge _⟩
set_option maxHeartbeats 8000000 in
set_option maxRecDepth 100000 in
theorem shut_calls (h : EngAt W base ρ g s cells vs) (t : Int) (keep : Bool) (hp : ∀ x, openE s t = some x → x.parts.length ≤ 100000 ∧ ∀ p ∈ x.parts, p.length ≤ 100000) :
    Calls Try.prog 42 #[.pointer (some ⟨g, 0, none⟩), .int .i64 t, .bool keep] W fun e w' => e = .returned (.int .i64 (shutE s t keep).1) ∧ EngPost W base ρ g (shutE s t keep).2 w' := by
  have HO := Aside0.mk (show shutE s t keep = match openE s t with
    | none => (1, s)
    | some x =>
      if x.parts.length < 2 then (1, s) else
      let p := x.parts.getLastD []
      let r := x.parts.dropLast
      (0, setTx s t (some { x with parts := if keep then r.dropLast ++ [copyM (r.getLastD []) p] else r })) from rfl)
  have HH := Aside0.mk h
  have HP := Aside0.mk hp
  have hof := open_calls h t
  clear h hp
  go_enter Try.func42, Try.ntmps42
  go_wp2_with fail
  refine hof.mono ?_; rintro e w' ⟨⟨p, rfl, hp⟩, rfl⟩
  clear hof
  rcases hp.form with ⟨e0, rfl⟩ | ⟨x, tn, gt, rd, pa, lf, ms, e0, rfl, ht, rfl, hcc, hx⟩
  · have HE := Aside0.mk (show shutE s t keep = (1, s) by rw [HO.out, e0])
    clear hp e0 HO
    go_wp2
    go_ret
    rw [HE.out]
    exact ⟨rfl, ρ, _, _, HH.out, Did.refl⟩
  · have HPX := Aside0.mk (HP.out x e0)
    obtain ⟨A, c, rfl⟩ := Kd.N_slice hx.parts
    have hcap := (Kd.N_reads' hx.parts).2.1
    have k3 := blk_cell hx.blk 3
    have f3 := blk_frozen hx.blk 3
    have HX := Aside0.mk hx
    have hml : ms.length ≤ 100000 := by rw [hx.maps.len]; exact HPX.out.1
    by_cases h2 : ms.length < 2
    · have HE := Aside0.mk (show shutE s tn keep = (1, s) by rw [HO.out, e0]; show (if x.parts.length < 2 then _ else _) = _; rw [if_pos (by rw [← hx.maps.len]; exact h2)])
      have h2z : (ms.length : Int) < 2 := by omega
      clear hp e0 HO hx
      go_wp2
      go_ret
      rw [HE.out]
      exact ⟨rfl, ρ, _, _, HH.out, Did.refl⟩
    · obtain ⟨k, hk⟩ : ∃ k, ms.length = k + 1 + 1 := ⟨ms.length - 2, by omega⟩
      have hlc := last_calls hx hk (by omega)
      have hxl : x.parts.length = k + 1 + 1 := by rw [← hx.maps.len, hk]
      have HMR := Aside0.mk (hx.maps.at_ (k + 1) _ _ (List.getElem?_eq_getElem (by omega)) (List.getElem?_eq_getElem (by omega))).2.1
      have hma := (hx.maps.at_ (k + 1) _ _ (List.getElem?_eq_getElem (by omega)) (List.getElem?_eq_getElem (by omega))).2.2
      have hlast : x.parts.getLastD [] = x.parts[k + 1]'(by omega) := by
        rw [List.getLastD_eq_getLast?, List.getLast?_eq_getElem?, show x.parts.length - 1 = k + 1 by omega, List.getElem?_eq_getElem (by omega)]; rfl
      have HE := Aside0.mk (show shutE s tn keep = (0, setTx s tn (some { x with parts := if keep then x.parts.dropLast.dropLast ++ [copyM (x.parts.dropLast.getLastD []) (x.parts[k + 1]'(by omega))] else x.parts.dropLast })) by rw [HO.out, e0]; show (if x.parts.length < 2 then _ else _) = _; rw [if_neg (by omega), hlast])
      have hpm := HPX.out.2 (x.parts[k + 1]'(by omega)) (List.getElem_mem _)
      have HND := Aside0.mk hx.maps.nd
      have HMK := Aside0.mk (show ms[k + 1]? = some (ms[k + 1]'(by omega)) from List.getElem?_eq_getElem (by omega))
      have hA : A = some ⟨(A.getD ⟨0, 0, none⟩).block, 0, none⟩ := by
        obtain ⟨gv, cap, e, _⟩ := Kd.N_form hx.parts (by omega)
        cases e; rfl
      generalize (A.getD ⟨0, 0, none⟩).block = gv at hA
      subst hA
      generalize x.parts[k + 1]'(by omega) = pk at *
      generalize ms[k + 1]'(by omega) = mk at *
      have HK := Aside0.mk hk
      have HKX := Aside0.mk hxl
      generalize hn : ms.length = n at *
      subst hk
      have HNK := Aside0.mk hn
      clear hn
      have h2z : ¬ ((k : Int) + 1 + 1 < 2) := by omega
      have hw : IntKind.i64.wrap ((k : Int) + 1) = (k : Int) + 1 := IntWalk.i64_in _ (by omega)
      have q0 : (0 : Int) ≤ (k : Int) + 1 := by omega
      have q1 : (k : Int) + 1 ≤ (c : Int) := by omega
      clear hp e0 HO hx hlast hxl h2 HP
      go_wp2_with fail
      refine hlc.mono ?_; rintro e w1 ⟨rfl, hB1⟩
      have k31 := (hB1.cell (p := ⟨gt, 3, none⟩) (HH.out.own gt (by rw [HX.out.role]; unfold rl; omega)).2).trans k3
      have f31 := (hB1.frozen (p := ⟨gt, 3, none⟩) (HH.out.own gt (by rw [HX.out.role]; unfold rl; omega)).2).trans f3
      have HB1 := Aside0.mk hB1
      clear hlc hB1 k3 f3
      go_wp2_with fail
      go_region_law (fail)
      all_goals
        have hE1 := HH.out.below HB1.out
        have hX1 := HX.out.below HH.out HB1.out
        obtain ⟨hE2, hX2, hd2⟩ := hE1.drop_part ht hcc HNK.out hX1
        obtain ⟨w2, hw2⟩ : ∃ w2, (w1.setCell ⟨gt, 3, none⟩ (.slice (some ⟨gv, 0, none⟩) (k + 1) c)).drew = w2 := ⟨_, rfl⟩
        have hBd : Below (w1.setCell ⟨gt, 3, none⟩ (.slice (some ⟨gv, 0, none⟩) (k + 1) c)).heap.size (w1.setCell ⟨gt, 3, none⟩ (.slice (some ⟨gv, 0, none⟩) (k + 1) c)) w2 := by rw [← hw2]; exact below_drew (Below.refl _ _)
        have HE2 := Aside0.mk (hE2.below hBd)
        have HX2 := Aside0.mk (hX2.below hE2 hBd)
        have HD2 := Aside0.mk ((Did.of_below HB1.out HH.out.base_le).trans (hd2.trans (Did.of_below hBd hE2.base_le)))
        have hm2 : MapAt w2 mk pk := by
          have hne : mk ≠ gt := fun e => by have h1 := HMR.out; rw [e, HX.out.role] at h1; unfold rl at h1; omega
          rw [← hw2]
          exact (hma.move (HB1.out.block _ hma.lt)).move (show (w1.setCell ⟨gt, 3, none⟩ (.slice (some ⟨gv, 0, none⟩) (k + 1) c)).heap[mk]? = w1.heap[mk]? from Below.heap_setCell w1 ⟨gt, 3, none⟩ _ mk hne)
        rw [hw2]
        clear hE1 hX1 hE2 hX2 hd2 hBd hw2 k31 f31
        cases keep with
        | false =>
          go_wp2
          go_ret
          rw [HE.out]
          exact ⟨rfl, ρ, _, _, HE2.out, HD2.out⟩
        | true =>
          have hlk : (ms.take (k + 1)).length = k + 1 := by simp [HNK.out]
          have hlc2 := last_calls HX2.out (k := k) hlk (by omega)
          have hxd : x.parts.dropLast.length = k + 1 := by simp [HKX.out]
          have hbi : (ms.take (k + 1))[k]? = some ((ms.take (k + 1))[k]'(by omega)) := List.getElem?_eq_getElem (by omega)
          have hbp := (HX2.out.maps.at_ k _ _ hbi (show x.parts.dropLast[k]? = some (x.parts.dropLast[k]'(by omega)) from List.getElem?_eq_getElem (by omega))).2.2
          have hpb := HPX.out.2 (x.parts.dropLast[k]'(by omega)) (List.dropLast_subset _ (List.getElem_mem _))
          have HEP := Aside0.mk (show shutE s tn true = (0, setTx (setTx s tn (some { x with parts := x.parts.dropLast })) tn (some { x with parts := x.parts.dropLast.set k (copyM (x.parts.dropLast[k]'(by omega)) pk) })) by
            rw [HE.out, setTx_twice, dropLast_set hxd, getLastD_at hxd]; rfl)
          have hne : (ms.take (k + 1))[k]'(by omega) ≠ mk := fun e => by
            have h1 : ms[k]'(by have := HNK.out; omega) = ms[k + 1]'(by have := HNK.out; omega) := by
              have h2 := HMK.out
              rw [List.getElem?_eq_getElem (by have := HNK.out; omega)] at h2
              rw [List.getElem_take] at e
              rw [e, Option.some.inj h2]
            exact absurd h1 (List.pairwise_iff_getElem.1 HND.out k (k + 1) _ _ (by omega))
          have HBI := Aside0.mk hbi
          generalize x.parts.dropLast[k]'(by omega) = pb at *
          generalize (ms.take (k + 1))[k]'(by omega) = bp at *
          clear hbi
          go_wp2_with fail
          refine hlc2.mono ?_; rintro e w3 ⟨rfl, hB3⟩
          have hcp := copy_calls (hbp.move (hB3.block _ hbp.lt)) (hm2.move (hB3.block _ hm2.lt)) hne (by omega)
          have HB3 := Aside0.mk hB3
          clear hlc2 hB3
          go_wp2_with fail
          refine hcp.mono ?_; rintro e w4 ⟨⟨v, rfl⟩, hm4, hg4⟩
          have HM4 := Aside0.mk hm4
          have HG4 := Aside0.mk hg4
          clear hcp hm4 hg4
          go_wp2
          go_ret
          rw [HEP.out]
          exact ⟨rfl, EngPost.via HD2.out (EngPost.after HB3.out HE2.out.base_le ((HE2.out.below HB3.out).map_turn ht hcc (HX2.out.below HE2.out HB3.out) HBI.out HM4.out HG4.out))⟩
set_option maxHeartbeats 4000000 in
theorem join_calls (h : EngAt W base ρ g s cells vs) (t : Int) (hp : ∀ x, openE s t = some x → x.parts.length ≤ 100000 ∧ ∀ p ∈ x.parts, p.length ≤ 100000) :
    Calls Try.prog 14 #[.pointer (some ⟨g, 0, none⟩), .int .i64 t] W fun e w' => e = .returned (.int .i64 (shutE s t true).1) ∧ EngPost W base ρ g (shutE s t true).2 w' := by
  have hs := shut_calls h t true hp
  clear h
  go_enter Try.func14, Try.ntmps14
  go_wp2_with fail
  refine hs.mono ?_; rintro e w' ⟨rfl, hE⟩
  have HE := Aside0.mk hE
  clear hs hE
  go_wp2
  go_ret
  exact ⟨rfl, HE.out⟩
set_option maxHeartbeats 4000000 in
theorem undo_calls (h : EngAt W base ρ g s cells vs) (t : Int) (hp : ∀ x, openE s t = some x → x.parts.length ≤ 100000 ∧ ∀ p ∈ x.parts, p.length ≤ 100000) :
    Calls Try.prog 15 #[.pointer (some ⟨g, 0, none⟩), .int .i64 t] W fun e w' => e = .returned (.int .i64 (shutE s t false).1) ∧ EngPost W base ρ g (shutE s t false).2 w' := by
  have hs := shut_calls h t false hp
  clear h
  go_enter Try.func15, Try.ntmps15
  go_wp2_with fail
  refine hs.mono ?_; rintro e w' ⟨rfl, hE⟩
  have HE := Aside0.mk hE
  clear hs hE
  go_wp2
  go_ret
  exact ⟨rfl, HE.out⟩
end
end Go.Proofs.Ytcnbgamalhfkmaa.P
