/- tl2: the document's engine: Sorted. tl2: the document's engine: Abort. tl2: the document's engine: Shut. -/
import Derived.Test.YtcnbgamalhfkmaaMG
import Derived.Test.YtcnbgamalhfkmaaME
namespace Go.Proofs.Ytcnbgamalhfkmaa.P
open Go.RowKit Go.Proofs.YtcnbgamalhfkmaaW.PrintWords Go.Proofs.YtcnbgamalhfkmaaW.PrintLast Go.Proofs.YtcnbgamalhfkmaaW.PrintMore
set_option linter.unusedVariables false
set_option linter.unusedSimpArgs false
open Go.WideShapes Go.Maps
def aboveB (part last : Int) (p : RPut) : Bool := p.part == part && decide (last < p.n)
def above (l : List RPut) (part last : Int) : Nat := (l.filter (aboveB part last)).length
theorem nextP_from (part last : Int) (P : RPut → Prop) : ∀ (l : List RPut) (b : Option RPut) (p : RPut), (∀ q ∈ l, aboveB part last q = true → P q) → (∀ q, b = some q → P q) → nextP part last b l = some p → P p
  | [], b, p, _, hb, h => hb p h
  | q :: r, b, p, hl, hb, h => by
    refine nextP_from part last P r _ p (fun q' hq => hl q' (List.mem_cons_of_mem _ hq)) (fun q' hq' => ?_) h
    split at hq'
    · next hb2 =>
      injection hq' with e
      subst e
      refine hl q List.mem_cons_self ?_
      unfold lessP at hb2
      unfold aboveB
      simp only [Bool.and_eq_true] at hb2 ⊢
      exact hb2.1
    · exact hb q' hq'
theorem nextP_above {l : List RPut} {part last : Int} {p : RPut} (h : nextP part last none l = some p) : p ∈ l ∧ aboveB part last p = true :=
  nextP_from part last (fun q => q ∈ l ∧ aboveB part last q = true) l none p (fun q hq hb => ⟨hq, hb⟩) (fun q hq => by cases hq) h
theorem above_less {l : List RPut} {part last : Int} {p : RPut} (h : nextP part last none l = some p) : above l part p.n < above l part last := by
  obtain ⟨hp, ha⟩ := nextP_above h
  unfold above
  rw [← List.countP_eq_length_filter, ← List.countP_eq_length_filter]
  have hlt : last < p.n := by unfold aboveB at ha; simp at ha; exact ha.2
  have key : ∀ l : List RPut, p ∈ l → l.countP (aboveB part p.n) < l.countP (aboveB part last) := by
    intro l
    induction l with
    | nil => intro h; cases h
    | cons q r ih =>
      intro hm
      have hmono : r.countP (aboveB part p.n) ≤ r.countP (aboveB part last) := List.countP_mono_left (fun x _ hx => by
        unfold aboveB at hx ⊢
        simp at hx ⊢
        exact ⟨hx.1, by omega⟩)
      rw [List.countP_cons, List.countP_cons]
      rcases List.mem_cons.1 hm with rfl | hm
      · rw [if_neg (by unfold aboveB; simp), if_pos ha]
        omega
      · have := ih hm
        by_cases hq : aboveB part p.n q = true
        · have : aboveB part last q = true := by
            unfold aboveB at hq ⊢
            simp at hq ⊢
            exact ⟨hq.1, by omega⟩
          rw [if_pos hq, if_pos this]; omega
        · rw [if_neg hq]; omega
  exact key l hp
theorem above_le (l : List RPut) (part last : Int) : above l part last ≤ l.length := List.length_filter_le _ _
theorem sortedF_len (l : List RPut) (part : Int) : ∀ (k : Nat) (last : Int), (sortedF l part k last).length ≤ above l part last
  | 0, _ => Nat.zero_le _
  | k + 1, last => by
    unfold sortedF
    cases h : nextP part last none l with
    | none => exact Nat.zero_le _
    | some p =>
      have h1 := sortedF_len l part k p.n
      have h2 := above_less h
      simp only [List.length_cons]
      omega
theorem nextP_step {part last : Int} {b : Option RPut} {l : List RPut} {i : Nat} (hi : i < l.length) (ha : nextP part last none l = nextP part last b (l.drop i)) {b' : Option RPut} (hb : (if lessP part last b l[i] then some l[i] else b) = b') : nextP part last none l = nextP part last b' (l.drop (i + 1)) := by
  rw [ha, List.drop_eq_getElem_cons hi, ← hb]
  rfl
section
variable {W : World} {base : Nat}
set_option maxHeartbeats 8000000 in
set_option maxRecDepth 100000 in
theorem rsorted_calls {ok : Nat → Prop} {A : Option Addr} {c : Nat} {l : List RPut} (h : Kd.N kW 61 W base ok (.slice A l.length c) l) (hl : l.length ≤ 1000000) (part : Int) :
    Calls Try.prog 24 #[.slice A l.length c, .int .i64 part] W fun e w' => ∃ v1, e = .returned v1 ∧ Aside0 (Kd.N kW 61 w' W.heap.size (fun _ => True) v1 (sortedR l part)) ∧ Aside0 (Below W.heap.size W w') := by
  have HN := Aside0.mk h
  clear h
  go_enter Try.func24, Try.ntmps24
  go_wp2
  go_loopg [5, 6, 7, 8] (l.length + 1) (fun gg s5 s6 _ _ wr => ∃ (k : Nat) (last : Int) (xs : List RPut), k ≤ gg ∧ above l part last < k ∧ s6 = .int .i64 last ∧ Aside0 (Kd.N kW 61 wr W.heap.size (fun _ => True) s5 xs) ∧ Aside0 (Below W.heap.size W wr) ∧ Aside0 (sortedR l part = xs ++ sortedF l part k last) ∧ xs.length + k ≤ l.length + 1)
  case atStart => exact ⟨l.length + 1, -1, [], Nat.le_refl _, Nat.lt_succ_of_le (above_le _ _ _), rfl, ⟨Kd.N_nil _ _ _ _ _⟩, ⟨Below.refl _ _⟩, ⟨rfl⟩, by simp⟩
  case round =>
    obtain ⟨k, last, xs, hk, hab, rfl, HX, HB, HS, hlen⟩ := hrel
    obtain ⟨A5, c5, rfl⟩ := Kd.N_slice HX.out
    obtain ⟨k, rfl⟩ : ∃ k', k = k' + 1 := ⟨k - 1, by omega⟩
    go_wp2
    go_loopg [7, 8] l.length (fun gg s7 s8 w2 => ∃ (i : Nat) (b : Option RPut), i ≤ l.length ∧ l.length - i ≤ gg ∧ s8 = .int .i64 i ∧ ((b = none ∧ s7 = .int .i64 (-1)) ∨ ∃ (j : Nat) (hj : j < l.length), s7 = .int .i64 j ∧ b = some l[j]) ∧ Aside0 (Below wr.heap.size wr w2) ∧ Aside0 (nextP part last none l = nextP part last b (l.drop i)))
    case atStart => exact ⟨0, none, Nat.zero_le _, by omega, rfl, .inl ⟨rfl, rfl⟩, ⟨Below.refl _ _⟩, ⟨rfl⟩⟩
    case round =>
      obtain ⟨i, b, hi, hg, rfl, hbest, HB2, HA⟩ := hrel
      by_cases hlt : i < l.length
      · have hltz : (i : Int) < (l.length : Int) := by omega
        have hN2 := Kd.N_below (Kd.N_below HN.out HB.out) HB2.out
        obtain ⟨gv, cap', e, hcap, c0, c1, c2, cf⟩ := rowW_at hN2 hlt
        cases e
        clear cf
        cases e1 : l[i].part == part with
        | false =>
          have HS2 := Aside0.mk (nextP_step hlt HA.out (b' := b) (by rw [if_neg]; unfold lessP; rw [e1]; simp))
          clear hN2 HA
          generalize l[i].n = yn at *
          generalize l[i].part = yp at *
          rcases hbest with ⟨rfl, rfl⟩ | ⟨j, hj, rfl, rfl⟩
          · go_wp2_with fail
            go_quiet (fail)
            go_wp2
            go_roundg (l.length - (i + 1))
            case measure => omega
            case rel => exact ⟨i + 1, none, by omega, by omega, by go_num, .inl ⟨rfl, rfl⟩, ⟨pw_below_drewN HB2.out _⟩, ⟨HS2.out⟩⟩
          · go_wp2_with fail
            go_quiet (fail)
            go_wp2
            go_roundg (l.length - (i + 1))
            case measure => omega
            case rel => exact ⟨i + 1, _, by omega, by omega, by go_num, .inr ⟨j, hj, rfl, rfl⟩, ⟨pw_below_drewN HB2.out _⟩, ⟨HS2.out⟩⟩
        | true =>
          by_cases e2 : last < l[i].n
          · rcases hbest with ⟨rfl, rfl⟩ | ⟨j, hj, rfl, rfl⟩
            · have HS2 := Aside0.mk (nextP_step hlt HA.out (b' := some l[i]) (by rw [if_pos]; unfold lessP; rw [e1, decide_eq_true e2]; rfl))
              have HI := Aside0.mk hlt
              clear hN2 HA
              generalize l[i].n = yn at *
              generalize l[i].part = yp at *
              go_wp2_with fail
              go_quiet (fail)
              go_wp2
              go_roundg (l.length - (i + 1))
              case measure => omega
              case rel => exact ⟨i + 1, _, by omega, by omega, by go_num, .inr ⟨i, hlt, rfl, rfl⟩, ⟨pw_below_drewN HB2.out _⟩, ⟨HS2.out⟩⟩
            · obtain ⟨_, _, e, _, d0, _, _, _⟩ := rowW_at hN2 hj
              cases e
              have hjz : (j : Int) < (l.length : Int) := by omega
              by_cases e3 : l[i].n < l[j].n
              · have HS2 := Aside0.mk (nextP_step hlt HA.out (b' := some l[i]) (by rw [if_pos]; unfold lessP; rw [e1, decide_eq_true e2]; simpa using e3))
                clear hN2 HA
                generalize l[i].n = yn at *
                generalize l[i].part = yp at *
                generalize l[j].n = zn at *
                go_wp2_with fail
                go_quiet (fail)
                go_wp2
                go_roundg (l.length - (i + 1))
                case measure => omega
                case rel => exact ⟨i + 1, _, by omega, by omega, by go_num, .inr ⟨i, hlt, rfl, rfl⟩, ⟨pw_below_drewN HB2.out _⟩, ⟨HS2.out⟩⟩
              · have HS2 := Aside0.mk (nextP_step hlt HA.out (b' := some l[j]) (by rw [if_neg]; unfold lessP; rw [e1, decide_eq_true e2]; simpa using e3))
                clear hN2 HA
                generalize l[i].n = yn at *
                generalize l[i].part = yp at *
                generalize hzn : l[j].n = zn at *
                go_wp2_with fail
                go_quiet (fail)
                go_wp2
                go_roundg (l.length - (i + 1))
                case measure => omega
                case rel => exact ⟨i + 1, _, by omega, by omega, by go_num, .inr ⟨j, hj, rfl, rfl⟩, ⟨pw_below_drewN HB2.out _⟩, ⟨HS2.out⟩⟩
          · have HS2 := Aside0.mk (nextP_step hlt HA.out (b' := b) (by rw [if_neg]; unfold lessP; rw [e1, decide_eq_false e2]; simp))
            have e2d := decide_eq_false e2
            clear hN2 HA e2
            generalize l[i].n = yn at *
            generalize l[i].part = yp at *
            rcases hbest with ⟨rfl, rfl⟩ | ⟨j, hj, rfl, rfl⟩
            · go_wp2_with fail
              go_quiet (fail)
              go_wp2
              go_roundg (l.length - (i + 1))
              case measure => omega
              case rel => exact ⟨i + 1, none, by omega, by omega, by go_num, .inl ⟨rfl, rfl⟩, ⟨pw_below_drewN HB2.out _⟩, ⟨HS2.out⟩⟩
            · go_wp2_with fail
              go_quiet (fail)
              go_wp2
              go_roundg (l.length - (i + 1))
              case measure => omega
              case rel => exact ⟨i + 1, _, by omega, by omega, by go_num, .inr ⟨j, hj, rfl, rfl⟩, ⟨pw_below_drewN HB2.out _⟩, ⟨HS2.out⟩⟩
      · have hltz : ¬ (i : Int) < (l.length : Int) := by omega
        have hA : nextP part last none l = b := by rw [HA.out, List.drop_eq_nil_of_le (by omega)]; rfl
        have HN2 := Aside0.mk (Kd.N_below (Kd.N_below HN.out HB.out) HB2.out)
        have HX2 := Aside0.mk (Kd.N_below HX.out HB2.out)
        have HBB := Aside0.mk (HB.out.trans (HB2.out.mono HB.out.size))
        clear HA HB2 HX
        rcases hbest with ⟨rfl, rfl⟩ | ⟨j, hj, rfl, rfl⟩
        · have HE := Aside0.mk (show sortedR l part = xs by rw [HS.out]; unfold sortedF; rw [hA]; simp)
          clear hA hlen
          go_wp2
          go_ret
          exact ⟨_, rfl, ⟨by rw [HE.out]; exact HX2.out⟩, ⟨HBB.out⟩⟩
        · obtain ⟨gv, cap', e, hcap, c0, c1, c2, cf⟩ := rowW_at HN2.out hj
          cases e
          have hab2 := above_less hA
          obtain ⟨_, _, e, _, d0, _, _, _⟩ := rowW_at HN.out hj
          cases e
          have D0 := Aside0.mk d0
          clear d0
          have HE := Aside0.mk (show sortedR l part = (xs ++ [l[j]]) ++ sortedF l part k l[j].n by
            rw [HS.out, sortedF, hA, List.append_assoc]; rfl)
          have hjz : (j : Int) < (l.length : Int) := by omega
          have hjn : ¬ (j : Int) < 0 := by omega
          clear hA cf
          generalize l[j] = y at *
          go_wp2_with ((with_reducible refine gate_builtin (b := .append) (xs := #[.tmp 52, .tmp 57]) rfl ?_); at_builtin; refine Kd.N_append kW (w0 := W) W.heap.size rfl (.tmp 52) (.tmp 57) 48 61 (.agg #[.int .i64 0, .int .i64 0, .int .i64 0]) 24 rfl Try.underlying48 info61 rfl (by decide) (by omega) (.slice A5 xs.length c5) xs y [.int .i64 y.n, .int .i64 y.v, .int .i64 y.part] (fun _ => True) (fun _ => False) rfl rfl ?aP (fun _ hk => hk.elim) (fun _ _ => trivial) ?aO ?aB ?aS ?aL ?_; (case aP => exact fun W' _ => kW_mk W' _); (case aO => exact HX2.out); (case aB => exact HBB.out); (case aS => exact HBB.out.size); (case aL => omega); intro v1 w1 ho hb hg hat; have HN1 := Aside0.mk ho; have HB1 := Aside0.mk hb; have HG1 := Aside0.mk hg; have c01 := pw_cell_below HB1.out D0.out; clear ho hb hg hat c0 c1 c2)
          go_roundg k
          case measure => omega
          case rel => exact ⟨k, y.n, xs ++ [y], Nat.le_refl _, by omega, rfl, HN1, HB1, HE, by simp; omega⟩
end
end Go.Proofs.Ytcnbgamalhfkmaa.P
namespace Go.Proofs.Ytcnbgamalhfkmaa.P
open Go.RowKit Go.Proofs.YtcnbgamalhfkmaaW.PrintWords Go.Proofs.YtcnbgamalhfkmaaW.PrintLast Go.Proofs.YtcnbgamalhfkmaaW.PrintMore
set_option linter.unusedVariables false
set_option linter.unusedSimpArgs false
open Go.WideShapes Go.Maps Go.Shelf
section
variable {W : World} {base : Nat} {σ : Nat → Nat} {a : Nat} {s : REng} {V : Value} {gt : Nat} {tc : Array Value}
set_option maxHeartbeats 8000000 in
set_option maxRecDepth 100000 in
theorem rabort_calls (h : RefAt W base σ a s V gt tc) (t : Int) (hv : s.vars.length ≤ 100000) :
    Calls Try.prog 33 #[.pointer (some ⟨a, 0, none⟩), .int .i64 t] W fun e w' => e = .returned (.int .i64 (abortR s t).1) ∧ RefPost W base σ a (abortR s t).2 w' := by
  have HO := Aside0.mk (show abortR s t = if !hasR s t || decide (0 < (txR s t).stamp) then (1, s) else (0, setTR { s with vars := s.vars.map (freeV t) } t zR) from rfl)
  have HH := Aside0.mk h
  have hop := rhas_calls h t
  cases hb : hasR s t with
  | false =>
    have HE := Aside0.mk (show abortR s t = (1, s) by rw [HO.out, hb]; rfl)
    rw [hb] at hop
    clear h HO
    go_enter Try.func33, Try.ntmps33
    go_wp2_with fail
    refine hop.mono ?_; rintro e w' ⟨rfl, rfl⟩
    clear hop
    go_wp2
    go_ret
    exact ⟨by rw [HE.out]; rfl, by rw [HE.out]; exact RefPost.refl HH.out⟩
  | true =>
    obtain ⟨tn, rfl, ht⟩ := hasR_in hb
    have ht8 : (tn : Int) < 8 := by omega
    obtain ⟨rd, pu, hc⟩ := h.cells ht
    rw [hb] at hop
    have k2 := h.cell2
    have c6 := hc.c6
    by_cases hs : 0 < (txR s tn).stamp
    · have HE := Aside0.mk (show abortR s tn = (1, s) by rw [HO.out, hb, decide_eq_true hs]; rfl)
      generalize (txR s tn).stamp = st at *
      clear h HO hc hb
      go_enter Try.func33, Try.ntmps33
      go_wp2_with fail
      refine hop.mono ?_; rintro e w' ⟨rfl, rfl⟩
      clear hop
      go_wp2
      go_ret
      exact ⟨by rw [HE.out]; rfl, by rw [HE.out]; exact RefPost.refl HH.out⟩
    · have HE := Aside0.mk (show abortR s tn = (0, setTR { s with vars := s.vars.map (freeV tn) } tn zR) by rw [HO.out, hb, decide_eq_false hs]; rfl)
      have kg1 := h.cell1
      obtain ⟨A, c, rfl⟩ := Kd.N_slice h.vars
      generalize (txR s tn).stamp = st at *
      clear h HO hc hb
      go_enter Try.func33, Try.ntmps33
      go_wp2_with fail
      refine hop.mono ?_; rintro e w' ⟨rfl, rfl⟩
      clear hop
      go_wp2
      go_loopg [6] s.vars.length (fun gg s6 wr => ∃ i : Nat, i ≤ s.vars.length ∧ s.vars.length - i ≤ gg ∧ s6 = .int .i64 i ∧ Aside0 (RefAt wr base σ a { s with vars := partF tn s.vars i } (.slice A s.vars.length c) gt tc) ∧ Aside0 (Did W base σ σ wr))
      case atStart => exact ⟨0, Nat.zero_le _, by omega, rfl, ⟨HH.out⟩, ⟨Did.refl⟩⟩
      case round =>
        obtain ⟨i, hi, hg, rfl, HR, HD⟩ := hrel
        have hpl := partF_len tn s.vars i hi
        have kg2 := HR.out.cell1
        by_cases hlt : i < s.vars.length
        · have hltz : (i : Int) < (s.vars.length : Int) := by omega
          have hi2 : i < (partF tn s.vars i).length := by omega
          obtain ⟨gu, cu, e1, hcu, v0, v1, v2, vf⟩ := rowR_at HR.out.vars hi2
          obtain ⟨rfl, rfl⟩ : A = some ⟨gu, 0, none⟩ ∧ c = cu := by injection e1 with a b c; exact ⟨a, c⟩
          rw [show ({ s with vars := partF tn s.vars i } : REng).vars[i]'hi2 = s.vars[i] from partF_at hlt] at v0 v1 v2
          have vf2 := vf 2
          clear e1 vf v0 v1
          by_cases hl1 : s.vars[i].lock = (tn : Int)
          · have HL := Aside0.mk hl1
            rw [hl1] at v2
            clear hl1
            go_wp2
            go_roundg (s.vars.length - (i + 1))
            case measure => omega
            case rel =>
              obtain ⟨hE3, hD3⟩ := HR.out.set_var (gv := gu) (cap := c) (i := i) (j := 2) (seg := [.int .i64 (-1)]) (by show _ = Value.slice _ (partF tn s.vars i).length _; rw [hpl]) hi2 (by simp) { s.vars[i] with lock := -1 } (by rw [varR_at hi2, show ({ s with vars := partF tn s.vars i } : REng).vars[i]'hi2 = s.vars[i] from partF_at hlt]; rfl)
              have e2 : P.setVR { s with vars := partF tn s.vars i } (i : Int) { s.vars[i] with lock := -1 } = { s with vars := partF tn s.vars (i + 1) } := by
                rw [← partF_step hlt]
                unfold freeV
                rw [if_pos (by simpa using HL.out)]
                simp [P.setVR]
              rw [e2] at hE3
              exact ⟨i + 1, by omega, by omega, by go_num, ⟨hE3⟩, ⟨HD.out.trans hD3⟩⟩
          · have HS := Aside0.mk (partF_same hlt hl1)
            generalize s.vars[i].lock = lk at *
            go_wp2
            go_roundg (s.vars.length - (i + 1))
            case measure => omega
            case rel => exact ⟨i + 1, by omega, by omega, by go_num, ⟨by rw [← HS.out]; exact HR.out⟩, ⟨HD.out⟩⟩
        · have hltz : ¬ (i : Int) < (s.vars.length : Int) := by omega
          have e3 : partF tn s.vars i = s.vars.map (freeV tn) := by unfold partF; rw [List.take_of_length_le (by omega), List.drop_eq_nil_of_le (by omega), List.append_nil]
          have HR2 := Aside0.mk (show RefAt wr base σ a { s with vars := s.vars.map (freeV tn) } (.slice A s.vars.length c) gt tc by rw [← e3]; exact HR.out)
          obtain ⟨rd2, pu2, hc2⟩ := HR2.out.cells ht
          have HC2 := Aside0.mk hc2
          have q2 := HR2.out.cell2
          have d0 := hc2.c0
          have d1 := hc2.c1
          have d2 := hc2.c2
          have d3 := hc2.c3
          have d4 := hc2.c4
          have d5 := hc2.c5
          have d6 := hc2.c6
          have d7 := hc2.c7
          have g0 : wr.frozen? ⟨gt, tn * 8, none⟩ = false := hc2.froz 0
          have g1 := hc2.froz 1
          have g2 := hc2.froz 2
          have g3 := hc2.froz 3
          have g4 := hc2.froz 4
          have g5 := hc2.froz 5
          have g6 := hc2.froz 6
          have g7 := hc2.froz 7
          clear HR e3 hc2 k2 c6
          go_wp2
          go_ret
          rw [HE.out]
          exact ⟨rfl, RefPost.via HD.out (HR2.out.seg ht HC2.out 0 [.bool false, .int .i64 0, .slice none 0 0, .slice none 0 0, .int .i64 0, .bool false, .int .i64 0, .int .i64 0] (Nat.le_refl 8) (.inr ⟨rfl, rfl⟩) (.inr ⟨rfl, rfl⟩) rfl)⟩
end
end Go.Proofs.Ytcnbgamalhfkmaa.P
namespace Go.Proofs.Ytcnbgamalhfkmaa.P
open Go.RowKit Go.Proofs.YtcnbgamalhfkmaaW.PrintWords Go.Proofs.YtcnbgamalhfkmaaW.PrintLast Go.Proofs.YtcnbgamalhfkmaaW.PrintMore
set_option linter.unusedVariables false
set_option linter.unusedSimpArgs false
open Go.WideShapes Go.Maps
/-- Two rows of puts that were made since W0. -/
structure Two (W0 W : World) (v9 v10 : Value) (rest own : List RPut) : Prop where
  r : Kd.N kW 61 W W0.heap.size (fun _ => True) v9 rest
  o : Kd.N kW 61 W W0.heap.size (fun _ => True) v10 own
  ap : ∀ k, v9.ownBlock = some k → v10.ownBlock ≠ some k
  be : Below W0.heap.size W0 W
theorem Two.nil (W0 : World) : Two W0 W0 (.slice none 0 0) (.slice none 0 0) [] [] := ⟨Kd.N_nil _ _ _ _ _, Kd.N_nil _ _ _ _ _, fun k hk => by simp [Value.ownBlock] at hk, Below.refl _ _⟩
section
variable {W0 W w1 : World} {v9 v10 v1 : Value} {rest own l' : List RPut}
theorem Two.below (h : Two W0 W v9 v10 rest own) (hb : Below W.heap.size W w1) : Two W0 w1 v9 v10 rest own := ⟨Kd.N_below h.r hb, Kd.N_below h.o hb, h.ap, h.be.trans (hb.mono h.be.size)⟩
theorem Two.turnO (h : Two W0 W v9 v10 rest own) (hN : Kd.N kW 61 w1 W0.heap.size (fun _ => True) v1 l') (hb : Below W0.heap.size W0 w1) (hg : W.grownBy w1 v10.ownBlock) (hat : v1.ownBlock = v10.ownBlock ∨ ∃ b, v1.ownBlock = some b ∧ W.heap.size ≤ b) : Two W0 w1 v9 v1 rest l' := by
  refine ⟨N_flat_move kW_flat h.r fun k hk => hg.block k (Kd.N_lt h.r k hk) (fun e => h.ap k hk e.symm), hN, fun k hk e => ?_, hb⟩
  rcases hat with e1 | ⟨b, e1, hb1⟩
  · exact h.ap k hk (e1.symm.trans e)
  · rw [e1] at e; injection e with e; have := Kd.N_lt h.r k hk; omega
theorem Two.turnR (h : Two W0 W v9 v10 rest own) (hN : Kd.N kW 61 w1 W0.heap.size (fun _ => True) v1 l') (hb : Below W0.heap.size W0 w1) (hg : W.grownBy w1 v9.ownBlock) (hat : v1.ownBlock = v9.ownBlock ∨ ∃ b, v1.ownBlock = some b ∧ W.heap.size ≤ b) : Two W0 w1 v1 v10 l' own := by
  refine ⟨hN, N_flat_move kW_flat h.o fun k hk => hg.block k (Kd.N_lt h.o k hk) (fun e => h.ap k e.symm hk), fun k hk e => ?_, hb⟩
  rcases hat with e1 | ⟨b, e1, hb1⟩
  · exact h.ap k (e1.symm.trans hk) e
  · rw [e1] at hk; injection hk with hk; have := Kd.N_lt h.o k e; omega
end
theorem withRow_same2 {W : World} {ρ : Nat → Nat} {v v1 : Value} {r : Nat} (hv : ∀ k, v.ownBlock = some k → ρ k = r) (hat : ∀ k, v1.ownBlock = some k → v.ownBlock = some k ∨ W.heap.size ≤ k) : Same W ρ (withRow ρ v1 r) := fun k hk => by
  unfold withRow
  split
  · next h =>
    rcases hat k h with e | e
    · exact (hv k e).symm
    · omega
  · rfl
theorem setTR_twice (s : REng) (t : Int) (x x' : RTx) : setTR (setTR s t x) t x' = setTR s t x' := by simp [setTR]
theorem txR_set {s : REng} {t : Nat} (ht : t < s.txs.length) (x : RTx) : txR (setTR s (t : Int) x) t = x := by simp [txR, setTR, List.getD_eq_getElem?_getD, ht]
section
variable {W : World} {base : Nat} {σ : Nat → Nat} {a : Nat} {s : REng} {V : Value} {gt : Nat} {tc : Array Value}
theorem RefAt.lay_puts (h : RefAt W base σ a s V gt tc) {t : Nat} (ht : t < 8) {rd pu : Value} (hc : RCells W base σ t gt tc (txR s t) rd pu) {w1 : World} {v1 : Value} {l' : List RPut} (hN : Kd.N kW 61 w1 base (fun _ => True) v1 l') (hb : Below base W w1) (hg : W.grownBy w1 pu.ownBlock)
    (hat : ∀ k, v1.ownBlock = some k → pu.ownBlock = some k ∨ W.heap.size ≤ k) : ∃ σ' tc', RefAt (w1.setCell ⟨gt, t * 8 + 3, none⟩ v1) base σ' a (setTR s (t : Int) { txR s t with puts := l' }) V gt tc' ∧ Did W base σ σ' (w1.setCell ⟨gt, t * 8 + 3, none⟩ v1) := by
  have hgl := h.own gt (by rw [h.trole]; omega)
  have hpa : ∀ k, pu.ownBlock = some k → σ k = 9 + 2 * t := hc.puts.1
  have hng : ∀ k, v1.ownBlock = some k → k ≠ gt := fun k hk e => by
    rcases hat k hk with e1 | hb1
    · have := hpa k e1; have := h.trole; subst e; omega
    · omega
  have hold : ∀ k, σ k ≠ 0 → σ k ≠ 3 → σ k ≠ 9 + 2 * t → (w1.setCell ⟨gt, t * 8 + 3, none⟩ v1).heap[k]? = W.heap[k]? := fun k h0 h3 h9 => by
    rw [Below.heap_setCell w1 ⟨gt, t * 8 + 3, none⟩ v1 k (fun e => h3 (by rw [e]; exact h.trole))]
    exact hg.block k (h.own k h0).2 (fun e => h9 (hpa k e.symm))
  have hbk : w1.heap[gt]? = some (.cells tc 51 (0, 0)) := (hg.block gt hgl.2 (fun e => by have := hpa gt e.symm; have := h.trole; omega)).trans h.tblk
  have hs : Same W σ (withRow σ v1 (9 + 2 * t)) := withRow_same2 hpa hat
  have hr : ∀ k, σ k ≠ 0 → withRow σ v1 (9 + 2 * t) k = σ k := fun k hk => hs k (h.own k hk).2
  have hsz := h.tsize
  refine ⟨withRow σ v1 (9 + 2 * t), tc.setIfInBounds (t * 8 + 3) v1, h.turn ht hs ?_ (fun k h0 h3 h8 h9 => hold k h0 h3 (by omega)) (blk_set hbk _ v1) (by simp [hsz]) (fun i hi => by rw [Array.getElem?_setIfInBounds_ne (by omega)]) ⟨rd, v1, fun i u hi => ?_, ?_, ?_⟩, hs, ?_, ?_⟩
  · rw [setCell_size]; exact withRow_own h.own hg.size (N_in hN)
  · by_cases e : i = 3
    · subst e
      rw [show 8 * t + 3 = t * 8 + 3 by omega, Array.getElem?_setIfInBounds_self_of_lt (by omega)]
      exact hi
    · rw [Array.getElem?_setIfInBounds_ne (by omega)]
      refine hc.all i u ?_
      match i, e, hi with
      | 0, _, hi => exact hi
      | 1, _, hi => exact hi
      | 2, _, hi => exact hi
      | 3, e, _ => exact absurd rfl e
      | 4, _, hi => exact hi
      | 5, _, hi => exact hi
      | 6, _, hi => exact hi
      | 7, _, hi => exact hi
      | _ + 8, _, hi => cases hi
  · exact N_flat kI_flat (N_flat_move kI_flat hc.reads fun k hk => (by have := hc.reads.1 k hk; exact hold k (by omega) (by omega) (by omega))) fun k hk => (by have := hc.reads.1 k hk; show withRow σ v1 _ k = _; rw [hr k (by omega)]; exact this)
  · exact N_flat kW_flat (N_flat_move kW_flat hN fun k hk => Below.heap_setCell w1 ⟨gt, t * 8 + 3, none⟩ v1 k (hng k hk)) withRow_at
  · exact Kept.setCell (Kept.of_grown hg (Kept.refl W _) (fun k e => .inl (by rw [hpa k e]; omega))) (.inl (by show σ gt ≠ 0; rw [h.trole]; omega)) v1
  · exact hb.setCell (p := ⟨gt, t * 8 + 3, none⟩) hgl.1 v1
theorem RefAt.lay_two (h : RefAt W base σ a s V gt tc) {t : Nat} (ht : t < 8) {rd pu : Value} (hc : RCells W base σ t gt tc (txR s t) rd pu) {w1 : World} {v9 v10 : Value} {rest own : List RPut} (hT : Two W w1 v9 v10 rest own) (k' : Int) :
    RefPost W base σ a (setTR s (t : Int) { txR s t with puts := rest, parts := k' }) ((w1.setCell ⟨gt, t * 8 + 3, none⟩ v9).setCell ⟨gt, t * 8 + 4, none⟩ (.int .i64 k')) := by
  have h1 := h.lay_puts ht hc (Kd.N_lower hT.r h.base_le) (hT.be.mono h.base_le) (grown_of_below hT.be _) (fun k hk => .inr (Kd.N_base hT.r k hk))
  obtain ⟨σ', tc', h1, hd⟩ := h1
  obtain ⟨rd1, pu1, hc1⟩ := h1.cells ht
  have hx := txR_set (s := s) (t := t) (by rw [h.len]; exact ht) { txR s t with puts := rest }
  have h2 := h1.seg ht hc1 4 [.int .i64 k'] (show 4 + 1 ≤ 8 by decide) (x' := { txR s t with puts := rest, parts := k' }) (.inl ⟨rfl, by rw [hx]⟩) (.inl ⟨rfl, by rw [hx]⟩) (by rw [hx]; rfl)
  rw [setTR_twice] at h2
  exact RefPost.via hd h2
theorem RCells.under {t : Nat} {x : RTx} {rd pu : Value} (hc : RCells W base σ t gt tc x rd pu) {W' : World} (hb : Below W.heap.size W W') : RCells W' base σ t gt tc x rd pu := by
  have k := fun {p : Addr} {v : Value} (h : W.cell? p = some v) => pw_cell_below hb h
  refine ⟨hc.all, Kd.N_below hc.reads hb, Kd.N_below hc.puts hb, fun j => ?_, k hc.c0, k hc.c1, k hc.c2, k hc.c3, k hc.c4, k hc.c5, k hc.c6, k hc.c7⟩
  have := hb.frozen (p := ⟨gt, t * 8 + j, none⟩) (show gt < W.heap.size from World.block_lt_of_cell? W ⟨gt, t * 8, none⟩ hc.c0)
  rw [this]; exact hc.froz j
set_option maxHeartbeats 8000000 in
set_option maxRecDepth 100000 in
theorem rshut_calls (h : RefAt W base σ a s V gt tc) (t : Int) (keep : Bool) (hp : openR s t = true → (txR s t).puts.length ≤ 100000 ∧ 1 ≤ (txR s t).parts ∧ (txR s t).parts ≤ 1000000) : Calls Try.prog 50 #[.pointer (some ⟨a, 0, none⟩), .int .i64 t, .bool keep] W fun e w' => e = .returned (.int .i64 (shutR s t keep).1) ∧ RefPost W base σ a (shutR s t keep).2 w' := by
  have HO := Aside0.mk (show shutR s t keep = if !openR s t || (txR s t).parts == 1 then (1, s) else (0, setTR s t { txR s t with puts := if keep then ((txR s t).puts.filter fun p => p.part == (txR s t).parts).foldl (fun r p => putL p.n p.v ((txR s t).parts - 1) r) ((txR s t).puts.filter fun p => !(p.part == (txR s t).parts)) else (txR s t).puts.filter fun p => !(p.part == (txR s t).parts), parts := (txR s t).parts - 1 }) from rfl)
  have HH := Aside0.mk h
  have hop := ropen_calls h t
  cases hb : openR s t with
  | false =>
    have HE := Aside0.mk (show shutR s t keep = (1, s) by rw [HO.out, hb]; rfl)
    rw [hb] at hop
    clear h HO hp
    go_enter Try.func50, Try.ntmps50
    go_wp2_with fail
    refine hop.mono ?_; rintro e w' ⟨rfl, rfl⟩
    clear hop
    go_wp2
    go_ret
    exact ⟨by rw [HE.out]; rfl, by rw [HE.out]; exact RefPost.refl HH.out⟩
  | true =>
    obtain ⟨tn, rfl, ht⟩ := openR_in hb
    obtain ⟨hpp, hp1, hp2⟩ := hp hb
    have ht8 : (tn : Int) < 8 := by omega
    obtain ⟨rd, pu, hc⟩ := h.cells ht
    obtain ⟨x, hx⟩ : ∃ x, txR s tn = x := ⟨_, rfl⟩
    have HC0 := Aside0.mk hc
    have HX := Aside0.mk hx
    have hcx := hc
    rw [hx] at hcx hpp hp1 hp2
    rw [hb] at hop
    have k2 := h.cell2
    obtain ⟨A, c, rfl⟩ := Kd.N_slice hcx.puts
    have c3 := hcx.c3
    have c4 := hcx.c4
    have HC := Aside0.mk hcx
    by_cases h1 : x.parts = 1
    · have HE := Aside0.mk (show shutR s tn keep = (1, s) by rw [HO.out, hb, hx, h1]; rfl)
      rw [h1] at c4
      clear h HO hp hc hcx hx hb
      go_enter Try.func50, Try.ntmps50
      go_wp2_with fail
      refine hop.mono ?_; rintro e w' ⟨rfl, rfl⟩
      clear hop
      go_wp2
      go_ret
      exact ⟨by rw [HE.out]; rfl, by rw [HE.out]; exact RefPost.refl HH.out⟩
    · have h1b : (x.parts == 1) = false := beq_eq_false_iff_ne.2 h1
      have HE := Aside0.mk (show shutR s tn keep = (0, setTR s tn { txR s tn with puts := if keep then (x.puts.filter fun p => p.part == x.parts).foldl (fun r p => putL p.n p.v (x.parts - 1) r) (x.puts.filter fun p => !(p.part == x.parts)) else x.puts.filter fun p => !(p.part == x.parts), parts := x.parts - 1 }) by rw [HO.out, hb, hx, h1b]; rfl)
      obtain ⟨kk, hkk⟩ : ∃ kk, x.parts = kk := ⟨_, rfl⟩
      obtain ⟨l, hll⟩ : ∃ l, x.puts = l := ⟨_, rfl⟩
      rw [hkk, hll] at HE
      have hN := hcx.puts
      rw [hll] at hN c3 hpp
      rw [hkk] at c4 hp1 hp2 h1 h1b
      have HN := Aside0.mk hN
      clear h HO hp hc hcx hx hb hN
      go_enter Try.func50, Try.ntmps50
      go_wp2_with fail
      refine hop.mono ?_; rintro e w' ⟨rfl, rfl⟩
      clear hop
      go_wp2
      go_loopg [9, 10, 11, 12] l.length (fun gg s9 s10 s11 _ wr => ∃ i : Nat, i ≤ l.length ∧ l.length - i ≤ gg ∧ s11 = .int .i64 i ∧ Aside0 (Two W wr s9 s10 ((l.take i).filter fun p => !(p.part == kk)) ((l.take i).filter fun p => p.part == kk)))
      case atStart => exact ⟨0, Nat.zero_le _, by omega, rfl, ⟨Two.nil W⟩⟩
      case round =>
        obtain ⟨i, hi, hg, rfl, HT⟩ := hrel
        have k2r := pw_cell_below HT.out.be k2
        have c3r := pw_cell_below HT.out.be c3
        obtain ⟨A9, c9, e9⟩ := Kd.N_slice HT.out.r
        obtain ⟨A10, c10, e10⟩ := Kd.N_slice HT.out.o
        by_cases hlt : i < l.length
        · have hltz : (i : Int) < (l.length : Int) := by omega
          obtain ⟨gv, cap', e, hcap, v0, v1, v2, vf⟩ := rowW_at (Kd.N_below HN.out HT.out.be) hlt
          cases e
          subst e9 e10
          clear vf
          have htk : l.take (i + 1) = l.take i ++ [l[i]] := List.take_succ_eq_append_getElem hlt
          have hl1 : ((l.take i).filter fun p => !(p.part == kk)).length ≤ 100000 := Nat.le_trans (List.length_filter_le _ _) (by rw [List.length_take]; omega)
          have hl2 : ((l.take i).filter fun p => p.part == kk).length ≤ 100000 := Nat.le_trans (List.length_filter_le _ _) (by rw [List.length_take]; omega)
          go_upto_region 11 with (fail)
          have hb3 := below_1 wr (.cells #[.int .i64 l[i].n, .int .i64 l[i].v, .int .i64 l[i].part] 61)
          have hk3 := blk_new wr (.cells #[.int .i64 l[i].n, .int .i64 l[i].v, .int .i64 l[i].part] 61)
          have HT3 := Aside0.mk (HT.out.below hb3)
          have p0 := blk_cell hk3 0
          have p1 := blk_cell hk3 1
          have p2 := blk_cell hk3 2
          generalize wr.alloc (.cells #[.int .i64 l[i].n, .int .i64 l[i].v, .int .i64 l[i].part] 61) = w3 at *
          clear hb3 hk3 k2r c3r v0 v1 v2 HT
          cases e1 : l[i].part == kk with
          | true =>
            have HF := Aside0.mk (show ((l.take (i + 1)).filter fun p => !(p.part == kk)) = ((l.take i).filter fun p => !(p.part == kk)) ∧ ((l.take (i + 1)).filter fun p => p.part == kk) = ((l.take i).filter fun p => p.part == kk) ++ [l[i]] by rw [htk, List.filter_append, List.filter_append]; simp [e1])
            generalize l[i] = y at *
            generalize ((l.take i).filter fun p => !(p.part == kk)) = rest at *
            generalize ((l.take i).filter fun p => p.part == kk) = own at *
            clear htk
            go_wp2_with ((with_reducible refine gate_builtin (b := .append) (xs := #[.tmp 66, .tmp 68]) rfl ?_); at_builtin; refine Kd.N_append kW (w0 := W) W.heap.size rfl (.tmp 66) (.tmp 68) 48 61 (.agg #[.int .i64 0, .int .i64 0, .int .i64 0]) 24 rfl Try.underlying48 info61 rfl (by decide) (by omega) (.slice A10 own.length c10) own y [.int .i64 y.n, .int .i64 y.v, .int .i64 y.part] (fun _ => True) (fun _ => False) rfl rfl ?aP (fun _ hk => hk.elim) (fun _ _ => trivial) ?aO ?aB ?aS ?aL ?_; (case aP => exact fun W' _ => kW_mk W' _); (case aO => exact HT3.out.o); (case aB => exact HT3.out.be); (case aS => exact HT3.out.be.size); (case aL => omega); intro u1 w1 ho hb hg hat; have HT4 := Aside0.mk (HT3.out.turnO ho hb hg hat); clear ho hb hg hat)
            go_roundg (l.length - (i + 1))
            case measure => omega
            case rel => exact ⟨i + 1, by omega, by omega, by go_num, ⟨by rw [HF.out.1, HF.out.2]; exact HT4.out⟩⟩
          | false =>
            have HF := Aside0.mk (show ((l.take (i + 1)).filter fun p => !(p.part == kk)) = ((l.take i).filter fun p => !(p.part == kk)) ++ [l[i]] ∧ ((l.take (i + 1)).filter fun p => p.part == kk) = ((l.take i).filter fun p => p.part == kk) by rw [htk, List.filter_append, List.filter_append]; simp [e1])
            generalize l[i] = y at *
            generalize ((l.take i).filter fun p => !(p.part == kk)) = rest at *
            generalize ((l.take i).filter fun p => p.part == kk) = own at *
            clear htk
            go_wp2_with ((with_reducible refine gate_builtin (b := .append) (xs := #[.tmp 70, .tmp 72]) rfl ?_); at_builtin; refine Kd.N_append kW (w0 := W) W.heap.size rfl (.tmp 70) (.tmp 72) 48 61 (.agg #[.int .i64 0, .int .i64 0, .int .i64 0]) 24 rfl Try.underlying48 info61 rfl (by decide) (by omega) (.slice A9 rest.length c9) rest y [.int .i64 y.n, .int .i64 y.v, .int .i64 y.part] (fun _ => True) (fun _ => False) rfl rfl ?aP (fun _ hk => hk.elim) (fun _ _ => trivial) ?aO ?aB ?aS ?aL ?_; (case aP => exact fun W' _ => kW_mk W' _); (case aO => exact HT3.out.r); (case aB => exact HT3.out.be); (case aS => exact HT3.out.be.size); (case aL => omega); intro u1 w1 ho hb hg hat; have HT4 := Aside0.mk (HT3.out.turnR ho hb hg hat); clear ho hb hg hat)
            go_roundg (l.length - (i + 1))
            case measure => omega
            case rel => exact ⟨i + 1, by omega, by omega, by go_num, ⟨by rw [HF.out.1, HF.out.2]; exact HT4.out⟩⟩
        · have hltz : ¬ (i : Int) < (l.length : Int) := by omega
          have etk : l.take i = l := List.take_of_length_le (by omega)
          rw [etk] at HT e9 e10
          have hlr : (l.filter fun p => !(p.part == kk)).length ≤ l.length := List.length_filter_le _ _
          have hlo : (l.filter fun p => p.part == kk).length ≤ l.length := List.length_filter_le _ _
          subst e9 e10
          generalize (l.filter fun p => !(p.part == kk)) = rest at *
          generalize (l.filter fun p => p.part == kk) = own at *
          clear etk
          go_wp2
          go_loopg [9, 13] own.length (fun gg s9 s13 wr => ∃ (j : Nat) (rest' : List RPut), j ≤ own.length ∧ own.length - j ≤ gg ∧ s13 = .int .i64 j ∧ Aside0 (Two W wr s9 (.slice A10 own.length c10) rest' own) ∧ Aside0 (rest' = if keep then (own.take j).foldl (fun r p => putL p.n p.v (kk - 1) r) rest else rest) ∧ rest'.length ≤ rest.length + j)
          case atStart => exact ⟨0, rest, Nat.zero_le _, by omega, rfl, ⟨HT.out⟩, ⟨by cases keep <;> rfl⟩, Nat.le_refl _⟩
          case round =>
            clear HT k2r c3r
            obtain ⟨j, rest', hj, hg, rfl, HT, HR, hrl⟩ := hrel
            obtain ⟨A9', c9', rfl⟩ := Kd.N_slice HT.out.r
            have k2r := pw_cell_below HT.out.be k2
            by_cases hgo : keep = true ∧ j < own.length
            · obtain ⟨rfl, hjl⟩ := hgo
              have hjz : (j : Int) < (own.length : Int) := by omega
              obtain ⟨go, cap', e, hcap, v0, v1, v2, vf⟩ := rowW_at HT.out.o hjl
              cases e
              have HTD := Aside0.mk (HT.out.below (below_drew (Below.refl _ _)))
              have hput := put_calls HTD.out.r HTD.out.be.size (by omega) own[j].n own[j].v (kk - 1)
              have hpl := putL_len own[j].n own[j].v (kk - 1) rest'
              have HRS := Aside0.mk (show putL own[j].n own[j].v (kk - 1) rest' = if true then (own.take (j + 1)).foldl (fun r p => putL p.n p.v (kk - 1) r) rest else rest by
                rw [List.take_succ_eq_append_getElem hjl, List.foldl_append, HR.out]; rfl)
              generalize own[j] = y at *
              have hw : wrap64 (kk - 1) = kk - 1 := IntWalk.wrap64_in _ (by omega)
              clear vf HR
              go_wp2_with fail
              go_still_tail 13, (by kernel_rfl)
              change wpList _ _ _ _ _ wr.drew
              go_wp2_with fail
              refine hput.mono ?_; rintro e w1 ⟨u1, rfl, HN1, HB1, HG1, HA1⟩
              have HT1 := Aside0.mk (HTD.out.turnR HN1.out (HTD.out.be.trans HB1.out) HG1.out HA1.out)
              clear hput v0 v1 v2 k2r
              go_wp2
              go_roundg (own.length - (j + 1))
              case measure => omega
              case rel => exact ⟨j + 1, _, by omega, by omega, by go_num, HT1, HRS, by omega⟩
            · have HE2 := Aside0.mk (show shutR s tn keep = (0, setTR s tn { txR s tn with puts := rest', parts := kk - 1 }) by
                rw [HE.out, HR.out]
                cases keep with
                | false => rfl
                | true =>
                  have : own.length ≤ j := by
                    by_cases e : j < own.length
                    · exact absurd ⟨rfl, e⟩ hgo
                    · omega
                  rw [List.take_of_length_le this])
              have hcw := HC.out.under HT.out.be
              have d3 := hcw.c3
              rw [hll] at d3
              have d4 := hcw.c4
              have f3 := hcw.froz 3
              have f4 := hcw.froz 4
              have hw : wrap64 (kk - 1) = kk - 1 := IntWalk.wrap64_in _ (by omega)
              clear HE HR hcw
              have hcs : (keep = false ∧ (j : Int) < (own.length : Int)) ∨ ¬ (j : Int) < (own.length : Int) := by
                by_cases e : j < own.length
                · left
                  refine ⟨?_, by omega⟩
                  cases keep with
                  | false => rfl
                  | true => exact absurd ⟨rfl, e⟩ hgo
                · right; omega
              clear hgo
              rcases hcs with ⟨rfl, hjz⟩ | hjz
              · go_wp2
                go_ret
                rw [HE2.out]
                exact ⟨rfl, HH.out.lay_two ht HC0.out HT.out (kk - 1)⟩
              · go_wp2
                go_ret
                rw [HE2.out]
                exact ⟨rfl, HH.out.lay_two ht HC0.out HT.out (kk - 1)⟩
end
end Go.Proofs.Ytcnbgamalhfkmaa.P
