/- tl2: a thread is brought to its end, in both. tl2: Locks walked. Behind its end no thread has a lock. -/
import Derived.Test.YtcnbgamalhfkmaaMP
import Derived.Test.YtcnbgamalhfkmaaMN
import Derived.Test.YtcnbgamalhfkmaaRows
import Derived.Test.YtcnbgamalhfkmaaML
import Derived.WalkKit
import Derived.ProofKit
import Derived.OpenShut
import Derived.ShutString
import Derived.ChangeOld
import Derived.Below
import Derived.SizedLaws
import Derived.Carry
namespace Go.Proofs.Ytcnbgamalhfkmaa.P
set_option linter.unusedVariables false
set_option linter.unusedSimpArgs false
section
variable {m : Nat} {s : PEng} {r : REng} {x : PTx}
theorem VN.abort (h : VN s) (t : Int) : VN (abortE s t).2 := by
  have := vn_step h ⟨7, t, 0, 0⟩
  unfold doE at this
  simpa using this
theorem VN.endE (h : VN s) (t : Int) (x : PTx) : VN (P.endE s t x) := by
  unfold P.endE
  split
  · exact h.step t
  · exact h.abort t
theorem Sim.rs (h : Sim m s r) (hm : m ≤ 900) (t : Int) : hasR r t = true → RStepOK r (txR r t) := fun hh => by
  rcases h.of t with ⟨_, h2⟩ | ⟨tn, x, e, ht, h1, h2, hx⟩
  · rw [h2] at hh; cases hh
  · exact h.rstepOK hm hx
theorem Sim.abort_same (h : Sim m s r) {t : Int} (hx : ofE s t = some x) (hp : x.pointed = true) : abortR r t = (1, r) := by
  rcases h.of t with ⟨h1, _⟩ | ⟨tn, x', e, ht, h1, h2, hs⟩
  · rw [h1] at hx; cases hx
  · rw [h1] at hx
    injection hx with e2
    subst e2
    unfold abortR
    rw [h2, ← hs.pointed, hp]; rfl
theorem Sim.abort_ans (h : Sim m s r) {t : Int} (hx : ofE s t = some x) (hp : x.pointed = false) : (abortE s t).1 = 0 ∧ (abortR r t).1 = 0 := by
  have h1 : (abortE s t).1 = 0 := by rw [abort_of hx, hp]; rfl
  exact ⟨h1, by rw [(h.abort t).1, h1]⟩
theorem LV.free (h : LV s) (hv : r.vars = s.vars) {t : Nat} (ht : t < 8) (hn : ofE s (t : Int) = none) {k : Nat} (hk : k < r.vars.length) : (r.vars[k].lock == (t : Int)) = false := by
  have hks : k < s.vars.length := by rw [← hv]; exact hk
  have e : r.vars[k] = s.vars[k] := by simp only [hv]
  rw [e]
  simp only [beq_eq_false_iff_ne]
  intro hl
  obtain ⟨x, hx, _⟩ := h.lock k t hks ht hl
  rw [hn] at hx; cases hx
end
end Go.Proofs.Ytcnbgamalhfkmaa.P
namespace Go.Proofs.Ytcnbgamalhfkmaa.P
open Go.RowKit Go.Proofs.YtcnbgamalhfkmaaW.PrintWords Go.Proofs.YtcnbgamalhfkmaaW.PrintLast Go.Proofs.YtcnbgamalhfkmaaW.PrintMore
set_option linter.unusedVariables false
set_option linter.unusedSimpArgs false
open Go.WideShapes Go.Maps Go.Shelf
set_option maxHeartbeats 8000000 in
set_option maxRecDepth 100000 in
theorem tl2Locks_calls (w : World) (A : Option Addr) (c : Nat) (l : List PDeed) (n : Int) (hn : in64 n) (hl : DeedsAt w A l) (hlc : l.length ≤ c) :
    Calls Try.prog 9 #[.slice A l.length c, .int .i64 n] w fun e w' => e = .returned (.bool true) ∧ Below w.heap.size w w' := by
  have hb := begin2_calls w
  have HL := Aside0.mk hl
  clear hl
  go_enter Try.func9, Try.ntmps9
  go_wp2_with fail
  refine hb.mono ?_; rintro e W0 ⟨rfl, hP⟩
  have H0 := Aside0.mk hP.toF
  clear hb hP
  obtain ⟨g, hg⟩ : ∃ g, w.heap.size = g := ⟨_, rfl⟩
  obtain ⟨a, ha⟩ : ∃ a, w.heap.size + 1 + 1 = a := ⟨_, rfl⟩
  rw [ha, hg] at H0
  rw [ha, hg]
  go_upto_block 0 with (fail)
  go_cut [7] (fun _ wc => ∃ (s : PEng) (r : REng), Aside0 (PairF w (fun _ => False) g a s r wc) ∧ Aside0 (Sim 40 s r ∧ VN s ∧ LV s))
  case first =>
    go_wp2_with fail
    go_loopg [7] 40 (fun gg s7 wr => ∃ (i : Nat) (s : PEng) (r : REng), i ≤ l.length ∧ i ≤ 40 ∧ 40 - i ≤ gg ∧ s7 = .int .i64 i ∧ Aside0 (PairF w (fun _ => False) g a s r wr) ∧ Aside0 (Sim i s r ∧ VN s ∧ LV s))
    case atStart => exact ⟨0, _, _, Nat.zero_le _, by omega, by omega, rfl, H0, ⟨sim_beg, vn_beg, lv_beg⟩⟩
    case round =>
      clear H0
      obtain ⟨i, s, r, hi, hi60, hgg, rfl, HP, HI⟩ := hrel
      by_cases hlt : i < l.length ∧ i < 40
      · have hltz : (i : Int) < (l.length : Int) := by omega
        have hlt6 : (i : Int) < 40 := by omega
        obtain ⟨ad, hA, hok, c0, c1, c2, c3⟩ := HL.out.get HP.out.isBelow hlt.1
        have HD := Aside0.mk hok
        subst hA
        generalize l[i] = d at *
        have hdoes := does_calls HP.out d (HI.out.1.doOK (by omega) d HD.out)
        have HI2 := Aside0.mk (show Sim (i + 1) (doE s d).2.2 (doR r d).2.2 ∧ VN (doE s d).2.2 ∧ LV (doE s d).2.2 from ⟨(HI.out.1.does d).2.2, vn_step HI.out.2.1 d, lv_step HI.out.2.2 HI.out.1 d⟩)
        generalize doE s d = de at *
        generalize doR r d = dr at *
        go_wp2_with fail
        refine hdoes.mono ?_; rintro e w2 ⟨rfl, P2, K2⟩
        clear hdoes c0 c1 c2 c3 K2
        go_wp2
        go_roundg (40 - (i + 1))
        case measure => omega
        case rel => exact ⟨i + 1, de.2.2, dr.2.2, by omega, by omega, by omega, by go_num, P2, HI2⟩
      · have hfin : (¬ (i : Int) < (l.length : Int)) ∨ ((i : Int) < (l.length : Int) ∧ ¬ (i : Int) < 40) := by omega
        rcases hfin with h1 | ⟨h1, h2⟩
        all_goals
          go_wp2
          go_meet
          exact ⟨s, r, HP, ⟨HI.out.1.mono (by omega), HI.out.2⟩⟩
  case rest =>
    obtain ⟨s, r, HP, HI⟩ := hcut
    clear H0
    have hjn := absJ_in hn
    clear HL
    go_upto_if 37 with (fail)
    go_cut [1] (fun v1 wx => v1 = .int .i64 (absJ n) ∧ wc = wx)
    case first =>
      by_cases hneg : n < 0
      · have h1 : n + 1 ≤ 0 := by omega
        have h2 : -9223372036854775807 ≤ n + 1 := by unfold in64 at hn; omega
        have HE := Aside0.mk (show -(n + 1) = absJ n by unfold absJ; rw [if_pos hneg])
        go_wp2
        go_meet
        exact ⟨by rw [← HE.out], rfl⟩
      · have HE := Aside0.mk (show n = absJ n by unfold absJ; rw [if_neg hneg])
        go_wp2
        go_meet
        exact ⟨by rw [← HE.out], rfl⟩
    case rest =>
      obtain ⟨rfl, rfl⟩ := hcut
      have h4 := modJ (m := 8) (n := absJ n) (by omega)
      obtain ⟨t, hnn⟩ : ∃ t : Nat, absJ n % 8 = t := ⟨(absJ n % 8).toNat, by omega⟩
      rw [hnn] at h4
      have htn : t < 8 := by omega
      generalize absJ n = an at *
      go_upto_region 11 with (fail)
      rw [hnn]
      clear h4 hnn hjn hn
      go_upto_block 2 with (fail)
      go_cut [8, 9, 10] (fun _ _ _ wc => ∃ (s : PEng) (r : REng), Aside0 (PairF w (fun _ => False) g a s r wc) ∧ Aside0 (Sim 100 s r ∧ VN s ∧ LV s ∧ ofE s (t : Int) = none))
      case first =>
        go_wp2_with fail
        go_loopg [8, 9, 10] 60 (fun gg s8 _ _ wr => ∃ (i : Nat) (s : PEng) (r : REng), i ≤ 60 ∧ 60 - i ≤ gg ∧ s8 = .int .i64 i ∧ Aside0 (PairF w (fun _ => False) g a s r wr) ∧ Aside0 (Sim (40 + i) s r ∧ VN s ∧ LV s ∧ LB 40 s ∧ Going 40 s t i))
        case atStart => exact ⟨0, s, r, by omega, by omega, rfl, HP, ⟨HI.out.1, HI.out.2.1, HI.out.2.2, HI.out.1.lb, Going.start HI.out.1.lb htn⟩⟩
        case round =>
          clear HP HI
          obtain ⟨i, s, r, hi, hgi, rfl, HP, HI⟩ := hrel
          have hact := HP.out.active t
          by_cases hi6 : i < 60
          · have hi6z : (i : Int) < 60 := by omega
            cases hx : ofE s (t : Int) with
            | none =>
              rw [hx] at hact
              have HN := Aside0.mk hx
              clear hx
              go_wp2_with fail
              refine hact.mono ?_; rintro e w2 ⟨rfl, rfl⟩
              clear hact
              go_wp2
              go_meet
              exact ⟨s, r, HP, ⟨HI.out.1.mono (by omega), HI.out.2.1, HI.out.2.2.1, HN.out⟩⟩
            | some x =>
              rw [hx] at hact
              have hr := end_round HI.out.1 HI.out.2.2.1 htn hx
              have HR := Aside0.mk (show Sim (40 + (i + 1)) (endE s t x) (endR r t x) ∧ VN (endE s t x) ∧ LV (endE s t x) ∧ LB 40 (endE s t x) ∧ Going 40 (endE s t x) t (i + 1) from
                ⟨hr.1, HI.out.2.1.endE t x, hr.2.1, HI.out.2.2.2.1.next HI.out.1 HI.out.2.2.1 htn hx, HI.out.2.2.2.2.next HI.out.1 HI.out.2.2.1 htn hx⟩)
              have hab := HP.out.abort t (by have := HI.out.1.vl; omega)
              cases hp : x.pointed with
              | false =>
                obtain ⟨hab1, hab2⟩ := HI.out.1.abort_ans hx hp
                have HE := Aside0.mk (show (abortE s t).2 = endE s t x by unfold endE; rw [hp]; rfl)
                have HE2 := Aside0.mk (show (abortR r t).2 = endR r t x by unfold endR; rw [hp]; rfl)
                have HVL := Aside0.mk (show r.vars.length ≤ 100000 by have := HI.out.1.vl; rw [HI.out.1.vars]; omega)
                rw [hab1, HE.out] at hab
                clear hx hr hab1
                go_wp2_with fail
                refine hact.mono ?_; rintro e w2 ⟨rfl, rfl⟩
                clear hact
                go_wp2_with fail
                refine hab.mono ?_; rintro e w3 ⟨rfl, P3, K3⟩
                clear hab K3
                have hrab := P3.out.rabort t HVL.out
                rw [hab2, HE2.out] at hrab
                clear hab2
                go_wp2_with fail
                refine hrab.mono ?_; rintro e w4 ⟨rfl, P4, K4⟩
                clear hrab K4
                go_wp2
                go_roundg (60 - (i + 1))
                case measure => omega
                case rel => exact ⟨i + 1, endE s t x, endR r t x, by omega, by omega, by go_num, P4, HR⟩
              | true =>
                have hab1 : abortE s t = (1, s) := abort_same hx hp
                have hab2 : abortR r t = (1, r) := HI.out.1.abort_same hx hp
                have HE := Aside0.mk (show (stepE s t).2.2 = endE s t x by unfold endE; rw [hp]; rfl)
                have HE2 := Aside0.mk (show (stepR r t).2.2 = endR r t x by unfold endR; rw [hp]; rfl)
                have HVL := Aside0.mk (show r.vars.length ≤ 100000 by have := HI.out.1.vl; rw [HI.out.1.vars]; omega)
                rw [hab1] at hab
                have HFN := Aside0.mk (show Fine s from ⟨_, _, by omega, HI.out.1⟩)
                have HRS := Aside0.mk (HI.out.1.rs (by omega) t)
                clear hx hr hab1
                go_wp2_with fail
                refine hact.mono ?_; rintro e w2 ⟨rfl, rfl⟩
                clear hact
                go_wp2_with fail
                refine hab.mono ?_; rintro e w3 ⟨rfl, P3, K3⟩
                clear hab K3
                have hrab := P3.out.rabort t HVL.out
                rw [hab2] at hrab
                clear hab2
                go_wp2_with fail
                refine hrab.mono ?_; rintro e w4 ⟨rfl, P4, K4⟩
                clear hrab K4
                have hst := P4.out.step t (HFN.out.es t)
                rw [HE.out] at hst
                go_wp2_with fail
                refine hst.mono ?_; rintro e w5 ⟨rfl, P5, K5⟩
                clear hst K5
                have hrst := P5.out.rstep t HRS.out
                rw [HE2.out] at hrst
                go_wp2_with fail
                refine hrst.mono ?_; rintro e w6 ⟨rfl, P6, K6⟩
                clear hrst K6
                go_wp2
                go_roundg (60 - (i + 1))
                case measure => omega
                case rel => exact ⟨i + 1, endE s t x, endR r t x, by omega, by omega, by go_num, P6, HR⟩
          · have hi6z : ¬ (i : Int) < 60 := by omega
            have HN := Aside0.mk (HI.out.2.2.2.2.none_at (by omega))
            clear hact
            go_wp2
            go_meet
            exact ⟨s, r, HP, ⟨HI.out.1.mono (by omega), HI.out.2.1, HI.out.2.2.1, HN.out⟩⟩
      case rest =>
        clear HP HI
        obtain ⟨s, r, HP, HI⟩ := hcut
        obtain ⟨ρ, cells, vs, σ, V, gt, tc, h1, h2, _⟩ := HP.out
        have k1 := h2.cell1
        have HR := Aside0.mk h2
        obtain ⟨A1, c1, rfl⟩ := Kd.N_slice h2.vars
        clear h1 h2
        have hvl : r.vars.length ≤ 4000 := by rw [HI.out.1.vars]; exact HI.out.1.vl
        obtain ⟨vn, hvn⟩ : ∃ vn, r.vars.length = vn := ⟨_, rfl⟩
        have HVN := Aside0.mk hvn
        rw [hvn] at hvl k1
        clear hvn
        go_wp2
        go_loopg [11] vn (fun gg s11 wr => ∃ (k : Nat), k ≤ vn ∧ vn - k ≤ gg ∧ s11 = .int .i64 k ∧ wc = wr)
        case atStart => exact ⟨0, by omega, by omega, rfl, rfl⟩
        case round =>
          obtain ⟨k, hk, hgk, rfl, rfl⟩ := hrel
          by_cases hkl : k < vn
          · have hkz : (k : Int) < (vn : Int) := by omega
            have hkv : k < r.vars.length := by rw [HVN.out]; exact hkl
            obtain ⟨gv, cap, e, hcap, v0, v1, v2, vf⟩ := rowR_at HR.out.vars hkv
            rw [HVN.out] at e
            cases e
            have hfree := HI.out.2.2.1.free HI.out.1.vars htn HI.out.2.2.2 hkv
            generalize r.vars[k].lock = lk at *
            clear v0 v1 vf
            go_wp2
            go_roundg (vn - (k + 1))
            case measure => omega
            case rel => exact ⟨k + 1, by omega, by omega, by go_num, rfl⟩
          · have hkz : ¬ (k : Int) < (vn : Int) := by omega
            have hlike := like_calls HP.out HI.out.1 HI.out.2.1 HI.out.2.2.1 (by omega)
            go_wp2_with fail
            refine hlike.mono ?_; rintro e w4 ⟨rfl, HB4⟩
            clear hlike
            have P4 := Aside0.mk (HP.out.below HB4.out)
            have hact := P4.out.active t
            rw [HI.out.2.2.2] at hact
            have HBB := Aside0.mk P4.out.isBelow
            have hlv := lives2_calls w4
            clear P4 HP HB4
            go_wp2_with fail
            refine hact.mono ?_; rintro e w5 ⟨rfl, rfl⟩
            clear hact
            go_wp2_with fail
            refine hlv.mono ?_; rintro e w6 ⟨rfl, H6⟩
            clear hlv
            go_wp2
            go_ret
            exact ⟨rfl, HBB.out.trans (H6.mono HBB.out.size)⟩
end Go.Proofs.Ytcnbgamalhfkmaa.P
namespace Go.Proofs.Ytcnbgamalhfkmaa.tl2Locks
open Go.ChangeShapes Go.WideShapes Go.ChangeAt Go.RowKit
open Go.ChangeMaps (open_string shut_string)
set_option linter.unusedVariables false
theorem own : ownKnob Try.prog.godebug = none := by kernel_rfl
theorem laidOut : laidOutB Try.prog = true := by kernel_rfl
set_option maxRecDepth 100000 in
theorem lifted (os : Os) (started : os.Started) (H : Type) (enc : TypeId × Value → H) :
    ReturnsInHanded {} Try.checked os 9 .any (Rows.tl2LocksSpec.pre6 enc Try.prog Try.f9 Rows.tl2LocksRow.domain false) (Rows.tl2LocksSpec.post enc Try.prog Try.f9 false true false false) := by
  refine returnsInHanded_of_change_sized (C := Try.checked) own started (by kernel_rfl) Try.func9
    (ChangeSpec.witness6 (enc := enc) (C := Try.checked) false ⟨#[], #[.slice none 0 0, .int .i64 0], []⟩ 8 (by kernel_rfl) (by kernel_rfl) (by kernel_rfl) (by kernel_rfl)) ?_
  intro W base args ds gs before hval0 hW hcnd hsz0 _
  have hval : ∀ (j : Nat) t v, Try.f9.params[j]? = some t → args[j]? = some v → Value.okWide Try.prog W .any base t v := hval0
  have hW' := hW
  obtain ⟨p, q, hA0, hV, rfl, hfz, hnd⟩ := hW
  have hA : DataW.TrodAll enc Try.prog W 0 (fun _ => true) true Try.f9.params.toList args.toList ds p := hA0
  rw [Try.params9] at hA hval
  obtain ⟨v0, vs0, d0, ds0, p0, q0, hargs, rfl, rfl, h0, r0⟩ := trodAll_cons hA
  obtain ⟨v1, vs1, d1, ds1, p1, q1, rfl, rfl, rfl, h1, r1⟩ := trodAll_cons r0
  obtain ⟨rfl, rfl, rfl⟩ := trodAll_nil r1
  obtain rfl : args = #[v0, v1] := by cases args; simp_all
  obtain ⟨rfl, rfl⟩ := trodVars_none hV
  obtain ⟨a0, len0, cap0, rfl⟩ := okWide_slice Try.underlying22 (hval 0 22 v0 rfl rfl)
  have k0 := h0
  have lt0 : ∀ x ∈ p0, x.block < W.heap.size := by obtain ⟨m, hm⟩ := k0; exact DataW.trod_lt m _ _ _ hm
  obtain ⟨a1, rfl, rfl, rfl, w1⟩ := open_int Try.underlying3 (hval 1 3 v1 rfl rfl) h1
  obtain ⟨fuel, hf⟩ := h0
  obtain ⟨A, len, cap, l, he, hle, hll, hC⟩ := P.open_deeds hf
  have he2 : Value.slice a0 len0 cap0 = .slice A len cap := by
    first
    | exact (List.cons.inj he).1
    | (simpa [Value.cells] using he)
  rw [he2]
  subst hll
  clear hA0 hval0 hsz0
  refine (P.tl2Locks_calls W A cap l a1 (P.wf_in w1) hC hle).mono fun e W' ⟨he, bel⟩ => ?_
  subst he
  rw [← he2]
  exact ⟨_, rfl, _, _, _, [], _, [], hW', trodAll_mk1 (shut_bool Try.underlying4 _), (trodAll_cons_mk (Below.trod laidOut (by kernel_rfl) (of_decide_eq_true (by kernel_rfl)) k0 bel lt0) (trodAll_cons_mk (shut_int Try.underlying3 w1) trodAll_mk0)), rfl, bel.frame _, fun h => by cases h⟩
theorem over : Rows.tl2LocksRow.holds Try.pinned (OpenSpec.ofChange Rows.tl2LocksSpec) :=
  OpenClaim.holds_of_wide 9 Try.f9 rfl rfl rfl rfl rfl rfl rfl ⟨rfl, rfl, rfl, rfl, rfl⟩ rfl rfl rfl rfl rfl (by kernel_rfl) Try.func9 (by kernel_rfl)
    (of_decide_eq_true (by kernel_rfl)) (by unfold Func.isWrapper; first | (rw [if_pos (by decide +kernel)]; kernel_rfl) | (rw [if_neg (by decide +kernel)]; exact ⟨rfl, rfl⟩))
    (fun os started H enc _ => lifted os started H enc)
theorem proved : Rows.Tl2LocksSaid := over
#print axioms proved
end Go.Proofs.Ytcnbgamalhfkmaa.tl2Locks
