/- tl2: Plays walked. Whatever is asked of an engine, it answers, and has, just what the document says. -/
import Derived.Test.YtcnbgamalhfkmaaMP
import Derived.Test.YtcnbgamalhfkmaaRows
import Derived.Test.YtcnbgamalhfkmaaML
import Derived.WalkKit
import Derived.ProofKit
import Derived.OpenShut
import Derived.ShutString
import Derived.ChangeOld
import Derived.Below
import Derived.SizedLaws
import Derived.Carry
namespace Go.Proofs.Ytcnbgamalhfkmaa.P
open Go.RowKit Go.Proofs.YtcnbgamalhfkmaaW.PrintWords Go.Proofs.YtcnbgamalhfkmaaW.PrintLast Go.Proofs.YtcnbgamalhfkmaaW.PrintMore
set_option linter.unusedVariables false
set_option linter.unusedSimpArgs false
open Go.WideShapes Go.Maps Go.Shelf
set_option maxHeartbeats 8000000 in
set_option maxRecDepth 100000 in
theorem tl2Plays_calls (w : World) (A : Option Addr) (c : Nat) (l : List PDeed) (hl : DeedsAt w A l) (hlc : l.length ≤ c) :
    Calls Try.prog 8 #[.slice A l.length c] w fun e w' => e = .returned (.bool true) ∧ Below w.heap.size w w' := by
  have hb := begin2_calls w
  have HL := Aside0.mk hl
  clear hl
  go_enter Try.func8, Try.ntmps8
  go_wp2_with fail
  refine hb.mono ?_; rintro e W0 ⟨rfl, hP⟩
  have H0 := Aside0.mk hP.toF
  clear hb hP
  obtain ⟨g, hg⟩ : ∃ g, w.heap.size = g := ⟨_, rfl⟩
  obtain ⟨a, ha⟩ : ∃ a, w.heap.size + 1 + 1 = a := ⟨_, rfl⟩
  rw [ha, hg] at H0
  rw [ha, hg]
  go_wp2
  go_loopg [5, 6, 7, 8] 60 (fun gg s5 _ _ _ wr => ∃ (i : Nat) (s : PEng) (r : REng), i ≤ l.length ∧ i ≤ 60 ∧ 60 - i ≤ gg ∧ s5 = .int .i64 i ∧ Aside0 (PairF w (fun _ => False) g a s r wr) ∧ Aside0 (Sim i s r ∧ VN s ∧ LV s))
  case atStart => exact ⟨0, _, _, Nat.zero_le _, by omega, by omega, rfl, H0, ⟨sim_beg, vn_beg, lv_beg⟩⟩
  case round =>
    clear H0
    obtain ⟨i, s, r, hi, hi60, hgg, rfl, HP, HI⟩ := hrel
    by_cases hlt : i < l.length ∧ i < 60
    · have hltz : (i : Int) < (l.length : Int) := by omega
      have hlt6 : (i : Int) < 60 := by omega
      obtain ⟨ad, hA, hok, c0, c1, c2, c3⟩ := HL.out.get HP.out.isBelow hlt.1
      have HD := Aside0.mk hok
      subst hA
      generalize l[i] = d at *
      have hdoes := does_calls HP.out d (HI.out.1.doOK (by omega) d HD.out)
      obtain ⟨e1, e2, hs2⟩ := HI.out.1.does d
      have HI2 := Aside0.mk (show Sim (i + 1) (doE s d).2.2 (doR r d).2.2 ∧ VN (doE s d).2.2 ∧ LV (doE s d).2.2 from ⟨hs2, vn_step HI.out.2.1 d, lv_step HI.out.2.2 HI.out.1 d⟩)
      rw [e1, e2] at hdoes
      clear e1 e2 hs2
      generalize (doE s d).2.2 = s' at *
      generalize (doR r d).2.2 = r' at *
      generalize (doE s d).1 = x1 at *
      generalize (doE s d).2.1 = x2 at *
      go_wp2_with fail
      refine hdoes.mono ?_; rintro e w2 ⟨rfl, P2, K2⟩
      clear hdoes c0 c1 c2 c3 K2
      go_upto_region 8 with (fail)
      have b0 := blk_new w2 (.cells #[.int .i64 x1, .int .i64 x2] 38)
      have b1 := blk_new (w2.alloc (.cells #[.int .i64 x1, .int .i64 x2] 38)) (.cells #[.int .i64 x1, .int .i64 x2] 38)
      have HBB := Aside0.mk (show Below w2.heap.size w2 ((w2.alloc (.cells #[.int .i64 x1, .int .i64 x2] 38)).alloc (.cells #[.int .i64 x1, .int .i64 x2] 38)) from below_alloc (below_alloc (Below.refl _ _) _) _)
      obtain ⟨wA, hwA⟩ : ∃ wA, (w2.alloc (.cells #[.int .i64 x1, .int .i64 x2] 38)).alloc (.cells #[.int .i64 x1, .int .i64 x2] 38) = wA := ⟨_, rfl⟩
      have b0' := (below_1 (w2.alloc (.cells #[.int .i64 x1, .int .i64 x2] 38)) (.cells #[.int .i64 x1, .int .i64 x2] 38)).block _ (blk_lt b0)
      rw [b0] at b0'
      rw [hwA] at b0' b1 HBB ⊢
      have hsz2 : (w2.alloc (.cells #[.int .i64 x1, .int .i64 x2] 38)).heap.size = w2.heap.size + 1 := by simp
      rw [hsz2] at b1
      have HPA := Aside0.mk ((P2.out.mono (F := fun _ => False) (fun k hk => hk.elim)).below HBB.out)
      have hlike := like_calls HPA.out HI2.out.1 HI2.out.2.1 HI2.out.2.2 (by omega)
      have B0 := Aside0.mk b0'
      have B1 := Aside0.mk b1
      obtain ⟨bn, hbn⟩ : ∃ bn, w2.heap.size = bn := ⟨_, rfl⟩
      rw [hbn] at B0 B1 ⊢
      clear b0 b1 b0' hsz2 hwA HBB P2 hbn
      go_wp2_with fail
      refine hlike.mono ?_; rintro e w4 ⟨rfl, HB4⟩
      clear hlike
      have q00 := pw_cell_below HB4.out (blk_cell B0.out 0)
      have q01 := pw_cell_below HB4.out (blk_cell B0.out 1)
      have q10 := pw_cell_below HB4.out (blk_cell B1.out 0)
      have q11 := pw_cell_below HB4.out (blk_cell B1.out 1)
      go_wp2
      go_roundg (60 - (i + 1))
      case measure => omega
      case rel => exact ⟨i + 1, s', r', by omega, by omega, by omega, by go_num, ⟨HPA.out.below HB4.out⟩, HI2⟩
    · have hfin : (¬ (i : Int) < (l.length : Int)) ∨ ((i : Int) < (l.length : Int) ∧ ¬ (i : Int) < 60) := by omega
      have hlv := lives2_calls wr
      have HBB := Aside0.mk HP.out.isBelow
      clear HP HI
      rcases hfin with h1 | ⟨h1, h2⟩
      all_goals
        go_wp2_with fail
        refine hlv.mono ?_; rintro e w6 ⟨rfl, H6⟩
        clear hlv
        go_wp2
        go_ret
        exact ⟨rfl, HBB.out.trans (H6.mono HBB.out.size)⟩
end Go.Proofs.Ytcnbgamalhfkmaa.P
namespace Go.Proofs.Ytcnbgamalhfkmaa.tl2Plays
open Go.ChangeShapes Go.WideShapes Go.ChangeAt Go.RowKit
open Go.ChangeMaps (open_string shut_string)
set_option linter.unusedVariables false
theorem own : ownKnob Try.prog.godebug = none := by kernel_rfl
theorem laidOut : laidOutB Try.prog = true := by kernel_rfl
set_option maxRecDepth 100000 in
theorem lifted (os : Os) (started : os.Started) (H : Type) (enc : TypeId × Value → H) :
    ReturnsInHanded {} Try.checked os 8 .any (Rows.tl2PlaysSpec.pre6 enc Try.prog Try.f8 Rows.tl2PlaysRow.domain false) (Rows.tl2PlaysSpec.post enc Try.prog Try.f8 false true false false) := by
  refine returnsInHanded_of_change_sized (C := Try.checked) own started (by kernel_rfl) Try.func8
    (ChangeSpec.witness6 (enc := enc) (C := Try.checked) false ⟨#[], #[.slice none 0 0], []⟩ 8 (by kernel_rfl) (by kernel_rfl) (by kernel_rfl) (by kernel_rfl)) ?_
  intro W base args ds gs before hval0 hW hcnd hsz0 _
  have hval : ∀ (j : Nat) t v, Try.f8.params[j]? = some t → args[j]? = some v → Value.okWide Try.prog W .any base t v := hval0
  have hW' := hW
  obtain ⟨p, q, hA0, hV, rfl, hfz, hnd⟩ := hW
  have hA : DataW.TrodAll enc Try.prog W 0 (fun _ => true) true Try.f8.params.toList args.toList ds p := hA0
  rw [Try.params8] at hA hval
  obtain ⟨v0, vs0, d0, ds0, p0, q0, hargs, rfl, rfl, h0, r0⟩ := trodAll_cons hA
  obtain ⟨rfl, rfl, rfl⟩ := trodAll_nil r0
  obtain rfl : args = #[v0] := by cases args; simp_all
  obtain ⟨rfl, rfl⟩ := trodVars_none hV
  obtain ⟨a0, len0, cap0, rfl⟩ := okWide_slice Try.underlying22 (hval 0 22 v0 rfl rfl)
  have k0 := h0
  have lt0 : ∀ x ∈ p0, x.block < W.heap.size := by obtain ⟨m, hm⟩ := k0; exact DataW.trod_lt m _ _ _ hm
  obtain ⟨fuel, hf⟩ := h0
  obtain ⟨A, len, cap, l, he, hle, hll, hC⟩ := P.open_deeds hf
  have he2 : Value.slice a0 len0 cap0 = .slice A len cap := by
    first
    | exact (List.cons.inj he).1
    | (simpa [Value.cells] using he)
  rw [he2]
  subst hll
  clear hA0 hval0 hsz0
  refine (P.tl2Plays_calls W A cap l hC hle).mono fun e W' ⟨he, bel⟩ => ?_
  subst he
  rw [← he2]
  exact ⟨_, rfl, _, _, _, [], _, [], hW', trodAll_mk1 (shut_bool Try.underlying4 _), (trodAll_cons_mk (Below.trod laidOut (by kernel_rfl) (of_decide_eq_true (by kernel_rfl)) k0 bel lt0) trodAll_mk0), rfl, bel.frame _, fun h => by cases h⟩
theorem over : Rows.tl2PlaysRow.holds Try.pinned (OpenSpec.ofChange Rows.tl2PlaysSpec) :=
  OpenClaim.holds_of_wide 8 Try.f8 rfl rfl rfl rfl rfl rfl rfl ⟨rfl, rfl, rfl, rfl, rfl⟩ rfl rfl rfl rfl rfl (by kernel_rfl) Try.func8 (by kernel_rfl)
    (of_decide_eq_true (by kernel_rfl)) (by unfold Func.isWrapper; first | (rw [if_pos (by decide +kernel)]; kernel_rfl) | (rw [if_neg (by decide +kernel)]; exact ⟨rfl, rfl⟩))
    (fun os started H enc _ => lifted os started H enc)
theorem proved : Rows.Tl2PlaysSaid := over
#print axioms proved
end Go.Proofs.Ytcnbgamalhfkmaa.tl2Plays
