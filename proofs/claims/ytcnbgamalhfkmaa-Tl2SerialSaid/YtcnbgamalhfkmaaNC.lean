/- tl2: the plain law of Serial. tl2: Serial walked. A transaction that runs from its beginning to its end, with no other one between, reads what is there, and what it writes is there behind it. -/
import Derived.Test.YtcnbgamalhfkmaaMN
import Derived.Test.YtcnbgamalhfkmaaMF
import Derived.Test.YtcnbgamalhfkmaaRows
import Derived.Test.YtcnbgamalhfkmaaML
import Derived.WalkKit
import Derived.ProofKit
import Derived.OpenShut
import Derived.ShutString
import Derived.ChangeOld
import Derived.Below
import Derived.SizedLaws
import Derived.Carry
namespace Go.Proofs.Ytcnbgamalhfkmaa.P
set_option linter.unusedVariables false
set_option linter.unusedSimpArgs false
section
variable {m : Nat} {s : PEng} {r : REng}
theorem look_free {t : Int} {st : Int} {n : Int} (hl : (varE s n).lock = -1 ∨ (varE s n).lock = t) (hv : (varE s n).version ≤ st) : lookE s t st n = 0 := by
  unfold lookE
  have e1 : ((varE s n).lock != -1 && (varE s n).lock != t) = false := by
    rcases hl with e | e <;> rw [e] <;> simp
  simp only [e1, Bool.false_eq_true, if_false]
  rw [if_neg (by omega)]
/-- All have come to their end: no lock is held. -/
theorem LV.free (h : LV s) (hs : Sim m s r) (hn : ∀ t : Nat, t < 8 → ofE s t = none) : ∀ v ∈ s.vars, v.lock = -1 := fun v hv => by
  rcases hs.lock v hv with e | ⟨e1, e2⟩
  · exact e
  · obtain ⟨n, hn', e⟩ := List.mem_iff_getElem.1 hv
    obtain ⟨t, ht⟩ : ∃ t : Nat, v.lock = t := ⟨v.lock.toNat, by omega⟩
    obtain ⟨x, hx, _⟩ := h.lock n t hn' (by omega) (by rw [e]; exact ht)
    rw [hn t (by omega)] at hx; cases hx
def q1 (c : Int) : PTx := ⟨c, 0, [], [[]], false, false, []⟩
def q2 (c : Int) (n : Int) : PTx := ⟨c, 0, [n], [[]], false, false, []⟩
def q3 (c : Int) (n v : Int) : PTx := ⟨c, 0, [n], [[(n, v)]], false, false, []⟩
def q4 (c : Int) (n v : Int) : PTx := ⟨c, 0, [n], [[(n, v)]], true, false, []⟩
def q5 (c : Int) (n v : Int) : PTx := ⟨c, c + 1, [n], [[(n, v)]], true, true, [n]⟩
structure Serial (s : PEng) (n v : Int) where
  s1 : PEng
  s2 : PEng
  s3 : PEng
  s4 : PEng
  s5 : PEng
  s6 : PEng
  b : beginE s 3 = (0, s1)
  c : readE s1 3 n = ((varE s n).value, 0, s2)
  d : writeE s2 3 n v = (0, s3)
  e : readE s3 3 n = (v, 0, s3)
  f : stepE s3 3 = (1, 0, s4)
  g : stepE s4 3 = (2, 0, s5)
  h : stepE s5 3 = (4, 0, s6)
  i : valueE s6 n = (v, 0)
  j : s6.clock = s.clock + 1
theorem serial_at (h : LV s) (hs : Sim m s r) (hn : ∀ t : Nat, t < 8 → ofE s t = none) {n : Nat} (hn4 : n < 4) (v : Int) : Nonempty (Serial s n v) := by
  have hnl : n < s.vars.length := by have := h.four; omega
  have hve := varE_at hnl
  have hfree := h.free hs hn _ (List.getElem_mem hnl)
  have hver := h.ver _ (List.getElem_mem hnl)
  rw [← hve] at hfree hver
  have hin : isE s (n : Int) = true := isE_iff.2 (by omega)
  have h8 := hs.lenE
  have T : ∀ (o : Option PTx), ofE (setTx s 3 o) 3 = o := fun o => ofE_set_same (t := 3) h8 (by omega) o
  have TT : ∀ o o' : Option PTx, setTx (setTx s 3 o) 3 o' = setTx s 3 o' := fun o o' => setTx_twice s 3 o o'
  have O : ∀ x : PTx, x.commits = false → openE (setTx s 3 (some x)) 3 = some x := fun x hx => by unfold openE; rw [T]; simp [hx]
  have hl1 : ∀ o, lookE (setTx s 3 o) 3 s.clock (n : Int) = 0 := fun o => look_free (s := setTx s 3 o) (.inl hfree) hver
  refine ⟨⟨setTx s 3 (some (q1 s.clock)), setTx s 3 (some (q2 s.clock n)), setTx s 3 (some (q3 s.clock n v)), setVar (setTx s 3 (some (q4 s.clock n v))) n { varE s n with lock := 3 }, { setVar (setTx s 3 (some (q5 s.clock n v))) n { varE s n with lock := 3 } with clock := s.clock + 1 },
    { setVar (setTx s 3 none) n ⟨v, s.clock + 1, -1⟩ with clock := s.clock + 1 }, ?_, ?_, ?_, ?_, ?_, ?_, ?_, ?_, rfl⟩⟩
  · unfold beginE
    have := hn 3 (by omega)
    rw [show ofE s 3 = none from this]
    rfl
  · unfold readE
    rw [O _ rfl]
    show (if (!isE s (n : Int)) = true then _ else _) = _
    rw [hin]
    have hh : hitM (q1 s.clock).parts (n : Int) = none := rfl
    simp only [Bool.not_true, Bool.false_eq_true, if_false, hh]
    rw [show lookE (setTx s 3 (some (q1 s.clock))) 3 (q1 s.clock).start (n : Int) = 0 from hl1 _]
    rw [if_neg (by decide)]
    have hct : (q1 s.clock).reads.contains (n : Int) = false := rfl
    simp only [hct, Bool.false_eq_true, if_false]
    rw [TT]
    rfl
  · unfold writeE
    rw [O _ rfl]
    show (if (!isE s (n : Int)) = true then _ else _) = _
    rw [hin]
    simp only [Bool.not_true, Bool.false_eq_true, if_false]
    rw [TT]
    rfl
  · unfold readE
    rw [O _ rfl]
    show (if (!isE s (n : Int)) = true then _ else _) = _
    rw [hin]
    have hh : hitM (q3 s.clock n v).parts (n : Int) = some v := by
      show hitM [[((n : Int), v)]] (n : Int) = some v
      unfold hitM
      simp [getM]
    simp only [Bool.not_true, Bool.false_eq_true, if_false, hh]
  · rw [stepE_lock (x := q3 s.clock n v) (n := n) (T _) (by show ¬ 1 < 1; omega) rfl (by
      show (if (varE s (n : Int)).lock == 3 then lockL _ 3 [] else some (n : Int)) = some (n : Int)
      rw [hfree]; rfl)]
    show (if (varE s (n : Int)).lock == -1 then _ else _) = _
    rw [hfree, if_pos (by decide), TT]
    rfl
  · obtain ⟨s4, hs4⟩ : ∃ s4, setVar (setTx s 3 (some (q4 s.clock n v))) (n : Int) { varE s n with lock := 3 } = s4 := ⟨_, rfl⟩
    have h4 : ofE s4 3 = some (q4 s.clock n v) := by rw [← hs4]; exact T _
    have hv4 : varE s4 (n : Int) = { varE s n with lock := 3 } := by
      rw [← hs4]
      unfold varE setVar
      simp [List.getD_eq_getElem?_getD, setTx, hnl]
    have hc4 : s4.clock = s.clock := by rw [← hs4]; rfl
    rw [hs4]
    rw [stepE_rest (x := q4 s.clock n v) h4 (by show ¬ 1 < 1; omega) rfl (by
      show (if (varE s4 (n : Int)).lock == 3 then lockL s4 3 [] else some (n : Int)) = none
      rw [hv4]; rfl)]
    have hva : validL s4 3 (q4 s.clock n v).start (q4 s.clock n v).reads = 0 := by
      show (if lookE s4 3 s.clock (n : Int) != 0 then lookE s4 3 s.clock (n : Int) else 0) = 0
      rw [look_free (.inr (by rw [hv4])) (by rw [hv4]; exact hver)]
      rfl
    rw [hva, if_neg (by decide), if_neg (by show ¬ ([(n : Int)].isEmpty = true); simp), hc4, ← hs4]
    refine Prod.ext rfl (Prod.ext rfl ?_)
    show ({ setTx (setVar (setTx s 3 _) (n : Int) _) 3 _ with clock := s.clock + 1 } : PEng) = _
    simp [setTx, setVar]
    rfl
  · obtain ⟨s5, hs5⟩ : ∃ s5, ({ setVar (setTx s 3 (some (q5 s.clock n v))) (n : Int) { varE s n with lock := 3 } with clock := s.clock + 1 } : PEng) = s5 := ⟨_, rfl⟩
    have h5 : ofE s5 3 = some (q5 s.clock n v) := by rw [← hs5]; exact T _
    rw [hs5]
    rw [stepE_left (x := q5 s.clock n v) (n := n) (l := []) h5 (by show ¬ 1 < 1; omega) rfl rfl]
    rw [if_pos (show ([] : List Int).isEmpty = true from rfl)]
    have hg : getM ((q5 s.clock n v).parts.getD 0 []) (n : Int) = some v := by
      show getM [((n : Int), v)] (n : Int) = some v
      simp [getM]
    rw [hg, ← hs5]
    refine Prod.ext rfl (Prod.ext rfl ?_)
    simp [setTx, setVar, q5]
  · unfold valueE
    have hi6 : isE ({ setVar (setTx s 3 none) (n : Int) ⟨v, s.clock + 1, -1⟩ with clock := s.clock + 1 } : PEng) (n : Int) = true := isE_iff.2 (by simp [setVar, setTx]; omega)
    rw [hi6]
    simp [varE, setVar, setTx, List.getD_eq_getElem?_getD, hnl]
end
end Go.Proofs.Ytcnbgamalhfkmaa.P
namespace Go.Proofs.Ytcnbgamalhfkmaa.P
open Go.RowKit Go.Proofs.YtcnbgamalhfkmaaW.PrintWords Go.Proofs.YtcnbgamalhfkmaaW.PrintLast Go.Proofs.YtcnbgamalhfkmaaW.PrintMore
set_option linter.unusedVariables false
set_option linter.unusedSimpArgs false
open Go.WideShapes Go.Maps Go.Shelf
theorem Serial.sims {m : Nat} {s : PEng} {r : REng} {n v : Int} (K : Serial s n v) (h : Sim m s r) (hm : m ≤ 800) : Fine K.s1 ∧ Fine K.s2 ∧ Fine K.s3 ∧ Fine K.s4 ∧ Fine K.s5 ∧ Fine K.s6 := by
  have h1 := (h.begin 3).2
  rw [K.b] at h1
  have h2 := (h1.read 3 n).2.2
  rw [K.c] at h2
  have h3 := (h2.write 3 n v).2
  rw [K.d] at h3
  have h4 := (h3.step 3).2.2
  rw [K.f] at h4
  have h5 := (h4.step 3).2.2
  rw [K.g] at h5
  have h6 := (h5.step 3).2.2
  rw [K.h] at h6
  exact ⟨⟨_, _, by omega, h1⟩, ⟨_, _, by omega, h2⟩, ⟨_, _, by omega, h3⟩, ⟨_, _, by omega, h4⟩, ⟨_, _, by omega, h5⟩, ⟨_, _, by omega, h6⟩⟩
set_option maxHeartbeats 8000000 in
set_option maxRecDepth 100000 in
theorem tl2Serial_calls (w : World) (A : Option Addr) (c : Nat) (l : List PDeed) (n : Int) (hn : in64 n) (v : Int) (hv : in64 v) (hl : DeedsAt w A l) (hlc : l.length ≤ c) :
    Calls Try.prog 5 #[.slice A l.length c, .int .i64 n, .int .i64 v] w fun e w' => e = .returned (.bool true) ∧ Below w.heap.size w w' := by
  have hb := begin2_calls w
  have HL := Aside0.mk hl
  have HV := Aside0.mk hv
  clear hl
  go_enter Try.func5, Try.ntmps5
  go_wp2_with fail
  refine hb.mono ?_; rintro e W0 ⟨rfl, hP⟩
  have H0 := Aside0.mk hP.toF
  clear hb hP
  obtain ⟨g, hg⟩ : ∃ g, w.heap.size = g := ⟨_, rfl⟩
  obtain ⟨a, ha⟩ : ∃ a, w.heap.size + 1 + 1 = a := ⟨_, rfl⟩
  rw [ha, hg] at H0
  rw [ha, hg]
  go_upto_block 0 with (fail)
  go_cut [9] (fun _ wc => ∃ (s : PEng) (r : REng), Aside0 (PairF w (fun _ => False) g a s r wc) ∧ Aside0 (Sim 30 s r ∧ LV s))
  case first =>
    go_wp2_with fail
    go_loopg [9] 30 (fun gg s9 wr => ∃ (i : Nat) (s : PEng) (r : REng), i ≤ l.length ∧ i ≤ 30 ∧ 30 - i ≤ gg ∧ s9 = .int .i64 i ∧ Aside0 (PairF w (fun _ => False) g a s r wr) ∧ Aside0 (Sim i s r ∧ LV s))
    case atStart => exact ⟨0, _, _, Nat.zero_le _, by omega, by omega, rfl, H0, ⟨sim_beg, lv_beg⟩⟩
    case round =>
      clear H0
      obtain ⟨i, s, r, hi, hi60, hgg, rfl, HP, HI⟩ := hrel
      by_cases hlt : i < l.length ∧ i < 30
      · have hltz : (i : Int) < (l.length : Int) := by omega
        have hlt6 : (i : Int) < 30 := by omega
        obtain ⟨ad, hA, hok, c0, c1, c2, c3⟩ := HL.out.get HP.out.isBelow hlt.1
        have HD := Aside0.mk hok
        subst hA
        generalize l[i] = d at *
        have hdoes := does_calls HP.out d (HI.out.1.doOK (by omega) d HD.out)
        have HI2 := Aside0.mk (show Sim (i + 1) (doE s d).2.2 (doR r d).2.2 ∧ LV (doE s d).2.2 from ⟨(HI.out.1.does d).2.2, lv_step HI.out.2 HI.out.1 d⟩)
        generalize doE s d = de at *
        generalize doR r d = dr at *
        go_wp2_with fail
        refine hdoes.mono ?_; rintro e w2 ⟨rfl, P2, K2⟩
        clear hdoes c0 c1 c2 c3 K2
        go_wp2
        go_roundg (30 - (i + 1))
        case measure => omega
        case rel => exact ⟨i + 1, de.2.2, dr.2.2, by omega, by omega, by omega, by go_num, P2, HI2⟩
      · have hfin : (¬ (i : Int) < (l.length : Int)) ∨ ((i : Int) < (l.length : Int) ∧ ¬ (i : Int) < 30) := by omega
        rcases hfin with h1 | ⟨h1, h2⟩
        all_goals
          go_wp2
          go_meet
          exact ⟨s, r, HP, ⟨HI.out.1.mono (by omega), HI.out.2⟩⟩
  case rest =>
    obtain ⟨s, r, HP, HI⟩ := hcut
    clear H0
    go_upto_block 2 with (fail)
    go_cut [10, 11] (fun _ _ wc => ∃ (s : PEng) (r r' : REng), Aside0 (PairF w (fun _ => False) g a s r wc) ∧ Aside0 (Sim 600 s r' ∧ LV s ∧ ∀ t : Nat, t < 8 → ofE s t = none))
    case first =>
      go_wp2_with fail
      go_loopg [10, 11] 8 (fun gg s10 _ wr => ∃ (t : Nat) (s : PEng) (r r' : REng), t ≤ 8 ∧ 8 - t ≤ gg ∧ s10 = .int .i64 t ∧ Aside0 (PairF w (fun _ => False) g a s r wr) ∧ Aside0 (Sim (30 + 60 * t) s r' ∧ LV s ∧ LB 30 s ∧ ∀ t' : Nat, t' < t → ofE s t' = none))
      case atStart => exact ⟨0, s, r, r, by omega, by omega, rfl, HP, ⟨HI.out.1, HI.out.2, HI.out.1.lb, fun t' h => absurd h (Nat.not_lt_zero _)⟩⟩
      case round =>
        clear HP HI
        obtain ⟨t, s, r, r', ht, hgg, rfl, HP, HI⟩ := hrel
        by_cases hlt : t < 8
        · have hltz : (t : Int) < 8 := by omega
          go_wp2
          go_loopg [11] 60 (fun gg s11 wr => ∃ (i : Nat) (s : PEng) (r' : REng), i ≤ 60 ∧ 60 - i ≤ gg ∧ s11 = .int .i64 i ∧ Aside0 (PairF w (fun _ => False) g a s r wr) ∧ Aside0 (Sim (30 + 60 * t + i) s r' ∧ LV s ∧ LB 30 s ∧ Going 30 s t i ∧ ∀ t' : Nat, t' < t → ofE s t' = none))
          case atStart => exact ⟨0, s, r', by omega, by omega, rfl, HP, ⟨HI.out.1, HI.out.2.1, HI.out.2.2.1, Going.start HI.out.2.2.1 hlt, HI.out.2.2.2⟩⟩
          case round =>
            clear HP HI
            obtain ⟨i, s, r', hi, hgi, rfl, HP, HI⟩ := hrel
            have hact := HP.out.active t
            by_cases hi6 : i < 60
            · have hi6z : (i : Int) < 60 := by omega
              cases hx : ofE s (t : Int) with
              | none =>
                rw [hx] at hact
                have HN := Aside0.mk hx
                clear hx
                go_wp2_with fail
                refine hact.mono ?_; rintro e w2 ⟨rfl, rfl⟩
                clear hact
                go_wp2
                go_roundg (8 - (t + 1))
                case measure => omega
                case rel => exact ⟨t + 1, s, r, r', by omega, by omega, by go_num, HP, ⟨HI.out.1.mono (by omega), HI.out.2.1, HI.out.2.2.1, fun t' ht' => by
                  by_cases e : t' = t
                  · rw [e]; exact HN.out
                  · exact HI.out.2.2.2.2 t' (by omega)⟩⟩
              | some x =>
                rw [hx] at hact
                have hr := end_round HI.out.1 HI.out.2.1 hlt hx
                have HR := Aside0.mk (show Sim (30 + 60 * t + (i + 1)) (endE s t x) (endR r' t x) ∧ LV (endE s t x) ∧ LB 30 (endE s t x) ∧ Going 30 (endE s t x) t (i + 1) ∧ ∀ t' : Nat, t' < t → ofE (endE s t x) t' = none from
                  ⟨hr.1, hr.2.1, HI.out.2.2.1.next HI.out.1 HI.out.2.1 hlt hx, HI.out.2.2.2.1.next HI.out.1 HI.out.2.1 hlt hx, fun t' ht' => by rw [hr.2.2.1 t' (by omega) (by omega)]; exact HI.out.2.2.2.2 t' ht'⟩)
                have hab := HP.out.abort t (by have := HI.out.1.vl; omega)
                cases hp : x.pointed with
                | false =>
                  have hab1 : (abortE s t).1 = 0 := by rw [abort_of hx, hp]; rfl
                  have HE := Aside0.mk (show (abortE s t).2 = endE s t x by unfold endE; rw [hp]; rfl)
                  rw [hab1, HE.out] at hab
                  clear hx hr hab1
                  go_wp2_with fail
                  refine hact.mono ?_; rintro e w2 ⟨rfl, rfl⟩
                  clear hact
                  go_wp2_with fail
                  refine hab.mono ?_; rintro e w3 ⟨rfl, P3, K3⟩
                  clear hab K3
                  go_wp2
                  go_roundg (60 - (i + 1))
                  case measure => omega
                  case rel => exact ⟨i + 1, endE s t x, endR r' t x, by omega, by omega, by go_num, P3, HR⟩
                | true =>
                  have hab1 : abortE s t = (1, s) := abort_same hx hp
                  have HE := Aside0.mk (show (stepE s t).2.2 = endE s t x by unfold endE; rw [hp]; rfl)
                  rw [hab1] at hab
                  have HFN := Aside0.mk (show Fine s from ⟨_, _, by omega, HI.out.1⟩)
                  clear hx hr hab1
                  go_wp2_with fail
                  refine hact.mono ?_; rintro e w2 ⟨rfl, rfl⟩
                  clear hact
                  go_wp2_with fail
                  refine hab.mono ?_; rintro e w3 ⟨rfl, P3, K3⟩
                  clear hab K3
                  have hst := P3.out.step t (HFN.out.es t)
                  rw [HE.out] at hst
                  go_wp2_with fail
                  refine hst.mono ?_; rintro e w4 ⟨rfl, P4, K4⟩
                  clear hst K4
                  go_wp2
                  go_roundg (60 - (i + 1))
                  case measure => omega
                  case rel => exact ⟨i + 1, endE s t x, endR r' t x, by omega, by omega, by go_num, P4, HR⟩
            · have hi6z : ¬ (i : Int) < 60 := by omega
              have HN := Aside0.mk (HI.out.2.2.2.1.none_at (by omega))
              clear hact
              go_wp2
              go_roundg (8 - (t + 1))
              case measure => omega
              case rel => exact ⟨t + 1, s, r, r', by omega, by omega, by go_num, HP, ⟨HI.out.1.mono (by omega), HI.out.2.1, HI.out.2.2.1, fun t' ht' => by
                  by_cases e : t' = t
                  · rw [e]; exact HN.out
                  · exact HI.out.2.2.2.2 t' (by omega)⟩⟩
        · have hltz : ¬ (t : Int) < 8 := by omega
          go_wp2
          go_meet
          exact ⟨s, r, r', HP, ⟨HI.out.1.mono (by omega), HI.out.2.1, fun t' ht' => HI.out.2.2.2 t' (by omega)⟩⟩
    case rest =>
      clear HP HI
      obtain ⟨s, r, r', HP, HI⟩ := hcut
      have hjn := absJ_in hn
      clear HL HV
      go_upto_if 72 with (fail)
      go_cut [1] (fun v1 wx => v1 = .int .i64 (absJ n) ∧ wc = wx)
      case first =>
        by_cases hneg : n < 0
        · have h1 : n + 1 ≤ 0 := by omega
          have h2 : -9223372036854775807 ≤ n + 1 := by unfold in64 at hn; omega
          have HE := Aside0.mk (show -(n + 1) = absJ n by unfold absJ; rw [if_pos hneg])
          go_wp2
          go_meet
          exact ⟨by rw [← HE.out], rfl⟩
        · have HE := Aside0.mk (show n = absJ n by unfold absJ; rw [if_neg hneg])
          go_wp2
          go_meet
          exact ⟨by rw [← HE.out], rfl⟩
      case rest =>
        obtain ⟨rfl, rfl⟩ := hcut
        have h4 := modJ (m := 4) (n := absJ n) (by omega)
        obtain ⟨nn, hnn⟩ : ∃ nn : Nat, absJ n % 4 = nn := ⟨(absJ n % 4).toNat, by omega⟩
        rw [hnn] at h4
        generalize absJ n = an at *
        go_upto_region 19 with (fail)
        rw [hnn]
        obtain ⟨K⟩ := serial_at HI.out.2.1 HI.out.1 HI.out.2.2 (n := nn) (by omega) v
        obtain ⟨f1, f2, f3, f4, f5, f6⟩ := K.sims HI.out.1 (by omega)
        have hck := HI.out.1.ck
        have hin : in64 (nn : Int) := in64_small (by omega)
        have hval : valueE s (nn : Int) = ((varE s (nn : Int)).value, 0) := by
          unfold valueE
          rw [if_pos (isE_iff.2 (by have := HI.out.2.1.four; omega))]
        have HF1 := Aside0.mk f1
        have HF2 := Aside0.mk f2
        have HF3 := Aside0.mk f3
        have HF4 := Aside0.mk f4
        have HF5 := Aside0.mk f5
        have HK := Aside0.mk (⟨K.b, K.c, K.d, K.e, K.f, K.g, K.h, K.i, K.j⟩ : _ ∧ _ ∧ _ ∧ _ ∧ _ ∧ _ ∧ _ ∧ _ ∧ _)
        generalize K.s1 = s1 at *
        generalize K.s2 = s2 at *
        generalize K.s3 = s3 at *
        generalize K.s4 = s4 at *
        generalize K.s5 = s5 at *
        generalize K.s6 = s6 at *
        clear K f1 f2 f3 f4 f5 f6 hnn
        generalize (varE s (nn : Int)).value = val at *
        have hw : wrap64 (s.clock + 1) = s.clock + 1 := IntWalk.wrap64_in _ (by omega)
        have c1 := HP.out.value nn
        rw [hval] at c1
        go_wp2_with fail
        refine c1.mono ?_; rintro e w1 ⟨rfl, rfl⟩
        clear c1
        have c2 := HP.out.clock
        go_wp2_with fail
        refine c2.mono ?_; rintro e w1 ⟨rfl, rfl⟩
        clear c2
        have c3 := HP.out.begin 3
        rw [HK.out.1] at c3
        go_wp2_with fail
        refine c3.mono ?_; rintro e w1 ⟨rfl, P1, K1⟩
        clear c3 K1 HP
        have c4 := P1.out.read 3 nn hin (HF1.out.er 3)
        rw [HK.out.2.1] at c4
        go_wp2_with fail
        refine c4.mono ?_; rintro e w2 ⟨rfl, P2, K2⟩
        clear c4 K2 P1
        have c5 := P2.out.write 3 nn v hin hv (HF2.out.ew 3)
        rw [HK.out.2.2.1] at c5
        go_wp2_with fail
        refine c5.mono ?_; rintro e w3 ⟨rfl, P3, K3⟩
        clear c5 K3 P2
        have c6 := P3.out.read 3 nn hin (HF3.out.er 3)
        rw [HK.out.2.2.2.1] at c6
        go_wp2_with fail
        refine c6.mono ?_; rintro e w4 ⟨rfl, P4, K4⟩
        clear c6 K4 P3
        have c7 := P4.out.step 3 (HF3.out.es 3)
        rw [HK.out.2.2.2.2.1] at c7
        go_wp2_with fail
        refine c7.mono ?_; rintro e w5 ⟨rfl, P5, K5⟩
        clear c7 K5 P4
        have c8 := P5.out.step 3 (HF4.out.es 3)
        rw [HK.out.2.2.2.2.2.1] at c8
        go_wp2_with fail
        refine c8.mono ?_; rintro e w6 ⟨rfl, P6, K6⟩
        clear c8 K6 P5
        have c9 := P6.out.step 3 (HF5.out.es 3)
        rw [HK.out.2.2.2.2.2.2.1] at c9
        go_wp2_with fail
        refine c9.mono ?_; rintro e w7 ⟨rfl, P7, K7⟩
        clear c9 K7 P6
        have d1 := P7.out.value nn
        rw [HK.out.2.2.2.2.2.2.2.1] at d1
        go_wp2_with fail
        refine d1.mono ?_; rintro e w8 ⟨rfl, rfl⟩
        clear d1
        have d2 := P7.out.clock
        rw [HK.out.2.2.2.2.2.2.2.2] at d2
        go_wp2_with fail
        refine d2.mono ?_; rintro e w8 ⟨rfl, rfl⟩
        clear d2
        have hlv := lives2_calls w7
        have HBB := Aside0.mk P7.out.isBelow
        go_wp2_with fail
        refine hlv.mono ?_; rintro e w9 ⟨rfl, H9⟩
        clear hlv
        go_wp2
        go_ret
        exact ⟨rfl, HBB.out.trans (H9.mono HBB.out.size)⟩
end Go.Proofs.Ytcnbgamalhfkmaa.P
namespace Go.Proofs.Ytcnbgamalhfkmaa.tl2Serial
open Go.ChangeShapes Go.WideShapes Go.ChangeAt Go.RowKit
open Go.ChangeMaps (open_string shut_string)
set_option linter.unusedVariables false
theorem own : ownKnob Try.prog.godebug = none := by kernel_rfl
theorem laidOut : laidOutB Try.prog = true := by kernel_rfl
set_option maxRecDepth 100000 in
theorem lifted (os : Os) (started : os.Started) (H : Type) (enc : TypeId × Value → H) :
    ReturnsInHanded {} Try.checked os 5 .any (Rows.tl2SerialSpec.pre6 enc Try.prog Try.f5 Rows.tl2SerialRow.domain false) (Rows.tl2SerialSpec.post enc Try.prog Try.f5 false true false false) := by
  refine returnsInHanded_of_change_sized (C := Try.checked) own started (by kernel_rfl) Try.func5
    (ChangeSpec.witness6 (enc := enc) (C := Try.checked) false ⟨#[], #[.slice none 0 0, .int .i64 0, .int .i64 0], []⟩ 8 (by kernel_rfl) (by kernel_rfl) (by kernel_rfl) (by kernel_rfl)) ?_
  intro W base args ds gs before hval0 hW hcnd hsz0 _
  have hval : ∀ (j : Nat) t v, Try.f5.params[j]? = some t → args[j]? = some v → Value.okWide Try.prog W .any base t v := hval0
  have hW' := hW
  obtain ⟨p, q, hA0, hV, rfl, hfz, hnd⟩ := hW
  have hA : DataW.TrodAll enc Try.prog W 0 (fun _ => true) true Try.f5.params.toList args.toList ds p := hA0
  rw [Try.params5] at hA hval
  obtain ⟨v0, vs0, d0, ds0, p0, q0, hargs, rfl, rfl, h0, r0⟩ := trodAll_cons hA
  obtain ⟨v1, vs1, d1, ds1, p1, q1, rfl, rfl, rfl, h1, r1⟩ := trodAll_cons r0
  obtain ⟨v2, vs2, d2, ds2, p2, q2, rfl, rfl, rfl, h2, r2⟩ := trodAll_cons r1
  obtain ⟨rfl, rfl, rfl⟩ := trodAll_nil r2
  obtain rfl : args = #[v0, v1, v2] := by cases args; simp_all
  obtain ⟨rfl, rfl⟩ := trodVars_none hV
  obtain ⟨a0, len0, cap0, rfl⟩ := okWide_slice Try.underlying22 (hval 0 22 v0 rfl rfl)
  have k0 := h0
  have lt0 : ∀ x ∈ p0, x.block < W.heap.size := by obtain ⟨m, hm⟩ := k0; exact DataW.trod_lt m _ _ _ hm
  obtain ⟨a1, rfl, rfl, rfl, w1⟩ := open_int Try.underlying3 (hval 1 3 v1 rfl rfl) h1
  obtain ⟨a2, rfl, rfl, rfl, w2⟩ := open_int Try.underlying3 (hval 2 3 v2 rfl rfl) h2
  obtain ⟨fuel, hf⟩ := h0
  obtain ⟨A, len, cap, l, he, hle, hll, hC⟩ := P.open_deeds hf
  have he2 : Value.slice a0 len0 cap0 = .slice A len cap := by
    first
    | exact (List.cons.inj he).1
    | (simpa [Value.cells] using he)
  rw [he2]
  subst hll
  clear hA0 hval0 hsz0
  refine (P.tl2Serial_calls W A cap l a1 (P.wf_in w1) a2 (P.wf_in w2) hC hle).mono fun e W' ⟨he, bel⟩ => ?_
  subst he
  rw [← he2]
  exact ⟨_, rfl, _, _, _, [], _, [], hW', trodAll_mk1 (shut_bool Try.underlying4 _), (trodAll_cons_mk (Below.trod laidOut (by kernel_rfl) (of_decide_eq_true (by kernel_rfl)) k0 bel lt0) (trodAll_cons_mk (shut_int Try.underlying3 w1) (trodAll_cons_mk (shut_int Try.underlying3 w2) trodAll_mk0))), rfl, bel.frame _, fun h => by cases h⟩
theorem over : Rows.tl2SerialRow.holds Try.pinned (OpenSpec.ofChange Rows.tl2SerialSpec) :=
  OpenClaim.holds_of_wide 5 Try.f5 rfl rfl rfl rfl rfl rfl rfl ⟨rfl, rfl, rfl, rfl, rfl⟩ rfl rfl rfl rfl rfl (by kernel_rfl) Try.func5 (by kernel_rfl)
    (of_decide_eq_true (by kernel_rfl)) (by unfold Func.isWrapper; first | (rw [if_pos (by decide +kernel)]; kernel_rfl) | (rw [if_neg (by decide +kernel)]; exact ⟨rfl, rfl⟩))
    (fun os started H enc _ => lifted os started H enc)
theorem proved : Rows.Tl2SerialSaid := over
#print axioms proved
end Go.Proofs.Ytcnbgamalhfkmaa.tl2Serial
