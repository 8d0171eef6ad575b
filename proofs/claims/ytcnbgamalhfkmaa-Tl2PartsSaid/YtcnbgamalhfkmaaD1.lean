/- tl2: rows read at a place; Active, Clock, Start, Value, Newer, look, last. -/
import Derived.Test.YtcnbgamalhfkmaaC2
import Derived.IntWalk
namespace Go.Proofs.Ytcnbgamalhfkmaa.P
open Go.RowKit Go.Proofs.YtcnbgamalhfkmaaW.PrintWords Go.Proofs.YtcnbgamalhfkmaaW.PrintLast Go.Proofs.YtcnbgamalhfkmaaW.PrintMore
set_option linter.unusedVariables false
set_option linter.unusedSimpArgs false
open Go.WideShapes Go.Maps

theorem below_1 (w : World) (o : Obj) : Below w.heap.size w (w.alloc o) := below_alloc (Below.refl _ _) o
theorem rowV_at {w : World} {base : Nat} {ok : Nat → Prop} {vs : Value} {vars : List PVar} (h : Kd.N kV 92 w base ok vs vars) {i : Nat} (hi : i < vars.length) :
    ∃ gv cap, vs = .slice (some ⟨gv, 0, none⟩) vars.length cap ∧ vars.length ≤ cap ∧ w.cell? ⟨gv, i * 3, none⟩ = some (.int .i64 vars[i].value) ∧ w.cell? ⟨gv, i * 3 + 1, none⟩ = some (.int .i64 vars[i].version) ∧ w.cell? ⟨gv, i * 3 + 2, none⟩ = some (.int .i64 vars[i].lock) ∧ ∀ j, w.frozen? ⟨gv, i * 3 + j, none⟩ = false := by
  obtain ⟨gv, cap, rfl, _, _, _⟩ := Kd.N_form h (by omega)
  obtain ⟨c, hcl, hK, hc, hf⟩ := Kd.N_elem h zV (i : Int) (by omega) (by omega)
  rw [Int.toNat_natCast, List.getD_eq_getElem?_getD, List.getElem?_eq_getElem hi, Option.getD_some] at hK
  obtain rfl := kV_open (Kd.FK_now hK)
  exact ⟨gv, cap, rfl, (Kd.N_reads' h).2.1, hc 0 _ rfl, hc 1 _ rfl, hc 2 _ rfl, fun j => hf j⟩
theorem rowP_at {w : World} {base : Nat} {ok : Nat → Prop} {v : Value} {ms : List Nat} (h : Kd.N kP 78 w base ok v ms) {i : Nat} (hi : i < ms.length) :
    ∃ gv cap, v = .slice (some ⟨gv, 0, none⟩) ms.length cap ∧ ms.length ≤ cap ∧ w.cell? ⟨gv, i, none⟩ = some (.map (some ms[i])) := by
  obtain ⟨gv, cap, rfl, _, _, _⟩ := Kd.N_form h (by omega)
  obtain ⟨c, hcl, hK, hc, hf⟩ := Kd.N_elem h 0 (i : Int) (by omega) (by omega)
  rw [Int.toNat_natCast, List.getD_eq_getElem?_getD, List.getElem?_eq_getElem hi, Option.getD_some] at hK
  have e : c = [.map (some ms[i])] := Kd.FK_now hK
  subst e
  have h0 := hc 0 _ rfl
  rw [Int.toNat_natCast, show kP.sz = 1 from rfl, Nat.mul_one, Nat.add_zero] at h0
  exact ⟨gv, cap, rfl, (Kd.N_reads' h).2.1, h0⟩
theorem varE_at {s : PEng} {i : Nat} (hi : i < s.vars.length) : varE s (i : Int) = s.vars[i] := by
  unfold varE
  rw [Int.toNat_natCast, List.getD_eq_getElem?_getD, List.getElem?_eq_getElem hi, Option.getD_some]
theorem isE_iff {s : PEng} {n : Int} : isE s n = true ↔ 0 ≤ n ∧ n < s.vars.length := by simp [isE]
section
variable {W : World} {base : Nat} {ρ : Nat → Nat} {g : Nat} {s : PEng} {cells : Array Value} {vs : Value}
set_option maxHeartbeats 4000000 in
theorem active_calls (h : EngAt W base ρ g s cells vs) (t : Int) : Calls Try.prog 19 #[.pointer (some ⟨g, 0, none⟩), .int .i64 t] W fun e w' => e = .returned (.bool (ofE s t).isSome) ∧ W = w' := by
  have hof := of_calls h t
  clear h
  go_enter Try.func19, Try.ntmps19
  go_wp2_with fail
  refine hof.mono ?_; rintro e w' ⟨⟨p, rfl, hp⟩, rfl⟩
  clear hof
  rcases hp.form with ⟨e0, rfl⟩ | ⟨x, tn, gt, rd, pa, lf, ms, e0, rfl, ht, rfl, hcc, hx⟩
  · have HE := Aside0.mk e0
    clear hp e0
    go_wp2
    go_ret
    exact ⟨by rw [HE.out]; rfl, rfl⟩
  · have HE := Aside0.mk e0
    clear hp e0 hx
    go_wp2
    go_ret
    exact ⟨by rw [HE.out]; rfl, rfl⟩
set_option maxHeartbeats 4000000 in
theorem clock_calls (h : EngAt W base ρ g s cells vs) : Calls Try.prog 23 #[.pointer (some ⟨g, 0, none⟩)] W fun e w' => e = .returned (.int .i64 s.clock) ∧ W = w' := by
  have k0 := h.cell0
  clear h
  go_enter Try.func23, Try.ntmps23
  go_wp2
  go_ret
  exact ⟨rfl, rfl⟩
def startE (s : PEng) (t : Int) : Int := match ofE s t with | none => 0 | some x => x.start
set_option maxHeartbeats 4000000 in
theorem start_calls (h : EngAt W base ρ g s cells vs) (t : Int) : Calls Try.prog 27 #[.pointer (some ⟨g, 0, none⟩), .int .i64 t] W fun e w' => e = .returned (.int .i64 (startE s t)) ∧ W = w' := by
  have hof := of_calls h t
  clear h
  go_enter Try.func27, Try.ntmps27
  go_wp2_with fail
  refine hof.mono ?_; rintro e w' ⟨⟨p, rfl, hp⟩, rfl⟩
  clear hof
  rcases hp.form with ⟨e0, rfl⟩ | ⟨x, tn, gt, rd, pa, lf, ms, e0, rfl, ht, rfl, hcc, hx⟩
  · have HE := Aside0.mk (show startE s t = 0 by unfold startE; rw [e0])
    clear hp e0
    go_wp2
    go_ret
    exact ⟨by rw [HE.out]; rfl, rfl⟩
  · have HE := Aside0.mk (show startE s tn = x.start by unfold startE; rw [e0])
    have k0 := blk_cell hx.blk 0
    clear hp e0 hx
    go_wp2
    go_ret
    exact ⟨by rw [HE.out]; rfl, rfl⟩
def valueE (s : PEng) (n : Int) : Int × Int := if isE s n then ((varE s n).value, 0) else (0, 1)
set_option maxHeartbeats 4000000 in
theorem value_calls (h : EngAt W base ρ g s cells vs) (n : Int) : Calls Try.prog 22 #[.pointer (some ⟨g, 0, none⟩), .int .i64 n] W fun e w' => e = .returned (.tuple #[.int .i64 (valueE s n).1, .int .i64 (valueE s n).2]) ∧ W = w' := by
  have HV := Aside0.mk (show valueE s n = if isE s n then ((varE s n).value, 0) else (0, 1) from rfl)
  have his := is_calls h n
  have k1 := h.cell1
  have hN := h.vars
  clear h
  go_enter Try.func22, Try.ntmps22
  go_wp2_with fail
  refine his.mono ?_; rintro e w' ⟨rfl, rfl⟩
  clear his
  cases hb : isE s n with
  | false =>
    have HE := Aside0.mk (show valueE s n = (0, 1) by rw [HV.out, hb]; rfl)
    go_wp2
    go_ret2
    rw [HE.out]
    exact ⟨rfl, rfl⟩
  | true =>
    obtain ⟨hn0, hn1⟩ := isE_iff.1 hb
    obtain ⟨i, rfl⟩ : ∃ i : Nat, n = i := ⟨n.toNat, by omega⟩
    have hi : i < s.vars.length := by omega
    obtain ⟨gv, cap, rfl, hcap, c0, c1, c2, _⟩ := rowV_at hN hi
    have HE := Aside0.mk (show valueE s i = (s.vars[i].value, 0) by rw [HV.out, hb, varE_at hi]; rfl)
    generalize s.vars[i] = y at *
    clear hN HV hi hb
    go_wp2
    go_ret2
    rw [HE.out]
    exact ⟨rfl, rfl⟩
def newerE (s : PEng) (n than : Int) : Bool := isE s n && decide (than < (varE s n).version)
set_option maxHeartbeats 4000000 in
theorem newer_calls (h : EngAt W base ρ g s cells vs) (n than : Int) : Calls Try.prog 58 #[.pointer (some ⟨g, 0, none⟩), .int .i64 n, .int .i64 than] W fun e w' => e = .returned (.bool (newerE s n than)) ∧ W = w' := by
  have HV := Aside0.mk (show newerE s n than = (isE s n && decide (than < (varE s n).version)) from rfl)
  have his := is_calls h n
  have k1 := h.cell1
  have hN := h.vars
  clear h
  go_enter Try.func58, Try.ntmps58
  go_wp2_with fail
  refine his.mono ?_; rintro e w' ⟨rfl, rfl⟩
  clear his
  cases hb : isE s n with
  | false =>
    have HE := Aside0.mk (show newerE s n than = false by rw [HV.out, hb]; rfl)
    go_wp2
    go_ret
    exact ⟨by rw [HE.out]; rfl, rfl⟩
  | true =>
    obtain ⟨hn0, hn1⟩ := isE_iff.1 hb
    obtain ⟨i, rfl⟩ : ∃ i : Nat, n = i := ⟨n.toNat, by omega⟩
    have hi : i < s.vars.length := by omega
    obtain ⟨gv, cap, rfl, hcap, c0, c1, c2, _⟩ := rowV_at hN hi
    have HE := Aside0.mk (show newerE s i than = decide (than < s.vars[i].version) by rw [HV.out, hb, varE_at hi]; rfl)
    generalize s.vars[i] = y at *
    clear hN HV hi hb
    go_wp2
    go_ret
    exact ⟨by rw [HE.out]; rfl, rfl⟩
set_option maxHeartbeats 4000000 in
/-- look: x is some transaction's block. -/
theorem look_calls (h : EngAt W base ρ g s cells vs) (t : Int) {gt : Nat} {st : Int} (hst : W.cell? ⟨gt, 0, none⟩ = some (.int .i64 st)) (hgt : gt < W.heap.size) {i : Nat} (hi : i < s.vars.length) :
    Calls Try.prog 44 #[.pointer (some ⟨g, 0, none⟩), .int .i64 t, .pointer (some ⟨gt, 0, none⟩), .int .i64 i] W fun e w' => e = .returned (.int .i64 (lookE s t st i)) ∧ Below W.heap.size W w' := by
  have HV := Aside0.mk (show lookE s t st i = if s.vars[i].lock != -1 && s.vars[i].lock != t then 32 else if st < s.vars[i].version then 33 else 0 by unfold lookE; rw [varE_at hi])
  have k1 := h.cell1
  obtain ⟨gv, cap, rfl, hcap, c0, c1, c2, _⟩ := rowV_at h.vars hi
  have hiz : (i : Int) < (s.vars.length : Int) := by omega
  have HB := Aside0.mk (below_1 W (.cells #[.int .i64 s.vars[i].value, .int .i64 s.vars[i].version, .int .i64 s.vars[i].lock] 92))
  generalize s.vars[i] = y at *
  clear h hi
  have hne : W.heap.size ≠ gt := by omega
  cases e1 : (y.lock == -1) with
  | true =>
    have e1c : (y.lock != -1) = false := by simp [bne, e1]
    by_cases hv : st < y.version
    · have HE := Aside0.mk (show lookE s t st i = 33 by rw [HV.out, e1c, if_neg (by simp), if_pos hv])
      clear HV
      go_enter Try.func44, Try.ntmps44
      go_wp2_with fail
      go_quiet (fail)
      go_wp2
      go_ret
      exact ⟨by rw [HE.out]; rfl, pw_below_drewN HB.out _⟩
    · have HE := Aside0.mk (show lookE s t st i = 0 by rw [HV.out, e1c, if_neg (by simp), if_neg hv])
      clear HV
      go_enter Try.func44, Try.ntmps44
      go_wp2_with fail
      go_quiet (fail)
      go_wp2
      go_ret
      exact ⟨by rw [HE.out]; rfl, pw_below_drewN HB.out _⟩
  | false =>
    have e1c : (y.lock != -1) = true := by simp [bne, e1]
    cases e2 : (y.lock == t) with
    | true =>
      have e2c : (y.lock != t) = false := by simp [bne, e2]
      by_cases hv : st < y.version
      · have HE := Aside0.mk (show lookE s t st i = 33 by rw [HV.out, e1c, e2c, if_neg (by decide), if_pos hv])
        clear HV
        go_enter Try.func44, Try.ntmps44
        go_wp2_with fail
        go_quiet (fail)
        go_wp2
        go_ret
        exact ⟨by rw [HE.out]; rfl, pw_below_drewN HB.out _⟩
      · have HE := Aside0.mk (show lookE s t st i = 0 by rw [HV.out, e1c, e2c, if_neg (by decide), if_neg hv])
        clear HV
        go_enter Try.func44, Try.ntmps44
        go_wp2_with fail
        go_quiet (fail)
        go_wp2
        go_ret
        exact ⟨by rw [HE.out]; rfl, pw_below_drewN HB.out _⟩
    | false =>
      have e2c : (y.lock != t) = true := by simp [bne, e2]
      have HE := Aside0.mk (show lookE s t st i = 32 by rw [HV.out, e1c, e2c]; rfl)
      clear HV
      go_enter Try.func44, Try.ntmps44
      go_wp2
      go_ret
      exact ⟨by rw [HE.out]; rfl, HB.out⟩
set_option maxHeartbeats 4000000 in
/-- last: the youngest part's map. -/
theorem last_calls {t : Nat} {gt : Nat} {x : PTx} {rd pa lf : Value} {ms : List Nat} (h : TxAt W base ρ t gt x rd pa lf ms) {k : Nat} (hk : ms.length = k + 1) (hkb : k ≤ 1000000) :
    Calls Try.prog 41 #[.pointer (some ⟨gt, 0, none⟩)] W fun e w' => e = .returned (.map (some (ms[k]'(by omega)))) ∧ Below W.heap.size W w' := by
  have k3 := blk_cell h.blk 3
  obtain ⟨gv, cap, rfl, hcap, c0⟩ := rowP_at h.parts (i := k) (by omega)
  generalize ms[k]'(by omega) = m at *
  clear h
  generalize ms.length = n at *
  subst hk
  have hkz : (0 : Int) ≤ (k : Int) := by omega
  have hkl : (k : Int) < (k : Int) + 1 := by omega
  have hw : IntKind.i64.wrap (k : Int) = (k : Int) := IntWalk.i64_in _ (by omega)
  go_enter Try.func41, Try.ntmps41
  go_wp2_with fail
  go_quiet (fail)
  go_wp2
  go_ret
  exact ⟨rfl, pw_below_drewN (Below.refl _ _) _⟩
end
end Go.Proofs.Ytcnbgamalhfkmaa.P
