/- tl2: slices.Index, slices.Contains at a row of ints. -/
import Derived.Test.YtcnbgamalhfkmaaF1
namespace Go.Proofs.Ytcnbgamalhfkmaa.P
open Go.RowKit Go.Proofs.YtcnbgamalhfkmaaW.PrintWords Go.Proofs.YtcnbgamalhfkmaaW.PrintLast Go.Proofs.YtcnbgamalhfkmaaW.PrintMore
set_option linter.unusedVariables false
set_option linter.unusedSimpArgs false
open Go.WideShapes Go.Maps Go.Shelf
theorem rowI_at {w : World} {base : Nat} {ok : Nat → Prop} {v : Value} {ms : List Int} (h : Kd.N kI 3 w base ok v ms) {i : Nat} (hi : i < ms.length) :
    ∃ gv cap, v = .slice (some ⟨gv, 0, none⟩) ms.length cap ∧ ms.length ≤ cap ∧ w.cell? ⟨gv, i, none⟩ = some (.int .i64 ms[i]) := by
  obtain ⟨gv, cap, rfl, _, _, _⟩ := Kd.N_form h (by omega)
  obtain ⟨c, hcl, hK, hc, hf⟩ := Kd.N_elem h 0 (i : Int) (by omega) (by omega)
  rw [Int.toNat_natCast, List.getD_eq_getElem?_getD, List.getElem?_eq_getElem hi, Option.getD_some] at hK
  have e : c = [.int .i64 ms[i]] := Kd.FK_now hK
  subst e
  have h0 := hc 0 _ rfl
  rw [Int.toNat_natCast, show kI.sz = 1 from rfl, Nat.mul_one, Nat.add_zero] at h0
  exact ⟨gv, cap, rfl, (Kd.N_reads' h).2.1, h0⟩
def idxI (l : List Int) (n : Int) : Int := match l.findIdx? (· == n) with | some i => i | none => -1
theorem idxI_hit {l : List Int} {n : Int} {k : Nat} (hk : k < l.length) (he : l[k] = n) (hne : ∀ j (hj : j < k) (hl : j < l.length), l[j] ≠ n) : idxI l n = k := by
  unfold idxI
  have : l.findIdx? (· == n) = some k := by
    rw [List.findIdx?_eq_some_iff_getElem]
    exact ⟨hk, by simp [he], fun j hj => by simp [hne j hj (by omega)]⟩
  rw [this]
theorem idxI_miss {l : List Int} {n : Int} (hne : ∀ j (hl : j < l.length), l[j] ≠ n) : idxI l n = -1 := by
  unfold idxI
  have : l.findIdx? (· == n) = none := by
    rw [List.findIdx?_eq_none_iff]
    intro x hx
    obtain ⟨j, hj, rfl⟩ := List.mem_iff_getElem.1 hx
    simp [hne j hj]
  rw [this]
theorem idxI_contains (l : List Int) (n : Int) : decide (idxI l n ≥ 0) = l.contains n := by
  unfold idxI
  cases h : l.findIdx? (· == n) with
  | none =>
    rw [List.findIdx?_eq_none_iff] at h
    have : l.contains n = false := by
      rw [Bool.eq_false_iff]
      intro e
      have := h n (by simpa using e)
      simp at this
    rw [this]; rfl
  | some i =>
    obtain ⟨hi, he, _⟩ := List.findIdx?_eq_some_iff_getElem.1 h
    have hm : n ∈ l := by rw [← (by simpa using he : l[i] = n)]; exact List.getElem_mem hi
    have : l.contains n = true := by simpa using hm
    rw [this]
    simp
section
variable {w : World} {base : Nat} {ok : Nat → Prop} {l : List Int}
set_option maxHeartbeats 4000000 in
theorem index_calls {A : Option Addr} {len cap : Nat} (h : Kd.N kI 3 w base ok (.slice A len cap) l) (n : Int) (hl : l.length ≤ 100000) :
    Calls Try.prog 64 #[.slice A len cap, .int .i64 n] w fun e w' => e = .returned (.int .i64 (idxI l n)) ∧ w = w' := by
  have HN := Aside0.mk h
  obtain rfl := (Kd.N_reads' h).1
  clear h
  go_enter Try.func64, Try.ntmps64
  go_wp2
  go_loopg [5, 8] l.length (fun gg _ s8 wr => ∃ kk : Nat, kk ≤ l.length ∧ l.length - kk ≤ gg ∧ s8 = .int .i64 kk ∧ w = wr ∧ Aside0 (∀ j (hj : j < kk) (hl : j < l.length), l[j] ≠ n))
  case atStart => exact ⟨0, Nat.zero_le _, by omega, rfl, rfl, ⟨fun j hj => absurd hj (Nat.not_lt_zero _)⟩⟩
  case round =>
    obtain ⟨kk, hkk, hg, rfl, rfl, AA⟩ := hrel
    by_cases hlt : kk < l.length
    · have hltz : (kk : Int) < (l.length : Int) := by omega
      obtain ⟨gv, cap', e, hcap, c0⟩ := rowI_at HN.out hlt
      cases e
      by_cases he : l[kk] = n
      · have hE : n = l[kk] := he.symm
        have HE := Aside0.mk he
        have hI := Aside0.mk (idxI_hit hlt he AA.out)
        generalize l[kk] = y at *
        subst hE
        clear HE he
        go_wp2
        go_ret
        exact ⟨by rw [hI.out]; rfl, rfl⟩
      · have HE := Aside0.mk he
        have hE : ¬ n = l[kk] := fun e => he e.symm
        generalize hy : l[kk] = y at c0 hE
        clear he
        have HY := Aside0.mk hy
        clear hy
        go_wp2
        go_roundg (l.length - (kk + 1))
        case measure => omega
        case rel => exact ⟨kk + 1, by omega, by omega, by go_num, rfl, ⟨fun j hj hjl => by
          by_cases e2 : j = kk
          · subst e2; exact HE.out
          · exact AA.out j (by omega) hjl⟩⟩
    · have hltz : ¬ (kk : Int) < (l.length : Int) := by omega
      have hI := Aside0.mk (idxI_miss (fun j hj => AA.out j (by omega) hj))
      go_wp2
      go_ret
      exact ⟨by rw [hI.out]; rfl, rfl⟩
set_option maxHeartbeats 4000000 in
theorem contains_calls {A : Option Addr} {len cap : Nat} (h : Kd.N kI 3 w base ok (.slice A len cap) l) (n : Int) (hl : l.length ≤ 100000) :
    Calls Try.prog 45 #[.slice A len cap, .int .i64 n] w fun e w' => e = .returned (.bool (l.contains n)) ∧ w = w' := by
  have hc := index_calls h n hl
  have HI := Aside0.mk (idxI_contains l n)
  clear h
  generalize idxI l n = q at hc HI
  go_enter Try.func45, Try.ntmps45
  go_wp2_with fail
  refine hc.mono ?_; rintro e w' ⟨rfl, rfl⟩
  clear hc
  by_cases hq : q ≥ 0
  · go_wp2
    go_ret
    exact ⟨by rw [← HI.out]; simp [hq], rfl⟩
  · go_wp2
    go_ret
    exact ⟨by rw [← HI.out]; simp [hq], rfl⟩
end
end Go.Proofs.Ytcnbgamalhfkmaa.P
