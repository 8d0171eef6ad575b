/- tl2: maps.Copy. -/
import Derived.Test.YtcnbgamalhfkmaaH1
import Derived.Maps.Ext
import Derived.Maps.RangeWalk
namespace Go.Proofs.Ytcnbgamalhfkmaa.P
open Go.RowKit Go.Proofs.YtcnbgamalhfkmaaW.PrintWords Go.Proofs.YtcnbgamalhfkmaaW.PrintLast Go.Proofs.YtcnbgamalhfkmaaW.PrintMore
set_option linter.unusedVariables false
set_option linter.unusedSimpArgs false
open Go.WideShapes Go.Maps Go.Shelf
def Rise (m : Mp) : Prop := m.Pairwise fun a b => a.1 < b.1
theorem MapAt.rise {w : World} {b : Nat} {m : Mp} (h : MapAt w b m) : Rise m := by
  obtain ⟨es, e, hp, _⟩ := World.ownsMap.canon (show w.ownsMap Try.prog 3 (plainElem (H := Unit) Try.prog 3) b m.length (toD m) from h) lawM
  have e2 : m.map (fun e => (keyL e.1, (.lit (keyL e.2) : DataW Unit))) = es := DataW.map.inj e
  rw [← e2, List.pairwise_map] at hp
  exact hp.imp fun {a b} hab => by
    have : (keyL a.1).before (keyL b.1) = true := hab
    rw [before_key] at this
    exact of_decide_eq_true this
theorem insM_len (x : Int × Int) : ∀ m : Mp, (insM x m).length = m.length + 1
  | [] => rfl
  | y :: r => by
    unfold insM
    split
    · simp
    · simp [insM_len x r]
theorem putM_len (m : Mp) (k v : Int) : (putM m k v).length ≤ m.length + 1 := by
  unfold putM
  rw [insM_len]
  have := List.length_filter_le (fun p : Int × Int => p.1 != k) m
  omega
theorem insM_find_ne (x : Int × Int) (j : Int) (hj : x.1 ≠ j) : ∀ m : Mp, (insM x m).find? (fun p => p.1 == j) = m.find? fun p => p.1 == j
  | [] => by simp [insM, hj]
  | y :: r => by
    unfold insM
    split
    · rw [List.find?_cons]
      have : (x.1 == j) = false := by simp [hj]
      rw [this]
    · rw [List.find?_cons, List.find?_cons, insM_find_ne x j hj r]
theorem insM_find_eq (x : Int × Int) : ∀ m : Mp, (∀ y ∈ m, y.1 ≠ x.1) → (insM x m).find? (fun p => p.1 == x.1) = some x
  | [], _ => by simp [insM]
  | y :: r, h => by
    unfold insM
    split
    · rw [List.find?_cons]; simp
    · rw [List.find?_cons]
      have : (y.1 == x.1) = false := by simp [h y (List.mem_cons_self)]
      rw [this]
      exact insM_find_eq x r (fun z hz => h z (List.mem_cons_of_mem _ hz))
theorem getM_put (m : Mp) (k v j : Int) : getM (putM m k v) j = if k = j then some v else getM m j := by
  unfold getM putM
  by_cases e : k = j
  · subst e
    rw [if_pos rfl, insM_find_eq (k, v) _ (fun y hy => by have := (List.mem_filter.1 hy).2; simpa using this)]
    rfl
  · rw [if_neg e, insM_find_ne (k, v) j e, List.find?_filter]
    congr 1
    congr 1
    funext p
    by_cases h1 : p.1 = j
    · have : p.1 ≠ k := fun e2 => e (e2.symm.trans h1)
      simp [h1, this]
      exact fun e2 => e e2.symm
    · simp [h1]
theorem getM_cons (x : Int × Int) (m : Mp) (j : Int) : getM (x :: m) j = if x.1 = j then some x.2 else getM m j := by
  unfold getM
  rw [List.find?_cons]
  by_cases h : x.1 = j
  · simp [h]
  · have : (x.1 == j) = false := by simp [h]
    rw [this, if_neg h]
theorem getM_none {m : Mp} {j : Int} (h : ∀ y ∈ m, y.1 ≠ j) : getM m j = none := by
  unfold getM
  rw [List.find?_eq_none.2 (fun y hy => by simp [h y hy])]
  rfl
theorem rise_ext : ∀ {a b : Mp}, Rise a → Rise b → (∀ j, getM a j = getM b j) → a = b
  | [], [], _, _, _ => rfl
  | [], y :: r, _, _, h => by have := h y.1; rw [getM_cons, if_pos rfl] at this; simp [getM] at this
  | x :: l, [], _, _, h => by have := h x.1; rw [getM_cons, if_pos rfl] at this; simp [getM] at this
  | x :: l, y :: r, ha, hb, h => by
    have ha2 := List.pairwise_cons.1 ha
    have hb2 := List.pairwise_cons.1 hb
    have e1 : x.1 = y.1 := by
      rcases Int.lt_trichotomy x.1 y.1 with hl | hl | hl
      · have := h x.1
        rw [getM_cons, if_pos rfl, getM_none (fun z hz => by
          rcases List.mem_cons.1 hz with rfl | hz
          · omega
          · have := hb2.1 z hz; omega)] at this
        cases this
      · exact hl
      · have := h y.1
        rw [getM_cons y, if_pos rfl, getM_none (m := x :: l) (fun z hz => by
          rcases List.mem_cons.1 hz with rfl | hz
          · omega
          · have := ha2.1 z hz; omega)] at this
        cases this
    have e2 : x.2 = y.2 := by
      have := h x.1
      rw [getM_cons, if_pos rfl, getM_cons, if_pos e1.symm] at this
      exact Option.some.inj this
    have e3 : x = y := Prod.ext e1 e2
    subst e3
    congr 1
    refine rise_ext ha2.2 hb2.2 fun j => ?_
    by_cases hj : x.1 = j
    · rw [getM_none (fun z hz => by have := ha2.1 z hz; omega), getM_none (fun z hz => by have := hb2.1 z hz; omega)]
    · have := h j
      rwa [getM_cons, if_neg hj, getM_cons, if_neg hj] at this
theorem insM_mem (x : Int × Int) : ∀ (m : Mp) (z : Int × Int), z ∈ insM x m ↔ z = x ∨ z ∈ m
  | [], z => by simp [insM]
  | y :: r, z => by
    unfold insM
    split
    · simp
    · simp only [List.mem_cons, insM_mem x r z]
      constructor
      · rintro (h | h | h) <;> simp [h]
      · rintro (h | h | h) <;> simp [h]
theorem insM_rise (x : Int × Int) : ∀ m : Mp, Rise m → (∀ y ∈ m, y.1 ≠ x.1) → Rise (insM x m)
  | [], _, _ => by simp [insM, Rise]
  | y :: r, h, hn => by
    have h2 := List.pairwise_cons.1 h
    unfold insM
    split
    · next hl =>
      refine List.pairwise_cons.2 ⟨fun z hz => ?_, h⟩
      rcases List.mem_cons.1 hz with rfl | hz
      · exact hl
      · have := h2.1 z hz; omega
    · next hl =>
      refine List.pairwise_cons.2 ⟨fun z hz => ?_, insM_rise x r h2.2 (fun z hz => hn z (List.mem_cons_of_mem _ hz))⟩
      rcases (insM_mem x r z).1 hz with rfl | hz
      · have := hn y List.mem_cons_self; omega
      · exact h2.1 z hz
theorem putM_rise {m : Mp} (h : Rise m) (k v : Int) : Rise (putM m k v) :=
  insM_rise (k, v) _ (List.Pairwise.filter _ h) (fun y hy => by have := (List.mem_filter.1 hy).2; simpa using this)
theorem copyM_rise : ∀ (q p : Mp), Rise p → Rise (copyM p q)
  | [], p, h => h
  | e :: q, p, h => by
    show Rise (copyM (putM p e.1 e.2) q)
    exact copyM_rise q _ (putM_rise h _ _)
theorem getM_copy : ∀ (q p : Mp) (j : Int), Rise q → getM (copyM p q) j = (getM q j).or (getM p j)
  | [], p, j, _ => by simp [copyM, getM]
  | e :: q, p, j, h => by
    have h2 := List.pairwise_cons.1 h
    show getM (copyM (putM p e.1 e.2) q) j = _
    rw [getM_copy q _ j h2.2, getM_put, getM_cons]
    by_cases he : e.1 = j
    · rw [if_pos he, if_pos he, getM_none (fun z hz => by have := h2.1 z hz; omega)]
      rfl
    · rw [if_neg he, if_neg he]
theorem isSome_of_has {q : Mp} {k : Int} (h : Maps.has (toD q) (keyL k) = true) : (getM q k).isSome = true := by rw [has_toD] at h; exact h
section
variable {w : World}
set_option maxRecDepth 100000 in
set_option maxHeartbeats 4000000 in
theorem copy_calls {bp bq : Nat} {p q : Mp} (hp : MapAt w bp p) (hq : MapAt w bq q) (hne : bp ≠ bq) (hl : p.length + q.length ≤ 1000000) :
    Calls Try.prog 62 #[.map (some bp), .map (some bq)] w fun e w' => (∃ v, e = .returned v) ∧ MapAt w' bp (copyM p q) ∧ w.grownBy w' (some bp) := by
  have HP := Aside0.mk hp
  have HQ := Aside0.mk hq
  have hbp := hp.lt
  have hbq := hq.lt
  go_enter Try.func62, Try.ntmps62
  go_wp2_with (first
    | (at_range; refine wpList_range_own _ rfl _ 78 rfl 3 3 lawM Try.underlying78 _ bq q.length _ rfl hq ?_; intro w0 hrg0 hg0 hs0)
    | go_in)
  go_frame
  go_loopw [4, 5] (fun _ _ wr => ∃ (left : Lit → Bool) (cnt : Nat) (p' : Mp), wr.ranges Try.prog 3 (plainElem (H := Unit) Try.prog 3) bq w.heap.size q.length (toD q) left cnt ∧ Aside0 (p'.length + cnt ≤ p.length + q.length) ∧
      MapAt wr bp p' ∧ Aside0 (∀ j, left (keyL j) = true → (getM q j).isSome = true) ∧ Aside0 (∀ j, getM p' j = if left (keyL j) then getM p j else (getM q j).or (getM p j)) ∧ Aside0 (w.grownBy wr (some bp)))
    (fun _ _ wr => wr.rangeLeft bq w.heap.size)
  case atStart =>
    refine ⟨_, _, p, hrg0, ⟨?_⟩, hp.move (hg0.block _ hbp (by simp)), ⟨fun j hj => isSome_of_has hj⟩, ⟨fun j => ?_⟩, ⟨hg0.but _⟩⟩
    · show p.length + Maps.size (toD q) ≤ _
      unfold toD; rw [Maps.size_eq, List.length_map]; exact Nat.le_refl _
    · rw [has_toD]
      cases getM q j <;> rfl
  case round =>
    obtain ⟨left, cnt, p', hrg, HL, hm, HI, HG, HW⟩ := hrel
    have hpl : p'.length ≤ 1000000 := by have := HL.out; omega
    go_wp2_with (first
      | (at_next; refine wpList_next_ranges_ii _ rfl _ rfl 3 3 .i64 .i64 lawM Try.underlying3 Try.underlying3 bq w.heap.size q.length _ _ _ rfl hrg ?_ ?_)
      | go_in)
    · intro hc0 hl0
      go_wp2
      go_end0
      refine ⟨⟨_, rfl⟩, ?_, HW.out⟩
      have e : p' = copyM p q := rise_ext hm.rise (copyM_rise q p HP.out.rise) (fun j => by rw [HG.out j, hl0, getM_copy q p j HQ.out.rise]; rfl)
      rw [← e]; exact hm
    · intro x c w1 cnt1 hwx hwc hlx hat hrg1 hlt hg1 hs1 hen
      have hm1 := hm.move (hg1.block _ hm.lt (fun e => by injection e with e; omega))
      have hgx : getM q x = some c := by
        have h1 := HI.out x hlx
        have h2 := (at_toD q x).symm.trans (hat _)
        cases hq : getM q x with
        | none => rw [hq] at h1; cases h1
        | some v => rw [hq] at h2; exact congrArg some (Lit.int.inj (DataW.lit.inj h2)).2
      go_wp2_with (first
        | (at_mapUpdate; refine wpList_mapUpdate_own _ rfl _ _ _ 78 rfl 3 3 lawM Try.underlying78 _ bp p'.length _ rfl hm1 (by unfold maxLen; omega) _ _ _ rfl rfl (Maps.keyOf_int_mk Try.underlying3 hwx) _ [] (plainElem_int Try.underlying3 hwc) ?_; intro w2 hout2 hg2; go_frame)
        | go_in)
      have hrg2 := hrg1.kept hg2 (fun e => by have := Option.some.inj e; omega) (fun e => by have := Option.some.inj e; omega)
      have hm2 : MapAt w2 bp (putM p' x c) := MapAt.of (n := p'.length + 1) (by rw [← put_toD]; exact hout2)
      go_roundw
      case rel =>
        refine ⟨_, cnt1, _, hrg2, ⟨by have := putM_len p' x c; have := HL.out; omega⟩, hm2, ⟨fun j hj => HI.out j (by simp only [Bool.and_eq_true] at hj; exact hj.1)⟩, ⟨fun j => ?_⟩, ⟨(HW.out.andThen hg1 (fun j e => by injection e with e; exact .inl (by omega))).andThen hg2 (fun j e => .inr e)⟩⟩
        rw [getM_put, HG.out j]
        show _ = if (left (keyL j) && !(keyL j).sameKey (keyL x)) = true then _ else _
        rw [same_key]
        by_cases e : x = j
        · subst e
          rw [if_pos rfl, hgx]; simp
        · have e2 : (j == x) = false := by rw [beq_eq_false_iff_ne]; exact fun e3 => e e3.symm
          rw [if_neg e, e2]; simp
      case measure => rw [hrg2.left_eq, hrg.left_eq]; exact hlt
end
end Go.Proofs.Ytcnbgamalhfkmaa.P
