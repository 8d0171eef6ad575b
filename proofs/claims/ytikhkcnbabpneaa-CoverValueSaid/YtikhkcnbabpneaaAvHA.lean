/- Toolkit of the hand walks: predicates on rows, places, elements; slices.IndexFunc and slices.ContainsFunc at the seat's instances, at any predicate; slices.Clone and slices.DeleteFunc at the seat's instances; (book).find, (book).of; (book).sound; cover.wild at 0, 1, 2; append laws: nothing; onto a row cut to its length; cover.below, cover.under; cover.under -/
import Derived.Test.YtikhkcnbabpneaaAvPx0
import Derived.Shelf.Abstract
import Derived.WalkSpells
import Derived.Test.YtikhkcnbabpneaaAvPx19
import Derived.Deep.RegionLawGrows
import Derived.Test.YtikhkcnbabpneaaAvPx19
import Derived.Test.YtikhkcnbabpneaaAvPx19
import Derived.Deep.RegionLaw
import Derived.StillTailTactics
namespace Go.Proofs.Ytikhkcnbabpneaa.P
open Go.RowKit Go.Proofs.YtikhkcnbabpneaaW.PrintWords Go.Proofs.YtikhkcnbabpneaaW.PrintLast Go.Proofs.YtikhkcnbabpneaaW.PrintMore
set_option linter.unusedVariables false
set_option linter.unusedSimpArgs false
def PredOn {α : Type} (d : Kd α) (g : Nat) (lb : Array Value) (p : α → Bool) (xs : List α) (w : World) : Prop :=
 ∀ (W : World) (x : α) (cs : List Value), Below w.heap.size w W → x ∈ xs → d.K W x cs → Calls Try.prog g (#[.agg cs.toArray] ++ lb) W fun e w' => e = .returned (.bool (p x)) ∧ Below W.heap.size W w'
def idx {α : Type} (p : α → Bool) (xs : List α) : Int := if xs.any p then (xs.findIdx p : Int) else -1
theorem idx_hit {α : Type} (p : α → Bool) (xs : List α) (k : Nat) (h : k < xs.length) (hp : p xs[k] = true) (hb : ∀ j (hj : j < k), p (xs[j]'(by omega)) = false) : idx p xs = k := by
 unfold idx
 have h1 : xs.any p = true := List.any_eq_true.2 ⟨_, List.getElem_mem h, hp⟩
 have h2 : xs.findIdx p = k := by
  refine (List.findIdx_eq h).2 ⟨hp, fun j hj => ?_⟩
  exact hb j hj
 rw [if_pos h1, h2]
theorem idx_miss {α : Type} (p : α → Bool) (xs : List α) (hb : ∀ j (hj : j < xs.length), p xs[j] = false) : idx p xs = -1 := by
 unfold idx
 rw [if_neg]
 intro h
 obtain ⟨x, hx, hp⟩ := List.any_eq_true.1 h
 obtain ⟨j, hj, rfl⟩ := List.mem_iff_getElem.1 hx
 rw [hb j hj] at hp
 cases hp
theorem idx_any {α : Type} (p : α → Bool) (xs : List α) : decide (0 ≤ idx p xs) = xs.any p := by
 unfold idx
 cases h : xs.any p
 ·
  simp
 ·
  simp
theorem idx_yes {α : Type} (p : α → Bool) (l : List α) (h : l.any p = true) : ∃ k : Nat, ∃ hk : k < l.length, idx p l = k ∧ l.find? p = some l[k] ∧ p l[k] = true ∧ ∀ j (hj : j < k), p (l[j]'(by omega)) = false := by
 have hlt : l.findIdx p < l.length := List.findIdx_lt_length_of_exists (by obtain ⟨x, hx, hp⟩ := List.any_eq_true.1 h; exact ⟨x, hx, hp⟩)
 refine ⟨l.findIdx p, hlt, by unfold idx; rw [if_pos h], ?_, List.findIdx_getElem, fun j hj => ?_⟩
 ·
  rw [List.find?_eq_getElem?_findIdx, List.getElem?_eq_getElem hlt]
 ·
  simpa using List.not_of_lt_findIdx hj
theorem idx_no {α : Type} (p : α → Bool) (l : List α) (h : l.any p = false) : idx p l = -1 ∧ l.find? p = none := by
 refine ⟨by unfold idx; rw [h]; rfl, ?_⟩
 rw [List.find?_eq_none]
 intro x hx hp
 rw [List.any_eq_false] at h
 exact h x hx hp
theorem elem_at {α : Type} {d : Kd α} {w : World} {A : Option Addr} {n : Nat} {xs : List α} (h : d.C w A n xs) (k : Nat) (hk : k < xs.length) :
 ∃ ad c, A = some ad ∧ c.length = d.sz ∧ d.K w xs[k] c ∧ (∀ u, c[0]? = some u → w.cell? (ad.add (k * d.sz)) = some u) ∧ ∀ j u, 0 < j → c[j]? = some u → w.cell? ⟨(ad.add (k * d.sz)).block, (ad.add (k * d.sz)).off + j, none⟩ = some u := by
 obtain ⟨ad, e, hc⟩ := h.2.2 (by have := h.1; omega)
 obtain ⟨c, hl, hK, hcc⟩ := hc k _ (List.getElem?_eq_getElem hk)
 refine ⟨ad, c, e, hl, hK, fun u hu => hcc 0 u hu, fun j u hj hu => ?_⟩
 rw [← add_field _ _ j hj]
 exact hcc j u hu
theorem elem_own {α : Type} {d : Kd α} {e base n cap g : Nat} {ok : Nat → Prop} {W : World} {xs : List α} (h : Kd.N d e W base ok (.slice (some ⟨g, 0, none⟩) n cap) xs) (k : Nat) (hk : k < xs.length) :
 ∃ c, c.length = d.sz ∧ Kd.FK d W (fun k => ok k ∧ k ≠ g) xs[k] c ∧ (∀ j u, c[j]? = some u → W.cell? ⟨g, k * d.sz + j, none⟩ = some u) ∧ ∀ j, W.frozen? ⟨g, k * d.sz + j, none⟩ = false := by
 have hn := (Kd.N_reads' h).1
 obtain ⟨c, h1, h2, h3, h4⟩ := Kd.N_elem h xs[k] k (by omega) (by omega)
 rw [Int.toNat_natCast] at h2 h3 h4
 rw [List.getD_eq_getElem?_getD, List.getElem?_eq_getElem hk, Option.getD_some] at h2
 exact ⟨c, h1, h2, h3, h4⟩
theorem below_1 (w : World) (o : Obj) : Below w.heap.size w (w.alloc o) := (Below.refl _ w).alloc (Nat.le_refl _) _
theorem below_2 (w : World) (o o' : Obj) : Below w.heap.size w ((w.alloc o).alloc o') := (below_1 w o).alloc (by rw [World.size_alloc]; omega) _
theorem below_3 (w : World) (o o' o'' : Obj) : Below w.heap.size w (((w.alloc o).alloc o').alloc o'') := (below_2 w o o').alloc (by rw [World.size_alloc, World.size_alloc]; omega) _
theorem cell_below {w w1 : World} (hb : Below w.heap.size w w1) {b i : Nat} {v : Value} (h : w.cell? ⟨b, i, none⟩ = some v) : w1.cell? ⟨b, i, none⟩ = some v := pw_cell_below hb h
theorem cell_lt {w : World} {b i : Nat} {v : Value} (h : w.cell? ⟨b, i, none⟩ = some v) : b < w.heap.size := World.block_lt_of_cell? w _ h
set_option maxHeartbeats 2000000 in
theorem IndexFunc73_calls (g : Nat) (lb : Array Value) (p : S61 → Bool) (eg : ∀ args w, (callFunc g args).run Try.prog w = .ok (.enter g args) w)
 (A0 : Option Addr) (c0 : Nat) (l0 : List S61) (w : World) (hr0 : Kd.C k61 w A0 l0.length l0) (hp : PredOn k61 g lb p l0 w) :
 Calls Try.prog 73 #[.slice A0 l0.length c0, .func (.func g) #[] lb] w fun e w' => e = .returned (.int .i64 (idx p l0)) ∧ Below w.heap.size w w' := by
 have hmax : l0.length ≤ 9223372036854775807 := hr0.2.1
 have HR := Aside0.mk hr0
 have HP := Aside0.mk hp
 clear hr0 hp
 go_enter Try.func73, Try.ntmps73
 go_wp2
 go_loopg [5, 8] l0.length (fun gg _ s8 wr => ∃ kk : Nat, kk ≤ l0.length ∧ l0.length - kk ≤ gg ∧ s8 = .int .i64 kk ∧ Aside0 (Below w.heap.size w wr) ∧ Aside0 (∀ j (hj : j < kk) (hl : j < l0.length), p l0[j] = false))
 case atStart => exact ⟨0, Nat.zero_le _, by omega, rfl, ⟨Below.refl _ w⟩, ⟨fun j hj => absurd hj (Nat.not_lt_zero _)⟩⟩
 case round =>
  obtain ⟨kk, hkk, hg, rfl, BW, AA⟩ := hrel
  by_cases hlt : kk < l0.length
  ·
   have hltz : (kk : Int) < (l0.length : Int) := by omega
   obtain ⟨ad, c, e, hcl, hK, hc0, hcj⟩ := elem_at (Kd.C_below HR.out BW.out) kk hlt
   have hcall := HP.out wr l0[kk] c BW.out (List.getElem_mem _) hK
   obtain rfl := k61_open hK
   clear hcl
   subst e
   simp only [show k61.sz = 5 from rfl] at hc0 hcj
   have h0 := hc0 _ rfl
   have h1 := hcj 1 _ (by decide) rfl
   have h2 := hcj 2 _ (by decide) rfl
   have h3 := hcj 3 _ (by decide) rfl
   have h4 := hcj 4 _ (by decide) rfl
   clear hc0 hcj hK
   generalize hq : p l0[kk] = q at hcall
   have HQ := Aside0.mk hq
   clear hq
   generalize l0[kk] = y at h0 h1 h2 h3 h4 hcall
   cases q with
   | true =>
    go_wp2_with fail
    refine hcall.mono ?_; rintro e w' ⟨rfl, hb'⟩
    clear hcall h0 h1 h2 h3 h4
    go_wp2
    go_ret
    exact ⟨by rw [idx_hit p l0 kk hlt HQ.out (fun j hj => AA.out j hj (by omega))]; rfl, BW.out.trans (hb'.mono BW.out.size)⟩
   | false =>
    go_wp2_with fail
    refine hcall.mono ?_; rintro e w' ⟨rfl, hb'⟩
    clear hcall h0 h1 h2 h3 h4
    go_wp2
    go_roundg (l0.length - (kk + 1))
    case measure => omega
    case rel =>
     refine ⟨kk + 1, by omega, by omega, by go_num, ⟨BW.out.trans (hb'.mono BW.out.size)⟩, ⟨fun j hj hl => ?_⟩⟩
     by_cases e : j = kk
     ·
      subst e
      exact HQ.out
     ·
      exact AA.out j (by omega) hl
  ·
   have hltz : ¬ (kk : Int) < (l0.length : Int) := by omega
   go_wp2
   go_ret
   exact ⟨by rw [idx_miss p l0 (fun j hj => AA.out j (by omega) hj)]; rfl, BW.out⟩
set_option maxHeartbeats 2000000 in
theorem IndexFunc75_calls (g : Nat) (lb : Array Value) (p : S25 → Bool) (eg : ∀ args w, (callFunc g args).run Try.prog w = .ok (.enter g args) w)
 (A0 : Option Addr) (c0 : Nat) (l0 : List S25) (w : World) (hr0 : Kd.C k25 w A0 l0.length l0) (hp : PredOn k25 g lb p l0 w) :
 Calls Try.prog 75 #[.slice A0 l0.length c0, .func (.func g) #[] lb] w fun e w' => e = .returned (.int .i64 (idx p l0)) ∧ Below w.heap.size w w' := by
 have hmax : l0.length ≤ 9223372036854775807 := hr0.2.1
 have HR := Aside0.mk hr0
 have HP := Aside0.mk hp
 clear hr0 hp
 go_enter Try.func75, Try.ntmps75
 go_wp2
 go_loopg [5, 8] l0.length (fun gg _ s8 wr => ∃ kk : Nat, kk ≤ l0.length ∧ l0.length - kk ≤ gg ∧ s8 = .int .i64 kk ∧ Aside0 (Below w.heap.size w wr) ∧ Aside0 (∀ j (hj : j < kk) (hl : j < l0.length), p l0[j] = false))
 case atStart => exact ⟨0, Nat.zero_le _, by omega, rfl, ⟨Below.refl _ w⟩, ⟨fun j hj => absurd hj (Nat.not_lt_zero _)⟩⟩
 case round =>
  obtain ⟨kk, hkk, hg, rfl, BW, AA⟩ := hrel
  by_cases hlt : kk < l0.length
  ·
   have hltz : (kk : Int) < (l0.length : Int) := by omega
   obtain ⟨ad, c, e, hcl, hK, hc0, hcj⟩ := elem_at (Kd.C_below HR.out BW.out) kk hlt
   have hcall := HP.out wr l0[kk] c BW.out (List.getElem_mem _) hK
   obtain ⟨A4, c4, A5, c5, rfl, l4, g4, l5, g5⟩ := k25_open hK
   clear hcl
   subst e
   simp only [show k25.sz = 6 from rfl] at hc0 hcj
   have h0 := hc0 _ rfl
   have h1 := hcj 1 _ (by decide) rfl
   have h2 := hcj 2 _ (by decide) rfl
   have h3 := hcj 3 _ (by decide) rfl
   have h4 := hcj 4 _ (by decide) rfl
   have h5 := hcj 5 _ (by decide) rfl
   clear hc0 hcj hK l4 g4 l5 g5
   generalize hq : p l0[kk] = q at hcall
   have HQ := Aside0.mk hq
   clear hq
   generalize l0[kk].f4.length = n4 at h0 h1 h2 h3 h4 h5 hcall
   generalize l0[kk].f5.length = n5 at h0 h1 h2 h3 h4 h5 hcall
   generalize l0[kk] = y at h0 h1 h2 h3 h4 h5 hcall
   cases q with
   | true =>
    go_wp2_with fail
    refine hcall.mono ?_; rintro e w' ⟨rfl, hb'⟩
    clear hcall h0 h1 h2 h3 h4 h5
    go_wp2
    go_ret
    exact ⟨by rw [idx_hit p l0 kk hlt HQ.out (fun j hj => AA.out j hj (by omega))]; rfl, BW.out.trans (hb'.mono BW.out.size)⟩
   | false =>
    go_wp2_with fail
    refine hcall.mono ?_; rintro e w' ⟨rfl, hb'⟩
    clear hcall h0 h1 h2 h3 h4 h5
    go_wp2
    go_roundg (l0.length - (kk + 1))
    case measure => omega
    case rel =>
     refine ⟨kk + 1, by omega, by omega, by go_num, ⟨BW.out.trans (hb'.mono BW.out.size)⟩, ⟨fun j hj hl => ?_⟩⟩
     by_cases e : j = kk
     ·
      subst e
      exact HQ.out
     ·
      exact AA.out j (by omega) hl
  ·
   have hltz : ¬ (kk : Int) < (l0.length : Int) := by omega
   go_wp2
   go_ret
   exact ⟨by rw [idx_miss p l0 (fun j hj => AA.out j (by omega) hj)]; rfl, BW.out⟩
set_option maxHeartbeats 2000000 in
theorem IndexFunc76_calls (g : Nat) (lb : Array Value) (p : S61 → Bool) (eg : ∀ args w, (callFunc g args).run Try.prog w = .ok (.enter g args) w)
 (A0 : Option Addr) (c0 : Nat) (l0 : List S61) (w : World) (hr0 : Kd.C k61 w A0 l0.length l0) (hp : PredOn k61 g lb p l0 w) :
 Calls Try.prog 76 #[.slice A0 l0.length c0, .func (.func g) #[] lb] w fun e w' => e = .returned (.int .i64 (idx p l0)) ∧ Below w.heap.size w w' := by
 have hmax : l0.length ≤ 9223372036854775807 := hr0.2.1
 have HR := Aside0.mk hr0
 have HP := Aside0.mk hp
 clear hr0 hp
 go_enter Try.func76, Try.ntmps76
 go_wp2
 go_loopg [5, 8] l0.length (fun gg _ s8 wr => ∃ kk : Nat, kk ≤ l0.length ∧ l0.length - kk ≤ gg ∧ s8 = .int .i64 kk ∧ Aside0 (Below w.heap.size w wr) ∧ Aside0 (∀ j (hj : j < kk) (hl : j < l0.length), p l0[j] = false))
 case atStart => exact ⟨0, Nat.zero_le _, by omega, rfl, ⟨Below.refl _ w⟩, ⟨fun j hj => absurd hj (Nat.not_lt_zero _)⟩⟩
 case round =>
  obtain ⟨kk, hkk, hg, rfl, BW, AA⟩ := hrel
  by_cases hlt : kk < l0.length
  ·
   have hltz : (kk : Int) < (l0.length : Int) := by omega
   obtain ⟨ad, c, e, hcl, hK, hc0, hcj⟩ := elem_at (Kd.C_below HR.out BW.out) kk hlt
   have hcall := HP.out wr l0[kk] c BW.out (List.getElem_mem _) hK
   obtain rfl := k61_open hK
   clear hcl
   subst e
   simp only [show k61.sz = 5 from rfl] at hc0 hcj
   have h0 := hc0 _ rfl
   have h1 := hcj 1 _ (by decide) rfl
   have h2 := hcj 2 _ (by decide) rfl
   have h3 := hcj 3 _ (by decide) rfl
   have h4 := hcj 4 _ (by decide) rfl
   clear hc0 hcj hK
   generalize hq : p l0[kk] = q at hcall
   have HQ := Aside0.mk hq
   clear hq
   generalize l0[kk] = y at h0 h1 h2 h3 h4 hcall
   cases q with
   | true =>
    go_wp2_with fail
    refine hcall.mono ?_; rintro e w' ⟨rfl, hb'⟩
    clear hcall h0 h1 h2 h3 h4
    go_wp2
    go_ret
    exact ⟨by rw [idx_hit p l0 kk hlt HQ.out (fun j hj => AA.out j hj (by omega))]; rfl, BW.out.trans (hb'.mono BW.out.size)⟩
   | false =>
    go_wp2_with fail
    refine hcall.mono ?_; rintro e w' ⟨rfl, hb'⟩
    clear hcall h0 h1 h2 h3 h4
    go_wp2
    go_roundg (l0.length - (kk + 1))
    case measure => omega
    case rel =>
     refine ⟨kk + 1, by omega, by omega, by go_num, ⟨BW.out.trans (hb'.mono BW.out.size)⟩, ⟨fun j hj hl => ?_⟩⟩
     by_cases e : j = kk
     ·
      subst e
      exact HQ.out
     ·
      exact AA.out j (by omega) hl
  ·
   have hltz : ¬ (kk : Int) < (l0.length : Int) := by omega
   go_wp2
   go_ret
   exact ⟨by rw [idx_miss p l0 (fun j hj => AA.out j (by omega) hj)]; rfl, BW.out⟩
set_option maxHeartbeats 2000000 in
theorem ContainsFunc40_calls (g : Nat) (lb : Array Value) (p : S61 → Bool) (eg : ∀ args w, (callFunc g args).run Try.prog w = .ok (.enter g args) w)
 (A0 : Option Addr) (c0 : Nat) (l0 : List S61) (w : World) (hr0 : Kd.C k61 w A0 l0.length l0) (hp : PredOn k61 g lb p l0 w) :
 Calls Try.prog 40 #[.slice A0 l0.length c0, .func (.func g) #[] lb] w fun e w' => e = .returned (.bool (l0.any p)) ∧ Below w.heap.size w w' := by
 have hcall := IndexFunc73_calls g lb p eg A0 c0 l0 w hr0 hp
 have hi := idx_any p l0
 clear hr0 hp
 generalize idx p l0 = i at hcall hi
 generalize l0.any p = b at hi ⊢
 have HI := Aside0.mk hi
 clear hi
 go_enter Try.func40, Try.ntmps40
 go_wp2_with fail
 refine hcall.mono ?_; rintro e w' ⟨rfl, hb'⟩
 clear hcall
 go_wp2
 go_ret
 exact ⟨by rw [← HI.out]; rfl, hb'⟩
set_option maxHeartbeats 2000000 in
theorem ContainsFunc47_calls (g : Nat) (lb : Array Value) (p : S25 → Bool) (eg : ∀ args w, (callFunc g args).run Try.prog w = .ok (.enter g args) w)
 (A0 : Option Addr) (c0 : Nat) (l0 : List S25) (w : World) (hr0 : Kd.C k25 w A0 l0.length l0) (hp : PredOn k25 g lb p l0 w) :
 Calls Try.prog 47 #[.slice A0 l0.length c0, .func (.func g) #[] lb] w fun e w' => e = .returned (.bool (l0.any p)) ∧ Below w.heap.size w w' := by
 have hcall := IndexFunc75_calls g lb p eg A0 c0 l0 w hr0 hp
 have hi := idx_any p l0
 clear hr0 hp
 generalize idx p l0 = i at hcall hi
 generalize l0.any p = b at hi ⊢
 have HI := Aside0.mk hi
 clear hi
 go_enter Try.func47, Try.ntmps47
 go_wp2_with fail
 refine hcall.mono ?_; rintro e w' ⟨rfl, hb'⟩
 clear hcall
 go_wp2
 go_ret
 exact ⟨by rw [← HI.out]; rfl, hb'⟩
set_option maxHeartbeats 2000000 in
theorem ContainsFunc54_calls (g : Nat) (lb : Array Value) (p : S61 → Bool) (eg : ∀ args w, (callFunc g args).run Try.prog w = .ok (.enter g args) w)
 (A0 : Option Addr) (c0 : Nat) (l0 : List S61) (w : World) (hr0 : Kd.C k61 w A0 l0.length l0) (hp : PredOn k61 g lb p l0 w) :
 Calls Try.prog 54 #[.slice A0 l0.length c0, .func (.func g) #[] lb] w fun e w' => e = .returned (.bool (l0.any p)) ∧ Below w.heap.size w w' := by
 have hcall := IndexFunc76_calls g lb p eg A0 c0 l0 w hr0 hp
 have hi := idx_any p l0
 clear hr0 hp
 generalize idx p l0 = i at hcall hi
 generalize l0.any p = b at hi ⊢
 have HI := Aside0.mk hi
 clear hi
 go_enter Try.func54, Try.ntmps54
 go_wp2_with fail
 refine hcall.mono ?_; rintro e w' ⟨rfl, hb'⟩
 clear hcall
 go_wp2
 go_ret
 exact ⟨by rw [← HI.out]; rfl, hb'⟩
theorem N_empty {α : Type} (d : Kd α) (W : World) (base e : Nat) (hb : base ≤ W.heap.size) (hd : 0 < d.sz) : Kd.N d e (W.alloc (.cells #[] e)) base (fun _ => True) (.slice (some ⟨W.heap.size, 0, none⟩) 0 0) ([] : List α) :=
 Kd.R_N ⟨fun _ _ => trivial, OwnRow.lit (ps := ([] : List α)) W base (inner := []) (Reps.none _ _) hb (by simp)⟩
theorem info_size {P : Program} {e : Nat} {z : Value} {n b : Nat} (h : (P.info? e).map (fun i => (i.zero, i.size, i.bytes)) = some (some z, n, b)) : (P.info? e).map (·.size) = some n := by
 cases hi : P.info? e with
 | none => rw [hi] at h; cases h
 | some i => rw [hi] at h; simp only [Option.map_some, Option.some.injEq, Prod.mk.injEq] at h ⊢; exact h.2.1
theorem below_setCells {w0 w : World} {g : Nat} (h : Below w0.heap.size w0 w) (hg : w0.heap.size ≤ g) (vs : List Value) (o : Nat) : Below w0.heap.size w0 (w.setCells g o vs) := by
 obtain ⟨h1, h2, h3, h4⟩ := setCells_same g vs o w
 exact ⟨h1.trans h.os, h2.trans h.tape, h3.trans h.output, by rw [h4]; exact h.size, fun k hk => (setCells_far vs o k (by omega)).trans (h.block k hk)⟩
theorem C_none {α : Type} {d : Kd α} {w : World} {n : Nat} {l : List α} (h : d.C w none n l) : l = [] := by
 cases l with
 | nil => rfl
 | cons x l => obtain ⟨ad, e, _⟩ := h.2.2 (by have := h.1; simp at this; omega); cases e
structure Kept1 {α : Type} (p : α → Bool) (xs ys : List α) (i j : Nat) : Prop where
 len : ys.length = xs.length
 le : i < j
 hi : j ≤ xs.length
 low : ys.take i = (xs.take j).filter (fun x => !p x)
 high : ys.drop j = xs.drop j
theorem Kept1.at {α : Type} {p : α → Bool} {xs ys : List α} {i j : Nat} (h : Kept1 p xs ys i j) (hj : j < xs.length) : ys[j]'(by rw [h.len]; exact hj) = xs[j] := by
 have hl := h.len
 have h1 : (ys.drop j)[0]? = (xs.drop j)[0]? := by rw [h.high]
 rw [List.getElem?_drop, List.getElem?_drop, Nat.add_zero, List.getElem?_eq_getElem (by omega), List.getElem?_eq_getElem hj] at h1
 exact Option.some.inj h1
theorem Kept1.start {α : Type} (p : α → Bool) (xs : List α) (k : Nat) (hk : k < xs.length) (hp : p xs[k] = true) (hb : ∀ j (hj : j < k), p (xs[j]'(by omega)) = false) : Kept1 p xs xs k (k + 1) := by
 refine ⟨rfl, by omega, by omega, ?_, rfl⟩
 rw [List.take_succ_eq_append_getElem hk, List.filter_append]
 have h1 : (xs.take k).filter (fun x => !p x) = xs.take k := by
  rw [List.filter_eq_self]
  intro x hx
  obtain ⟨j, hj, rfl⟩ := List.mem_iff_getElem.1 hx
  rw [List.length_take] at hj
  rw [List.getElem_take, hb j (by omega)]
  rfl
 rw [h1]
 simp [hp]
theorem Kept1.skip {α : Type} {p : α → Bool} {xs ys : List α} {i j : Nat} (h : Kept1 p xs ys i j) (hj : j < xs.length) (hp : p xs[j] = true) : Kept1 p xs ys i (j + 1) := by
 refine ⟨h.len, by have := h.le; omega, by omega, ?_, ?_⟩
 ·
  rw [List.take_succ_eq_append_getElem hj, List.filter_append, ← h.low]
  simp [hp]
 ·
  rw [← List.drop_drop, ← List.drop_drop, h.high]
theorem Kept1.keep {α : Type} {p : α → Bool} {xs ys : List α} {i j : Nat} (h : Kept1 p xs ys i j) (hj : j < xs.length) (hp : p xs[j] = false) : Kept1 p xs (ys.set i xs[j]) (i + 1) (j + 1) := by
 have hl := h.len; have hle := h.le
 refine ⟨by rw [List.length_set]; exact hl, by omega, by omega, ?_, ?_⟩
 ·
  rw [List.take_succ_eq_append_getElem (by rw [List.length_set]; omega), List.take_set_of_le (Nat.le_refl i), List.getElem_set_self, h.low, List.take_succ_eq_append_getElem hj, List.filter_append]
  simp [hp]
 ·
  rw [List.drop_set_of_lt (by omega), ← List.drop_drop, ← List.drop_drop, h.high]
theorem Kept1.done {α : Type} {p : α → Bool} {xs ys : List α} {i : Nat} (h : Kept1 p xs ys i xs.length) : ys.take i = xs.filter (fun x => !p x) := by
 rw [h.low, List.take_length]
theorem N_cleared {α : Type} {d : Kd α} {e base n cap g i : Nat} {W : World} {xs : List α} (h : Kd.N d e W base (fun _ => True) (.slice (some ⟨g, 0, none⟩) n cap) xs) (hi : i ≤ n) (vs : List Value) (hv : vs.length = (n - i) * d.sz) :
 Kd.N d e (W.setCells g (i * d.sz) vs) base (fun _ => True) (.slice (some ⟨g, 0, none⟩) i cap) (xs.take i) := by
 have hn := (Kd.N_reads' h).1
 obtain ⟨h0, rows, hl, ⟨hr0, inner, ho, hr⟩, hf⟩ := Kd.N_take h (m := i) (by omega)
 obtain ⟨h0', rows', hl', ⟨hr0', inner', ho', hr'⟩, hf'⟩ := h
 have hxi : (xs.take i).length = i := by rw [List.length_take]; omega
 have hrl : rows.length = i := by rw [hl, hxi]
 refine ⟨h0, rows, hl, ⟨hr0, inner, ?_, hr⟩, fun j x c hx hc => Kd.FK_step (hf j x c hx hc) (fun k hk _ => setCells_far vs _ k (fun e => hk.2 (by rw [e]; simp [Value.ownBlock])))⟩
 obtain ⟨h1, h2⟩ := ho
 obtain ⟨h1', h2'⟩ := ho'
 rcases h2' with ⟨hv', _⟩ | ⟨g', cap', cur', hv', hb', hg', hc', hm', hs', ht'⟩
 ·
  cases hv'
 ·
  injection hv' with ha _ hcap
  injection ha with ha
  injection ha with ha _ _
  subst ha
  subst hcap
  rcases h2 with ⟨hv'', _⟩ | ⟨g2, cap2, cur2, hv2, hb2, hg2, hc2, hm2, hs2, ht2⟩
  ·
   cases hv''
  ·
   injection hv2 with ha _ hcap
   injection ha with ha
   injection ha with ha _ _
   subst ha
   subst hcap
   rw [hg'] at hg2
   injection hg2 with hg2
   injection hg2 with hg2 _ _
   subst hg2
   have hsz : (Kd.raw d.sz).sz = d.sz := rfl
   rw [hsz] at hs2 ht2
   have hle : i * d.sz + vs.length ≤ cur'.size := by
    rw [hv, hs2, ← Nat.add_mul]
    exact Nat.mul_le_mul_right _ (by rw [hl'] at hc'; omega)
   obtain ⟨cur3, h3, h4, h5⟩ := setCells_row vs (i * d.sz) W cur' hg' hle
   rw [hrl] at hc2 ht2 ⊢
   refine ⟨by rw [← hrl]; exact h1, .inr ⟨g, cap, cur3, rfl, hb2, h3, hc2, hm2, by rw [hsz, h4]; exact hs2, ?_⟩⟩
   rw [hsz, h5, List.append_assoc, List.take_append_of_le_length (by rw [List.length_take, Array.length_toList]; omega), List.take_take, Nat.min_self]
   exact ht2
theorem run_clear_N {P : Program} {α : Type} {d : Kd α} {e base n cap g i c t : Nat} {W : World} {xs : List α} (h : Kd.N d e W base (fun _ => True) (.slice (some ⟨g, 0, none⟩) n cap) xs) (hi : i < n) (z : Value)
 (ht : P.underlying t = some (.slice e)) (hv : ∀ w, (zeroValue e).run P w = .ok z w) (hz : z.cells.size = d.sz) (h1 : ∀ u ∈ z.cells.toList, u.oneCell' = true) :
 ∃ vs : List Value, vs.length = (n - i) * d.sz ∧ ∀ ty, (Builtin.clear_ #[t] ty #[.slice (some ⟨g, i * d.sz, none⟩) (n - i) c]).run P W = .ok (.tuple #[]) (W.setCells g (i * d.sz) vs) := by
 have hn := (Kd.N_reads' h).1
 refine ⟨(Builtin.zeroCells z.cells (n - i)).toList, ?_, fun ty => ?_⟩
 ·
  rw [Array.length_toList]; unfold Builtin.zeroCells; simp [hz]
 ·
  obtain ⟨h0', rows', hl', ⟨hr0', inner', ho', hr'⟩, hf'⟩ := h
  obtain ⟨h1', h2'⟩ := ho'
  rcases h2' with ⟨hv', _⟩ | ⟨g', cap', cur', hv', hb', hg', hc', hm', hs', ht'⟩
  ·
   cases hv'
  ·
   injection hv' with ha _ hcap
   injection ha with ha
   injection ha with ha _ _
   subst ha
   subst hcap
   have hsz : (Kd.raw d.sz).sz = d.sz := rfl
   rw [hsz] at hs'
   have hlen : (Builtin.zeroCells z.cells (n - i)).toList.length = (n - i) * d.sz := by rw [Array.length_toList]; unfold Builtin.zeroCells; simp [hz]
   have hle : i * d.sz + (n - i) * d.sz ≤ cur'.size := by
    rw [hs', ← Nat.add_mul]
    exact Nat.mul_le_mul_right _ (by rw [hl'] at hc'; omega)
   have hst := run_storeCells_cells (P := P) g (i * d.sz) (Builtin.zeroCells z.cells (n - i)).toList 0 W
    (fun j hj => by rw [blk_cell hg', Array.getElem?_eq_getElem (by omega)]; rfl) (fun j hj => blk_frozen hg' _)
    (fun v hv => by
     rw [Array.mem_toList_iff] at hv
     unfold Builtin.zeroCells at hv
     obtain ⟨q, hq, rfl⟩ := Array.mem_map.1 hv
     have hq' : q % z.cells.size < z.cells.size := Nat.mod_lt _ (by
      rcases Nat.eq_zero_or_pos z.cells.size with h | h
      ·
       rw [h] at hq; simp at hq
      ·
       exact h)
     rw [getElem!_pos z.cells _ hq']
     exact h1 _ (by rw [Array.mem_toList_iff]; exact Array.getElem_mem hq'))
   rw [Nat.add_zero] at hst
   obtain ⟨m, hm⟩ : ∃ m, n - i = m + 1 := ⟨n - i - 1, by omega⟩
   have hvW := hv W
   rw [hm] at hst ⊢
   simp [Builtin.clear_, run_underlying ht, hvW, hst]
set_option maxHeartbeats 2000000 in
set_option maxRecDepth 100000 in
theorem Clone71_calls (A0 : Option Addr) (c0 : Nat) (l0 : List S61) (w : World) (hr0 : Kd.C k61 w A0 l0.length l0) (hb : l0.length * 56 ≤ 140737488355328) :
 Calls Try.prog 71 #[.slice A0 l0.length c0] w fun e w' => ∃ v, e = .returned v ∧ Kd.N k61 61 w' w.heap.size (fun _ => True) v l0 ∧ Below w.heap.size w w' := by
 have he := fun (a : Option Addr) (n c : Nat) => Lib.run_eql_slice_nil (P := Try.prog) w (t := 52) (e := 61) a n c 0 0 Try.underlying52
 have HR := Aside0.mk hr0
 cases A0 with
 | none =>
  have h0 : l0 = [] := C_none hr0
  subst h0
  clear hr0
  go_enter Try.func71, Try.ntmps71
  go_wp2
  go_ret
  exact ⟨_, rfl, Kd.N_nil _ _ _ _ _, Below.refl _ _⟩
 | some ad =>
  clear hr0
  go_enter Try.func71, Try.ntmps71
  go_wp2_with (at_builtin; refine Kd.N_append_rows k61 (w0 := w) w.heap.size rfl (.tmp 5) (.tmp 6) 52 61 _ 56 rfl Try.underlying52 info61 rfl (by decide) (by omega) (.slice (some ⟨w.heap.size, 0, none⟩) 0 0) [] l0 _ _ _ (fun _ => True) (fun k => k < w.heap.size) rfl rfl (N_empty k61 w _ _ (Nat.le_refl _) (by decide)) ?aR ?aN (fun _ _ => trivial) (below_1 w _) ?aS ?aL ?_)
  case aR => exact Kd.F_alloc (Kd.C_F k61_heap HR.out) _
  case aN => intro k hk; exact ⟨trivial, by simp [Value.ownBlock]; omega⟩
  case aS => simp
  case aL => simpa using hb
  intro v1 w1 hN hB hg hat
  go_wp2
  go_ret
  exact ⟨v1, rfl, by simpa using hN, hB⟩
set_option maxHeartbeats 2000000 in
set_option maxRecDepth 100000 in
theorem Clone45_calls (A0 : Option Addr) (c0 : Nat) (l0 : List S25) (w : World) (hr0 : Kd.C k25 w A0 l0.length l0) (hb : l0.length * 88 ≤ 140737488355328) :
 Calls Try.prog 45 #[.slice A0 l0.length c0] w fun e w' => ∃ v, e = .returned v ∧ Kd.N k25 25 w' w.heap.size (fun _ => True) v l0 ∧ Below w.heap.size w w' := by
 have he := fun (a : Option Addr) (n c : Nat) => Lib.run_eql_slice_nil (P := Try.prog) w (t := 22) (e := 25) a n c 0 0 Try.underlying22
 have HR := Aside0.mk hr0
 cases A0 with
 | none =>
  have h0 : l0 = [] := C_none hr0
  subst h0
  clear hr0
  go_enter Try.func45, Try.ntmps45
  go_wp2
  go_ret
  exact ⟨_, rfl, Kd.N_nil _ _ _ _ _, Below.refl _ _⟩
 | some ad =>
  clear hr0
  go_enter Try.func45, Try.ntmps45
  go_wp2_with (at_builtin; refine Kd.N_append_rows k25 (w0 := w) w.heap.size rfl (.tmp 5) (.tmp 6) 22 25 _ 88 rfl Try.underlying22 info25 rfl (by decide) (by omega) (.slice (some ⟨w.heap.size, 0, none⟩) 0 0) [] l0 _ _ _ (fun _ => True) (fun k => k < w.heap.size) rfl rfl (N_empty k25 w _ _ (Nat.le_refl _) (by decide)) ?aR ?aN (fun _ _ => trivial) (below_1 w _) ?aS ?aL ?_)
  case aR => exact Kd.F_alloc (Kd.C_F k25_heap HR.out) _
  case aN => intro k hk; exact ⟨trivial, by simp [Value.ownBlock]; omega⟩
  case aS => simp
  case aL => simpa using hb
  intro v1 w1 hN hB hg hat
  go_wp2
  go_ret
  exact ⟨v1, rfl, by simpa using hN, hB⟩
set_option maxHeartbeats 4000000 in
set_option maxRecDepth 100000 in
theorem DeleteFunc70_calls (g : Nat) (lb : Array Value) (p : S61 → Bool) (eg : ∀ args w, (callFunc g args).run Try.prog w = .ok (.enter g args) w)
 (v : Value) (l0 : List S61) (w0 w : World) (hN : Kd.N k61 61 w w0.heap.size (fun _ => True) v l0) (hB : Below w0.heap.size w0 w) (hp : PredOn k61 g lb p l0 w0) :
 Calls Try.prog 70 #[v, .func (.func g) #[] lb] w fun e w' => ∃ v', e = .returned v' ∧ Kd.N k61 61 w' w0.heap.size (fun _ => True) v' (l0.filter fun x => !p x) ∧ Below w0.heap.size w0 w' := by
 obtain ⟨A0, c0, rfl⟩ := Kd.N_slice hN
 have hC := (Kd.N_reads' hN).2.2
 have hcap := (Kd.N_reads' hN).2.1
 have hmax : l0.length ≤ 9223372036854775807 := hC.2.1
 have hcall := IndexFunc73_calls g lb p eg A0 c0 l0 w hC (fun W x cs hb hx hK => hp W x cs (hB.trans (hb.mono hB.size)) hx hK)
 have HN := Aside0.mk hN
 have HB := Aside0.mk hB
 have HP := Aside0.mk hp
 clear hN hB hp hC
 cases ha : l0.any p with
 | false =>
  obtain ⟨e1, e2⟩ := idx_no p l0 ha
  rw [e1] at hcall
  have hf : l0.filter (fun x => !p x) = l0 := by
   rw [List.filter_eq_self]
   intro x hx
   rw [List.any_eq_false] at ha
   simpa using ha x hx
  rw [hf]
  clear e1 e2 ha hf
  go_enter Try.func70, Try.ntmps70
  go_wp2_with fail
  refine hcall.mono ?_; rintro e w1 ⟨rfl, hb⟩
  clear hcall
  go_wp2
  go_ret
  exact ⟨_, rfl, Kd.N_below HN.out hb, HB.out.trans (hb.mono HB.out.size)⟩
 | true =>
  obtain ⟨k0, hk0, e1, e2, hpk, hlo⟩ := idx_yes p l0 ha
  rw [e1] at hcall
  have HK := Aside0.mk (Kept1.start p l0 k0 hk0 hpk hlo)
  obtain ⟨g0, cap, hv, hg1, hg2, _⟩ := Kd.N_form HN.out (by omega)
  injection hv with ha1 _ hc1
  subst ha1
  subst hc1
  clear e1 e2 ha hpk hlo
  have hne : ((k0 : Int) == -1) = false := beq_eq_false_iff_ne.2 (by omega)
  go_enter Try.func70, Try.ntmps70
  go_wp2_with fail
  refine hcall.mono ?_; rintro e w1 ⟨rfl, hb⟩
  clear hcall
  have HN1 := Aside0.mk (Kd.N_below HN.out hb)
  have HB1 := Aside0.mk (HB.out.trans (hb.mono HB.out.size))
  clear HN HB hb
  go_wp2
  go_loopg [5, 6, 7] l0.length (fun gg s5 s6 _ wr => ∃ (i j : Nat) (ys : List S61), s5 = .int .i64 i ∧ s6 = .int .i64 j ∧ j ≤ l0.length ∧ l0.length - j ≤ gg ∧ Aside0 (Kept1 p l0 ys i j) ∧ Aside0 (Kd.N k61 61 wr w0.heap.size (fun _ => True) (.slice (some ⟨g0, 0, none⟩) l0.length c0) ys) ∧ Aside0 (Below w0.heap.size w0 wr))
  case atStart => exact ⟨k0, k0 + 1, l0, rfl, by go_num, by omega, by omega, HK, HN1, HB1⟩
  case round =>
   clear HK HN1 HB1 hk0 hne
   obtain ⟨i, j, ys, rfl, rfl, hj, hgg, HK, HN, HB⟩ := hrel
   have hij := HK.out.le
   by_cases hlt : j < l0.length
   ·
    have hltz : (j : Int) < (l0.length : Int) := by omega
    have hjz : (0 : Int) ≤ (j : Int) := by omega
    have hyl := HK.out.len
    have hat := HK.out.at hlt
    obtain ⟨c, hcl, hF, hcc, hfr⟩ := elem_own HN.out j (by omega)
    obtain ⟨co, hcol, hFo, hcco, hfro⟩ := elem_own HN.out i (by omega)
    rw [hat] at hF
    have hK := Kd.FK_now hF
    have HF := Aside0.mk hF
    clear hF hFo hat hfr
    obtain rfl := k61_open hK
    have hw1 : Below wr.heap.size wr (wr.alloc (.cells [Value.string l0[j].f0, .string l0[j].f1, .int .i64 l0[j].f2, .int .i64 l0[j].f3, .int .i64 l0[j].f4].toArray 61)) := below_1 _ _
    have hcall := HP.out (wr.alloc (.cells [Value.string l0[j].f0, .string l0[j].f1, .int .i64 l0[j].f2, .int .i64 l0[j].f3, .int .i64 l0[j].f4].toArray 61)) l0[j] _ (HB.out.trans (hw1.mono HB.out.size)) (List.getElem_mem _) (k61.K_below hw1 hK)
    have hB2 := hw1
    clear hcl hw1
    simp only [show k61.sz = 5 from rfl] at hcc
    have h0 := hcc 0 _ rfl
    have h1 := hcc 1 _ rfl
    have h2 := hcc 2 _ rfl
    have h3 := hcc 3 _ rfl
    have h4 := hcc 4 _ rfl
    rw [Nat.add_zero] at h0
    have HCO := Aside0.mk hcco
    have HCL := Aside0.mk hcol
    clear hcc hK hcco hcol hfro
    generalize hq : p l0[j] = q at hcall
    have HQ := Aside0.mk hq
    clear hq
    have HY := Aside0.mk hyl
    clear hyl
    generalize hy : l0[j] = y at h0 h1 h2 h3 h4 hcall hB2 HF
    have HJ := Aside0.mk hy
    clear hy
    cases q with
    | true =>
     go_wp2_with fail
     refine hcall.mono ?_; rintro e w2 ⟨rfl, hb⟩
     clear hcall h0 h1 h2 h3 h4
     go_wp2
     go_roundg (l0.length - (j + 1))
     case measure => omega
     case rel => exact ⟨i, j + 1, ys, rfl, by go_num, by omega, by omega, ⟨HK.out.skip hlt HQ.out⟩, ⟨Kd.N_below (Kd.N_below HN.out hB2) hb⟩, ⟨(HB.out.trans (hB2.mono HB.out.size)).trans (hb.mono (Nat.le_trans HB.out.size hB2.size))⟩⟩
    | false =>
     go_wp2_with fail
     refine hcall.mono ?_; rintro e w2 ⟨rfl, hb⟩
     have hblk := blk_below (blk_new wr (.cells [Value.string y.f0, .string y.f1, .int .i64 y.f2, .int .i64 y.f3, .int .i64 y.f4].toArray 61)) hb
     clear hcall h0 h1 h2 h3 h4
     have b0 := blk_cell hblk 0
     have b1 := blk_cell hblk 1
     have b2 := blk_cell hblk 2
     have b3 := blk_cell hblk 3
     have b4 := blk_cell hblk 4
     have hsz := hb.size
     rw [World.size_alloc] at hsz
     have hiz : (i : Int) < (l0.length : Int) := by omega
     have hiz0 : (0 : Int) ≤ (i : Int) := by omega
     clear hblk
     have HB2 := Aside0.mk (hB2.trans (hb.mono hB2.size))
     clear hb hB2
     go_wp2_with ((with_reducible refine gate_store (t := 61) (p := 33) (v := .tmp 32) rfl ?_); refine Kd.N_store k61 (w0 := w0) (g := g0) (n := l0.length) (cap := c0) (o' := i * 5) w0.heap.size rfl rfl 61 (.tmp 33) (.tmp 32) rfl 61 (i : Int) 0 ys y (.agg [Value.string y.f0, .string y.f1, .int .i64 y.f2, .int .i64 y.f3, .int .i64 y.f4].toArray) [Value.string y.f0, .string y.f1, .int .i64 y.f2, .int .i64 y.f3, .int .i64 y.f4] co (fun _ => True) (fun k => True ∧ k ≠ g0) ?aA ?aO ?aX ?aU ?aT ?a1 ?aN ?a0 ?aI ?aC ?aD ?aJ ?aM ?aK ?aB ?_)
     case aA => rfl
     case aO => simp [show k61.sz = 5 from rfl]
     case aX => rfl
     case aU => rfl
     case aT => exact info_size info61
     case a1 => intro q hq; simp only [List.mem_cons, List.not_mem_nil, or_false] at hq; rcases hq with rfl | rfl | rfl | rfl | rfl <;> rfl
     case aN => exact Kd.N_below HN.out HB2.out
     case a0 => exact hiz0
     case aI => omega
     case aC => exact HCL.out
     case aD => intro j' u hu; rw [Int.toNat_natCast]; exact cell_below HB2.out (HCO.out j' u hu)
     case aJ => show 0 + 5 ≤ 5; omega
     case aM => rw [show co.drop (0 + [Value.string y.f0, .string y.f1, .int .i64 y.f2, .int .i64 y.f3, .int .i64 y.f4].length) = [] from List.drop_of_length_le (by rw [HCL.out]; exact Nat.le_refl _), List.append_nil]; exact Kd.FK_below HF.out HB2.out
     case aK => exact fun _ h => h
     case aB => exact HB.out.trans (HB2.out.mono HB.out.size)
     intro w3 hN3 hB3 hg3
     rw [Int.toNat_natCast] at hN3
     have HN3 := Aside0.mk hN3
     have HB3 := Aside0.mk hB3
     clear hN3 hB3 hg3 b0 b1 b2 b3 b4
     go_wp2
     go_roundg (l0.length - (j + 1))
     case measure => omega
     case rel =>
      have hk := HK.out.keep hlt HQ.out
      rw [HJ.out] at hk
      exact ⟨i + 1, j + 1, ys.set i y, by go_num, by go_num, by omega, by omega, ⟨hk⟩, HN3, HB3⟩
   ·
    have hltz : ¬ (j : Int) < (l0.length : Int) := by omega
    obtain rfl : j = l0.length := by omega
    have hiz : (i : Int) ≤ (l0.length : Int) := by omega
    have hiz0 : (0 : Int) ≤ (i : Int) := by omega
    have hic : i < c0 := by omega
    obtain ⟨vs, hvl, hcl⟩ := run_clear_N (P := Try.prog) (d := k61) (c := c0 - i) (t := 52) HN.out hij (.agg #[.string ⟨#[]⟩, .string ⟨#[]⟩, .int .i64 0, .int .i64 0, .int .i64 0]) Try.underlying52 (fun w => by rfl) (by rfl) (by intro q hq; replace hq : q ∈ ([.string ⟨#[]⟩, .string ⟨#[]⟩, .int .i64 0, .int .i64 0, .int .i64 0] : List Value) := hq; simp only [List.mem_cons, List.not_mem_nil, or_false] at hq; rcases hq with rfl | rfl | rfl | rfl | rfl <;> rfl)
    simp only [show k61.sz = 5 from rfl] at hcl
    have HV := Aside0.mk hvl
    clear hvl
    go_wp2
    go_ret
    exact ⟨_, rfl, (by rw [← HK.out.done]; exact N_cleared HN.out (by omega) vs HV.out), below_setCells HB.out hg1 vs _⟩
set_option maxHeartbeats 4000000 in
set_option maxRecDepth 100000 in
theorem DeleteFunc44_calls (g : Nat) (lb : Array Value) (p : S25 → Bool) (eg : ∀ args w, (callFunc g args).run Try.prog w = .ok (.enter g args) w)
 (v : Value) (l0 : List S25) (w0 w : World) (hN : Kd.N k25 25 w w0.heap.size (fun _ => True) v l0) (hB : Below w0.heap.size w0 w) (hp : PredOn k25 g lb p l0 w0) :
 Calls Try.prog 44 #[v, .func (.func g) #[] lb] w fun e w' => ∃ v', e = .returned v' ∧ Kd.N k25 25 w' w0.heap.size (fun _ => True) v' (l0.filter fun x => !p x) ∧ Below w0.heap.size w0 w' := by
 obtain ⟨A0, c0, rfl⟩ := Kd.N_slice hN
 have hC := (Kd.N_reads' hN).2.2
 have hcap := (Kd.N_reads' hN).2.1
 have hmax : l0.length ≤ 9223372036854775807 := hC.2.1
 have hcall := IndexFunc75_calls g lb p eg A0 c0 l0 w hC (fun W x cs hb hx hK => hp W x cs (hB.trans (hb.mono hB.size)) hx hK)
 have HN := Aside0.mk hN
 have HB := Aside0.mk hB
 have HP := Aside0.mk hp
 clear hN hB hp hC
 cases ha : l0.any p with
 | false =>
  obtain ⟨e1, e2⟩ := idx_no p l0 ha
  rw [e1] at hcall
  have hf : l0.filter (fun x => !p x) = l0 := by
   rw [List.filter_eq_self]
   intro x hx
   rw [List.any_eq_false] at ha
   simpa using ha x hx
  rw [hf]
  clear e1 e2 ha hf
  go_enter Try.func44, Try.ntmps44
  go_wp2_with fail
  refine hcall.mono ?_; rintro e w1 ⟨rfl, hb⟩
  clear hcall
  go_wp2
  go_ret
  exact ⟨_, rfl, Kd.N_below HN.out hb, HB.out.trans (hb.mono HB.out.size)⟩
 | true =>
  obtain ⟨k0, hk0, e1, e2, hpk, hlo⟩ := idx_yes p l0 ha
  rw [e1] at hcall
  have HK := Aside0.mk (Kept1.start p l0 k0 hk0 hpk hlo)
  obtain ⟨g0, cap, hv, hg1, hg2, _⟩ := Kd.N_form HN.out (by omega)
  injection hv with ha1 _ hc1
  subst ha1
  subst hc1
  clear e1 e2 ha hpk hlo
  have hne : ((k0 : Int) == -1) = false := beq_eq_false_iff_ne.2 (by omega)
  go_enter Try.func44, Try.ntmps44
  go_wp2_with fail
  refine hcall.mono ?_; rintro e w1 ⟨rfl, hb⟩
  clear hcall
  have HN1 := Aside0.mk (Kd.N_below HN.out hb)
  have HB1 := Aside0.mk (HB.out.trans (hb.mono HB.out.size))
  clear HN HB hb
  go_wp2
  go_loopg [5, 6, 7] l0.length (fun gg s5 s6 _ wr => ∃ (i j : Nat) (ys : List S25), s5 = .int .i64 i ∧ s6 = .int .i64 j ∧ j ≤ l0.length ∧ l0.length - j ≤ gg ∧ Aside0 (Kept1 p l0 ys i j) ∧ Aside0 (Kd.N k25 25 wr w0.heap.size (fun _ => True) (.slice (some ⟨g0, 0, none⟩) l0.length c0) ys) ∧ Aside0 (Below w0.heap.size w0 wr))
  case atStart => exact ⟨k0, k0 + 1, l0, rfl, by go_num, by omega, by omega, HK, HN1, HB1⟩
  case round =>
   clear HK HN1 HB1 hk0 hne
   obtain ⟨i, j, ys, rfl, rfl, hj, hgg, HK, HN, HB⟩ := hrel
   have hij := HK.out.le
   by_cases hlt : j < l0.length
   ·
    have hltz : (j : Int) < (l0.length : Int) := by omega
    have hjz : (0 : Int) ≤ (j : Int) := by omega
    have hyl := HK.out.len
    have hat := HK.out.at hlt
    obtain ⟨c, hcl, hF, hcc, hfr⟩ := elem_own HN.out j (by omega)
    obtain ⟨co, hcol, hFo, hcco, hfro⟩ := elem_own HN.out i (by omega)
    rw [hat] at hF
    have hK := Kd.FK_now hF
    have HF := Aside0.mk hF
    clear hF hFo hat hfr
    obtain ⟨A4, c4, A5, c5, rfl, l4, g4, l5, g5⟩ := k25_open hK
    have hw1 : Below wr.heap.size wr (wr.alloc (.cells [Value.int .i64 l0[j].f0, .string l0[j].f1, .int .i64 l0[j].f2, .int .i64 l0[j].f3, .slice A4 l0[j].f4.length c4, .slice A5 l0[j].f5.length c5].toArray 25)) := below_1 _ _
    have hcall := HP.out (wr.alloc (.cells [Value.int .i64 l0[j].f0, .string l0[j].f1, .int .i64 l0[j].f2, .int .i64 l0[j].f3, .slice A4 l0[j].f4.length c4, .slice A5 l0[j].f5.length c5].toArray 25)) l0[j] _ (HB.out.trans (hw1.mono HB.out.size)) (List.getElem_mem _) (k25.K_below hw1 hK)
    have hB2 := hw1
    clear hcl hw1
    simp only [show k25.sz = 6 from rfl] at hcc
    have h0 := hcc 0 _ rfl
    have h1 := hcc 1 _ rfl
    have h2 := hcc 2 _ rfl
    have h3 := hcc 3 _ rfl
    have h4 := hcc 4 _ rfl
    have h5 := hcc 5 _ rfl
    rw [Nat.add_zero] at h0
    have HCO := Aside0.mk hcco
    have HCL := Aside0.mk hcol
    clear hcc hK hcco hcol hfro
    generalize hq : p l0[j] = q at hcall
    have HQ := Aside0.mk hq
    clear hq
    have HY := Aside0.mk hyl
    clear hyl
    generalize l0[j].f4.length = n4 at h0 h1 h2 h3 h4 h5 hcall hB2 HF
    generalize l0[j].f5.length = n5 at h0 h1 h2 h3 h4 h5 hcall hB2 HF
    generalize hy : l0[j] = y at h0 h1 h2 h3 h4 h5 hcall hB2 HF
    have HJ := Aside0.mk hy
    clear hy
    cases q with
    | true =>
     go_wp2_with fail
     refine hcall.mono ?_; rintro e w2 ⟨rfl, hb⟩
     clear hcall h0 h1 h2 h3 h4 h5
     go_wp2
     go_roundg (l0.length - (j + 1))
     case measure => omega
     case rel => exact ⟨i, j + 1, ys, rfl, by go_num, by omega, by omega, ⟨HK.out.skip hlt HQ.out⟩, ⟨Kd.N_below (Kd.N_below HN.out hB2) hb⟩, ⟨(HB.out.trans (hB2.mono HB.out.size)).trans (hb.mono (Nat.le_trans HB.out.size hB2.size))⟩⟩
    | false =>
     go_wp2_with fail
     refine hcall.mono ?_; rintro e w2 ⟨rfl, hb⟩
     have hblk := blk_below (blk_new wr (.cells [Value.int .i64 y.f0, .string y.f1, .int .i64 y.f2, .int .i64 y.f3, .slice A4 n4 c4, .slice A5 n5 c5].toArray 25)) hb
     clear hcall h0 h1 h2 h3 h4 h5
     have b0 := blk_cell hblk 0
     have b1 := blk_cell hblk 1
     have b2 := blk_cell hblk 2
     have b3 := blk_cell hblk 3
     have b4 := blk_cell hblk 4
     have b5 := blk_cell hblk 5
     have hsz := hb.size
     rw [World.size_alloc] at hsz
     have hiz : (i : Int) < (l0.length : Int) := by omega
     have hiz0 : (0 : Int) ≤ (i : Int) := by omega
     clear hblk
     have HB2 := Aside0.mk (hB2.trans (hb.mono hB2.size))
     clear hb hB2
     go_wp2_with ((with_reducible refine gate_store (t := 25) (p := 33) (v := .tmp 32) rfl ?_); refine Kd.N_store k25 (w0 := w0) (g := g0) (n := l0.length) (cap := c0) (o' := i * 6) w0.heap.size rfl rfl 25 (.tmp 33) (.tmp 32) rfl 25 (i : Int) 0 ys y (.agg [Value.int .i64 y.f0, .string y.f1, .int .i64 y.f2, .int .i64 y.f3, .slice A4 n4 c4, .slice A5 n5 c5].toArray) [Value.int .i64 y.f0, .string y.f1, .int .i64 y.f2, .int .i64 y.f3, .slice A4 n4 c4, .slice A5 n5 c5] co (fun _ => True) (fun k => True ∧ k ≠ g0) ?aA ?aO ?aX ?aU ?aT ?a1 ?aN ?a0 ?aI ?aC ?aD ?aJ ?aM ?aK ?aB ?_)
     case aA => rfl
     case aO => simp [show k25.sz = 6 from rfl]
     case aX => rfl
     case aU => rfl
     case aT => exact info_size info25
     case a1 => intro q hq; simp only [List.mem_cons, List.not_mem_nil, or_false] at hq; rcases hq with rfl | rfl | rfl | rfl | rfl | rfl <;> rfl
     case aN => exact Kd.N_below HN.out HB2.out
     case a0 => exact hiz0
     case aI => omega
     case aC => exact HCL.out
     case aD => intro j' u hu; rw [Int.toNat_natCast]; exact cell_below HB2.out (HCO.out j' u hu)
     case aJ => show 0 + 6 ≤ 6; omega
     case aM => rw [show co.drop (0 + [Value.int .i64 y.f0, .string y.f1, .int .i64 y.f2, .int .i64 y.f3, .slice A4 n4 c4, .slice A5 n5 c5].length) = [] from List.drop_of_length_le (by rw [HCL.out]; exact Nat.le_refl _), List.append_nil]; exact Kd.FK_below HF.out HB2.out
     case aK => exact fun _ h => h
     case aB => exact HB.out.trans (HB2.out.mono HB.out.size)
     intro w3 hN3 hB3 hg3
     rw [Int.toNat_natCast] at hN3
     have HN3 := Aside0.mk hN3
     have HB3 := Aside0.mk hB3
     clear hN3 hB3 hg3 b0 b1 b2 b3 b4 b5
     go_wp2
     go_roundg (l0.length - (j + 1))
     case measure => omega
     case rel =>
      have hk := HK.out.keep hlt HQ.out
      rw [HJ.out] at hk
      exact ⟨i + 1, j + 1, ys.set i y, by go_num, by go_num, by omega, by omega, ⟨hk⟩, HN3, HB3⟩
   ·
    have hltz : ¬ (j : Int) < (l0.length : Int) := by omega
    obtain rfl : j = l0.length := by omega
    have hiz : (i : Int) ≤ (l0.length : Int) := by omega
    have hiz0 : (0 : Int) ≤ (i : Int) := by omega
    have hic : i < c0 := by omega
    obtain ⟨vs, hvl, hcl⟩ := run_clear_N (P := Try.prog) (d := k25) (c := c0 - i) (t := 22) HN.out hij (.agg #[.int .i64 0, .string ⟨#[]⟩, .int .i64 0, .int .i64 0, .slice none 0 0, .slice none 0 0]) Try.underlying22 (fun w => by rfl) (by rfl) (by intro q hq; replace hq : q ∈ ([.int .i64 0, .string ⟨#[]⟩, .int .i64 0, .int .i64 0, .slice none 0 0, .slice none 0 0] : List Value) := hq; simp only [List.mem_cons, List.not_mem_nil, or_false] at hq; rcases hq with rfl | rfl | rfl | rfl | rfl | rfl <;> rfl)
    simp only [show k25.sz = 6 from rfl] at hcl
    have HV := Aside0.mk hvl
    clear hvl
    go_wp2
    go_ret
    exact ⟨_, rfl, (by rw [← HK.out.done]; exact N_cleared HN.out (by omega) vs HV.out), below_setCells HB.out hg1 vs _⟩
def isName (a : ByteArray) (c : S61) : Bool := c.f0.toList == a.toList
def cover_book_find.f (l0 : List S61) (a1 : ByteArray) : Option (ByteArray × ByteArray × Int × Int × Int × Bool) :=
 some (let c := (l0.find? (isName a1)).getD z61; (c.f0, c.f1, c.f2, c.f3, c.f4, l0.any (isName a1)))
theorem find1_calls (name : ByteArray) (B : Nat) (W : World) (x : S61) (cs : List Value) (hK : k61.K W x cs) (hc : W.cell? ⟨B, 0, none⟩ = some (.string name)) :
 Calls Try.prog 74 (#[.agg cs.toArray] ++ #[.pointer (some ⟨B, 0, none⟩)]) W fun e w' => e = .returned (.bool (isName name x)) ∧ Below W.heap.size W w' := by
 obtain rfl := k61_open hK
 show Calls Try.prog 74 #[.agg #[.string x.f0, .string x.f1, .int .i64 x.f2, .int .i64 x.f3, .int .i64 x.f4], .pointer (some ⟨B, 0, none⟩)] W _
 have hB := cell_lt hc
 have hne : B ≠ W.heap.size := by omega
 go_enter Try.func74, Try.ntmps74
 go_wp2
 go_ret
 exact ⟨rfl, (Below.refl _ _).alloc (Nat.le_refl _) _⟩
theorem new_cell0 (w : World) (v : Value) (t : Nat) (o : Obj) : ((w.alloc (.cells #[v] t)).alloc o).cell? ⟨w.heap.size, 0, none⟩ = some v := by
 rw [World.cell?_alloc_past _ _ _ (by rw [World.size_alloc]; omega), World.cell?_alloc_at _ _ _ _ rfl]; rfl
theorem new_cell (w : World) (v : Value) (t : Nat) : (w.alloc (.cells #[v] t)).cell? ⟨w.heap.size, 0, none⟩ = some v := by
 rw [World.cell?_alloc_at _ _ _ _ rfl]; rfl
set_option maxHeartbeats 2000000 in
set_option maxRecDepth 100000 in
theorem cover_book_find.calls (A0 : Option Addr) (c0 : Nat) (l0 : List S61) (a1 : ByteArray) (r1 r2 : ByteArray) (r3 r4 r5 : Int) (r6 : Bool) (w : World) (hr0 : Kd.C k61 w A0 l0.length l0) (hc0 : l0.length ≤ c0) (h : cover_book_find.f l0 a1 = some (r1, r2, r3, r4, r5, r6)) :
 Calls Try.prog 43 #[.slice A0 l0.length c0, .string a1] w fun e w' => e = .returned (.tuple #[.agg #[.string r1, .string r2, .int .i64 r3, .int .i64 r4, .int .i64 r5], .bool r6]) ∧ Below w.heap.size w w' := by
 have hmax : l0.length ≤ 9223372036854775807 := hr0.2.1
 have hcall := IndexFunc73_calls 74 #[.pointer (some ⟨w.heap.size, 0, none⟩)] (isName a1) (enters_of Try.func74 (by kernel_rfl) rfl) A0 c0 l0 ((w.alloc (.cells #[.string a1] 9)).alloc (.cells #[.string ⟨#[]⟩, .string ⟨#[]⟩, .int .i64 0, .int .i64 0, .int .i64 0] 61))
  (Kd.C_below hr0 (below_2 w _ _))
  (fun W x cs hb hx hK => find1_calls a1 w.heap.size W x cs hK (cell_below hb (new_cell0 w _ _ _)))
 have HR := Aside0.mk hr0
 have H := Aside0.mk h
 clear hr0 h
 go_enter Try.func43, Try.ntmps43
 go_wp2_with fail
 refine hcall.mono ?_; rintro e w1 ⟨rfl, hb⟩
 have hsz := hb.size
 simp only [World.size_alloc] at hsz
 have HB1 := blk_below (blk_new (w.alloc (.cells #[.string a1] 9)) (.cells #[.string ⟨#[]⟩, .string ⟨#[]⟩, .int .i64 0, .int .i64 0, .int .i64 0] 61)) hb
 simp only [World.size_alloc] at HB1
 have k0 := blk_cell HB1 0
 have k1 := blk_cell HB1 1
 have k2 := blk_cell HB1 2
 have k3 := blk_cell HB1 3
 have k4 := blk_cell HB1 4
 have kf := blk_frozen HB1
 clear HB1
 have HH := Aside0.mk ((below_2 w _ _).trans (hb.mono (by rw [World.size_alloc, World.size_alloc]; omega)))
 clear hb hcall
 cases ha : l0.any (isName a1) with
 | true =>
  obtain ⟨k, hk, e1, e2, _, _⟩ := idx_yes _ _ ha
  rw [e1]
  obtain ⟨ad, c, e', hcl, hK, hc0, hcj⟩ := elem_at (Kd.C_below HR.out HH.out) k hk
  obtain rfl := k61_open hK
  subst e'
  simp only [show k61.sz = 5 from rfl] at hc0 hcj
  have h0 := hc0 _ rfl
  have h1 := hcj 1 _ (by decide) rfl
  have h2 := hcj 2 _ (by decide) rfl
  have h3 := hcj 3 _ (by decide) rfl
  have h4 := hcj 4 _ (by decide) rfl
  clear hc0 hcj hK hcl e1
  have hkl : (k : Int) < (l0.length : Int) := by omega
  have hkz : (0 : Int) ≤ (k : Int) := by omega
  have E2 := Aside0.mk e2
  clear e2
  go_wp2
  have hfin := H.out
  unfold cover_book_find.f at hfin
  rw [E2.out] at hfin
  simp only [Option.some.injEq, Option.getD_some, Prod.mk.injEq] at hfin
  obtain ⟨rfl, rfl, rfl, rfl, rfl, rfl⟩ := hfin
  refine bodyPost_ret (v := .tuple #[.agg #[.string l0[k].f0, .string l0[k].f1, .int .i64 l0[k].f2, .int .i64 l0[k].f3, .int .i64 l0[k].f4], .bool (l0.any (isName a1))]) (by simp [results, Try.results43, go_sem, k0, k1, k2, k3, k4, ha]) rfl ⟨rfl, ?_⟩
  exact ((((HH.out.setCell (Nat.le_succ _) _).setCell (Nat.le_succ _) _).setCell (Nat.le_succ _) _).setCell (Nat.le_succ _) _).setCell (Nat.le_succ _) _
 | false =>
  obtain ⟨e1, e2⟩ := idx_no _ _ ha
  rw [e1]
  clear e1
  have E2 := Aside0.mk e2
  clear e2
  go_wp2
  have hfin := H.out
  unfold cover_book_find.f at hfin
  rw [E2.out, ha] at hfin
  simp only [Option.some.injEq, Option.getD_none, Prod.mk.injEq] at hfin
  obtain ⟨rfl, rfl, rfl, rfl, rfl, rfl⟩ := hfin
  refine bodyPost_ret (v := .tuple #[.agg #[.string z61.f0, .string z61.f1, .int .i64 z61.f2, .int .i64 z61.f3, .int .i64 z61.f4], .bool false]) (by simp [results, Try.results43, go_sem, k0, k1, k2, k3, k4, z61]) rfl ⟨rfl, ?_⟩
  exact ((((HH.out.setCell (Nat.le_succ _) _).setCell (Nat.le_succ _) _).setCell (Nat.le_succ _) _).setCell (Nat.le_succ _) _).setCell (Nat.le_succ _) _
def ofType (a : ByteArray) (c : S61) : Bool := c.f1.toList == a.toList
theorem of1_calls (name : ByteArray) (B : Nat) (W : World) (x : S61) (cs : List Value) (hK : k61.K W x cs) (hc : W.cell? ⟨B, 0, none⟩ = some (.string name)) :
 Calls Try.prog 72 (#[.agg cs.toArray] ++ #[.pointer (some ⟨B, 0, none⟩)]) W fun e w' => e = .returned (.bool (!ofType name x)) ∧ Below W.heap.size W w' := by
 obtain rfl := k61_open hK
 show Calls Try.prog 72 #[.agg #[.string x.f0, .string x.f1, .int .i64 x.f2, .int .i64 x.f3, .int .i64 x.f4], .pointer (some ⟨B, 0, none⟩)] W _
 have hB := cell_lt hc
 have hne : B ≠ W.heap.size := by omega
 go_enter Try.func72, Try.ntmps72
 go_wp2
 go_ret
 exact ⟨by unfold ofType; rfl, (Below.refl _ _).alloc (Nat.le_refl _) _⟩
set_option maxHeartbeats 2000000 in
set_option maxRecDepth 100000 in
theorem cover_book_of_calls (A0 : Option Addr) (c0 : Nat) (l0 : List S61) (a1 : ByteArray) (w : World) (hr0 : Kd.C k61 w A0 l0.length l0) (hb : l0.length * 56 ≤ 140737488355328) :
 Calls Try.prog 39 #[.slice A0 l0.length c0, .string a1] w fun e w' => ∃ v, e = .returned v ∧ Kd.N k61 61 w' w.heap.size (fun _ => True) v (l0.filter (ofType a1)) ∧ Below w.heap.size w w' := by
 have hcl := Clone71_calls A0 c0 l0 (w.alloc (.cells #[.string a1] 9)) (Kd.C_alloc hr0 _) hb
 have HB0 := Aside0.mk (below_1 w (.cells #[.string a1] 9))
 have HC := Aside0.mk (new_cell w (.string a1) 9)
 clear hr0
 go_enter Try.func39, Try.ntmps39
 go_wp2_with fail
 refine hcl.mono ?_; rintro e w1 ⟨v, rfl, hN, hB⟩
 clear hcl
 have hd := DeleteFunc70_calls 72 #[.pointer (some ⟨w.heap.size, 0, none⟩)] (fun c => !ofType a1 c) (enters_of Try.func72 (by kernel_rfl) rfl) v l0 (w.alloc (.cells #[.string a1] 9)) w1 hN hB
  (fun W x cs hb hx hK => of1_calls a1 w.heap.size W x cs hK (cell_below hb HC.out))
 simp only [Bool.not_not] at hd
 clear hN hB
 have hmf : ∀ (fn : Fn) (first cap : Array Value) (w : World), (Instr.makeFunc fn first cap).run Try.prog w = .ok (.func fn first cap) w := fun _ _ _ _ => rfl
 go_wp2_with fail
 refine hd.mono ?_; rintro e w2 ⟨v2, rfl, hN2, hB2⟩
 clear hd
 have HN2 := Aside0.mk hN2
 have HB2 := Aside0.mk hB2
 clear hN2 hB2
 go_wp2
 go_ret
 exact ⟨v2, rfl, Kd.N_lower HN2.out (by rw [World.size_alloc]; omega), HB0.out.trans (HB2.out.mono (by rw [World.size_alloc]; omega))⟩
def clash (c o : S61) : Bool := o.f0.toList == c.f0.toList || (o.f1.toList == c.f1.toList && o.f2 == c.f2)
def badCon (l : List S61) (i : Nat) (c : S61) : Bool := (l.take i).any (clash c) || c.f4 != ((l.filter (ofType c.f1)).length : Int) || decide (c.f2 < 0) || decide (c.f4 ≤ c.f2) || decide (c.f3 < 0) || decide (4 < c.f3)
def soundB (l : List S61) : Bool := l.zipIdx.all fun x => !badCon l x.2 x.1
def cover_book_sound.f (l0 : List S61) : Option Bool := if l0.length ≤ 100000 then some (soundB l0) else none
theorem sound1_calls (c : S61) (B : Nat) (W : World) (x : S61) (cs : List Value) (hK : k61.K W x cs) (hb : W.heap[B]? = some (.cells #[.string c.f0, .string c.f1, .int .i64 c.f2, .int .i64 c.f3, .int .i64 c.f4] 61)) :
 Calls Try.prog 41 (#[.agg cs.toArray] ++ #[.pointer (some ⟨B, 0, none⟩)]) W fun e w' => e = .returned (.bool (clash c x)) ∧ Below W.heap.size W w' := by
 obtain rfl := k61_open hK
 show Calls Try.prog 41 #[.agg #[.string x.f0, .string x.f1, .int .i64 x.f2, .int .i64 x.f3, .int .i64 x.f4], .pointer (some ⟨B, 0, none⟩)] W _
 have hB := blk_lt hb
 have hne : B ≠ W.heap.size := by omega
 have c0 := blk_cell hb 0
 have c1 := blk_cell hb 1
 have c2 := blk_cell hb 2
 clear hb
 unfold clash
 cases h0 : (x.f0.toList == c.f0.toList) with
 | true =>
  go_enter Try.func41, Try.ntmps41
  go_wp2
  go_ret
  exact ⟨rfl, (Below.refl _ _).alloc (Nat.le_refl _) _⟩
 | false =>
  cases h1 : (x.f1.toList == c.f1.toList) with
  | false =>
   go_enter Try.func41, Try.ntmps41
   go_wp2
   go_ret
   exact ⟨rfl, (Below.refl _ _).alloc (Nat.le_refl _) _⟩
  | true =>
   go_enter Try.func41, Try.ntmps41
   go_wp2
   go_ret
   exact ⟨rfl, (Below.refl _ _).alloc (Nat.le_refl _) _⟩
theorem soundB_false (l : List S61) (k : Nat) (hk : k < l.length) (h : badCon l k l[k] = true) : soundB l = false := by
 unfold soundB
 rw [List.all_eq_false]
 refine ⟨(l[k], k), ?_, by simp [h]⟩
 rw [List.mem_zipIdx_iff_getElem?]
 simp [hk]
theorem soundB_true (l : List S61) (h : ∀ k (hk : k < l.length), badCon l k l[k] = false) : soundB l = true := by
 unfold soundB
 rw [List.all_eq_true]
 rintro ⟨x, i⟩ hx
 rw [List.mem_zipIdx_iff_getElem?] at hx
 obtain ⟨hi, he⟩ := List.getElem?_eq_some_iff.1 hx
 simp only at hi he
 rw [← he, h i hi]
 rfl
set_option maxHeartbeats 8000000 in
set_option maxRecDepth 100000 in
theorem cover_book_sound.calls (A0 : Option Addr) (c0 : Nat) (l0 : List S61) (r : Bool) (w : World) (hr0 : Kd.C k61 w A0 l0.length l0) (hc0 : l0.length ≤ c0) (h : cover_book_sound.f l0 = some r) :
 Calls Try.prog 21 #[.slice A0 l0.length c0] w fun e w' => e = .returned (.bool r) ∧ Below w.heap.size w w' := by
 have hlen : l0.length ≤ 100000 := by
  unfold cover_book_sound.f at h
  split at h
  ·
   assumption
  ·
   cases h
 have hr : soundB l0 = r := by
  unfold cover_book_sound.f at h
  rw [if_pos hlen] at h
  exact Option.some.inj h
 have HR := Aside0.mk hr0
 have HE := Aside0.mk hr
 clear hr0 h hr
 go_enter Try.func21, Try.ntmps21
 go_wp2
 go_loopg [9] l0.length (fun gg s9 wr => ∃ kk : Nat, kk ≤ l0.length ∧ l0.length - kk ≤ gg ∧ s9 = .int .i64 kk ∧ Aside0 (Below w.heap.size w wr) ∧ Aside0 (∀ j (hj : j < kk) (hl : j < l0.length), badCon l0 j l0[j] = false))
 case atStart => exact ⟨0, Nat.zero_le _, by omega, rfl, ⟨Below.refl _ w⟩, ⟨fun j hj => absurd hj (Nat.not_lt_zero _)⟩⟩
 case round =>
  obtain ⟨kk, hkk, hg, rfl, BW, AA⟩ := hrel
  by_cases hlt : kk < l0.length
  ·
   have hltz : (kk : Int) < (l0.length : Int) := by omega
   have hkz : (0 : Int) ≤ (kk : Int) := by omega
   have hkc : (kk : Int) ≤ (l0.length : Int) := by omega
   have HRw := Aside0.mk (Kd.C_below HR.out BW.out)
   obtain ⟨ad, c, e, hcl, hK, hc0', hcj⟩ := elem_at HRw.out kk hlt
   obtain rfl := k61_open hK
   clear hcl hK
   subst e
   simp only [show k61.sz = 5 from rfl] at hc0' hcj
   have h0 := hc0' _ rfl
   have h1 := hcj 1 _ (by decide) rfl
   have h2 := hcj 2 _ (by decide) rfl
   have h3 := hcj 3 _ (by decide) rfl
   have h4 := hcj 4 _ (by decide) rfl
   clear hc0' hcj
   have HX := Aside0.mk (Eq.refl (badCon l0 kk l0[kk]))
   have hbad : ∀ b, badCon l0 kk l0[kk] = b → Aside0 (badCon l0 kk l0[kk] = b) := fun _ h => ⟨h⟩
   generalize hy : l0[kk] = y at h0 h1 h2 h3 h4 hbad
   have HY := Aside0.mk hy
   clear hy HX hbad
   have hw1 := Aside0.mk (below_1 wr (.cells #[.string y.f0, .string y.f1, .int .i64 y.f2, .int .i64 y.f3, .int .i64 y.f4] 61))
   have hof := cover_book_of_calls (some ad) c0 l0 y.f1 (wr.alloc (.cells #[.string y.f0, .string y.f1, .int .i64 y.f2, .int .i64 y.f3, .int .i64 y.f4] 61)) (Kd.C_below HRw.out hw1.out) (by omega)
   go_wp2_with fail
   refine hof.mono ?_; rintro e w2 ⟨v, rfl, hN, hb⟩
   clear hof h0 h1 h2 h3 h4
   obtain ⟨A1, c1, rfl⟩ := Kd.N_slice hN
   clear hN
   have hblk := blk_below (blk_new wr (.cells #[.string y.f0, .string y.f1, .int .i64 y.f2, .int .i64 y.f3, .int .i64 y.f4] 61)) hb
   have HB2 := Aside0.mk (hw1.out.trans (hb.mono hw1.out.size))
   have hct := ContainsFunc40_calls 41 #[.pointer (some ⟨wr.heap.size, 0, none⟩)] (clash y) (enters_of Try.func41 (by kernel_rfl) rfl) (some ad) c0 (l0.take kk) w2
    (Kd.C_take (Kd.C_below HRw.out HB2.out) (by omega)) (fun W x cs hbW hx hK => sound1_calls y wr.heap.size W x cs hK (blk_below hblk hbW))
   rw [List.length_take, Nat.min_eq_left (Nat.le_of_lt hlt)] at hct
   have HBK := Aside0.mk hblk
   clear hb hblk
   have hmf : ∀ (fn : Fn) (first cap : Array Value) (w : World), (Instr.makeFunc fn first cap).run Try.prog w = .ok (.func fn first cap) w := fun _ _ _ _ => rfl
   go_wp2_with fail
   refine hct.mono ?_; rintro e w3 ⟨rfl, hb3⟩
   clear hct
   have hblk3 := blk_below HBK.out hb3
   have k2 := blk_cell hblk3 2
   have k3 := blk_cell hblk3 3
   have k4 := blk_cell hblk3 4
   have HB3 := Aside0.mk (BW.out.trans ((HB2.out.trans (hb3.mono HB2.out.size)).mono BW.out.size))
   clear hb3 hblk3 HBK
   have HG := Aside0.mk (show badCon l0 kk l0[kk] = ((l0.take kk).any (clash y) || y.f4 != ((l0.filter (ofType y.f1)).length : Int) || decide (y.f2 < 0) || decide (y.f4 ≤ y.f2) || decide (y.f3 < 0) || decide (4 < y.f3)) by rw [HY.out]; rfl)
   generalize (l0.take kk).any (clash y) = t1 at HG ⊢
   have hyes : ∀ w', Aside0 (Below w.heap.size w w') → badCon l0 kk l0[kk] = true → Ending.returned (.bool false) = .returned (.bool r) ∧ Below w.heap.size w w' := fun w' hb' hbad => ⟨by rw [← HE.out, soundB_false l0 kk hlt hbad], hb'.out⟩
   have HYES := Aside0.mk hyes
   clear hyes
   cases t1 with
   | true =>
    go_wp2
    go_ret
    exact HYES.out _ HB3 (by rw [HG.out]; rfl)
   | false =>
    cases e1 : (y.f4 != ((l0.filter (ofType y.f1)).length : Int)) with
    | true =>
     go_wp2
     go_ret
     exact HYES.out _ HB3 (by rw [HG.out, e1]; rfl)
    | false =>
     cases e2 : decide (y.f2 < 0) with
     | true =>
      go_wp2
      go_ret
      exact HYES.out _ HB3 (by rw [HG.out, e1, e2]; rfl)
     | false =>
      cases e3 : decide (y.f4 ≤ y.f2) with
      | true =>
       go_wp2
       go_ret
       exact HYES.out _ HB3 (by rw [HG.out, e1, e2, e3]; rfl)
      | false =>
       cases e4 : decide (y.f3 < 0) with
       | true =>
        go_wp2
        go_ret
        exact HYES.out _ HB3 (by rw [HG.out, e1, e2, e3, e4]; rfl)
       | false =>
        cases e5 : decide (4 < y.f3) with
        | true =>
         go_wp2
         go_ret
         exact HYES.out _ HB3 (by rw [HG.out, e1, e2, e3, e4, e5]; rfl)
        | false =>
         have HE5 := Aside0.mk (show badCon l0 kk l0[kk] = false by rw [HG.out, e1, e2, e3, e4, e5]; rfl)
         go_wp2
         go_roundg (l0.length - (kk + 1))
         case measure => omega
         case rel =>
          refine ⟨kk + 1, by omega, by omega, by go_num, HB3, ⟨fun j hj hl => ?_⟩⟩
          by_cases e : j = kk
          ·
           subst e
           exact HE5.out
          ·
           exact AA.out j (by omega) hl
  ·
   have hltz : ¬ (kk : Int) < (l0.length : Int) := by omega
   go_wp2
   go_ret
   exact ⟨by rw [← HE.out, soundB_true l0 (fun j hj => AA.out j (by omega) hj)]; rfl, BW.out⟩
theorem mul10 : bits_Mul.f 1 0 = some (0, 0) := by decide +kernel
theorem mul11 : bits_Mul.f 1 1 = some (0, 1) := by decide +kernel
theorem mul12 : bits_Mul.f 1 2 = some (0, 2) := by decide +kernel
theorem run_copy_k {P : Program} (w : World) (dT sT ty elem sz : TypeId) (g o dLen dCap : Nat) (a : Addr) (sLen sCap : Nat) (cur : Array Value) (t : TypeId) (cs : List Value)
 (hu : P.underlying dT = some (.slice elem)) (hs : (P.info? elem).map (·.size) = some sz)
 (hg : w.heap[g]? = some (.cells cur t (0, 0))) (hn : cs.length = Nat.min sLen dLen * sz)
 (hsrc : ∀ j v, cs[j]? = some v → w.cell? (a.add j) = some v) (hfit : o + cs.length ≤ cur.size) (h1 : ∀ v ∈ cs, v.oneCell' = true) :
 (Builtin.copy_ #[dT, sT] ty #[.slice (some ⟨g, o, none⟩) dLen dCap, .slice (some a) sLen sCap]).run P w =
  .ok (goInt (Nat.min sLen dLen)) (w.setRow g (cur.toList.take o ++ cs ++ cur.toList.drop (o + cs.length)).toArray) := by
 have hl := run_loadCells_list (P := P) w a cs hsrc
 have hst := run_storeCells_at P g o t cs 0 cur w hg (by simpa using hfit) h1
 cases hq : P.info? elem with
 | none => simp [hq] at hs
 | some i =>
  have hi : i.size = sz := by simpa [hq] using hs
  simp [Builtin.copy_, run_underlying hu, Builtin.lenOf, Builtin.firstCells, sizeOf, typeInfo, hq, hi, ← hn, hl, hst]
theorem below_setRow' {B g : Nat} {w0 w : World} (hb : Below B w0 w) (hBg : B ≤ g) (cs : Array Value) : Below B w0 (w.setRow g cs) :=
 hb.trans ⟨rfl, rfl, rfl, by simp [World.setRow], fun k hk => setRow_other w g k cs (by omega)⟩
def wildS : S25 := ⟨24, ⟨#[]⟩, 0, 0, [], []⟩
def wildC : List Value := [.int .i64 24, .string ⟨#[]⟩, .int .i64 0, .int .i64 0, .slice none 0 0, .slice none 0 0]
theorem wild_src {w : World} {g : Nat} (h : w.heap[g]? = some (.cells #[.int .i64 24, .string ⟨#[]⟩, .int .i64 0, .int .i64 0, .slice none 0 0, .slice none 0 0] 25 (0, 0))) : ∀ j v, wildC[j]? = some v → w.cell? ((⟨g, 0, none⟩ : Addr).add j) = some v := by
 intro j v hj
 rw [add_plain, blk_cell h]
 rw [← hj]
 exact List.getElem?_toArray
theorem blk_new1 (w : World) (o o' : Obj) (m : Nat) : (((w.alloc o).drewN m).alloc o').heap[w.heap.size + 1]? = some o' := by
 have h := blk_new ((w.alloc o).drewN m) o'
 rwa [show ((w.alloc o).drewN m).heap.size = w.heap.size + 1 from World.size_alloc _ _] at h
theorem wild_row {w : World} {g base : Nat} {cur : Array Value} (h : w.heap[g]? = some (.cells cur 25 (0, 0))) (hb : base ≤ g) (n : Nat) (hn : n ≤ 1000) (hc : cur.toList = (List.replicate n wildC).flatten) :
 Kd.R k25 25 w base (fun _ => True) (.slice (some ⟨g, 0, none⟩) n n) (List.replicate n wildS) := by
 have hl : cur.toList.length = n * 6 := by
  rw [hc]; simp [wildC]
 refine ⟨fun _ _ => trivial, cur.toList, ⟨by rw [List.length_replicate]; exact hl, .inr ⟨g, n, cur, by rw [List.length_replicate], hb, h, by rw [List.length_replicate]; exact Nat.le_refl _, by unfold maxLen; omega, hl, ?_⟩⟩, by rw [List.length_replicate]; exact hl, fun j p hj => ?_⟩
 ·
  rw [List.length_replicate]
  exact List.take_of_length_le (Nat.le_of_eq hl)
 ·
  have hjn : j < n := by
   have := (List.getElem?_eq_some_iff.1 hj).1
   rwa [List.length_replicate] at this
  have hp : p = wildS := by
   rw [List.getElem?_replicate, if_pos hjn] at hj
   exact (Option.some.inj hj).symm
  have hseg : (cur.toList.drop (j * 6)).take 6 = wildC := by
   rw [hc]
   clear hc hl h hj
   induction n generalizing j with
   | zero => omega
   | succ n ih =>
    rw [List.replicate_succ, List.flatten_cons]
    cases j with
    | zero => rw [Nat.zero_mul, List.drop_zero, List.take_append_of_le_length (by decide)]; rfl
    | succ j => rw [List.drop_append, show wildC.drop ((j + 1) * 6) = [] from List.drop_of_length_le (by show 6 ≤ _; omega), List.nil_append, show (j + 1) * 6 - wildC.length = j * 6 by show (j + 1) * 6 - 6 = _; omega]; exact ih (by omega) j (by omega)
  rw [show k25.sz = 6 from rfl, hseg, hp]
  exact k25_mkM _ _ _ wildS (Kd.R_nil _ _ _ _ _) (Kd.R_nil _ _ _ _ _)
set_option maxHeartbeats 4000000 in
set_option maxRecDepth 100000 in
theorem wild0_calls (w : World) :
 Calls Try.prog 25 #[.int .i64 0] w fun e w' => ∃ v, e = .returned v ∧ Kd.R k25 25 w' w.heap.size (fun _ => True) v (List.replicate 0 wildS) ∧ Below w.heap.size w w' := by
 have hmk : ∀ w, (Instr.makeSlice 22 (.int .i64 0) (.int .i64 0)).run Try.prog w = .ok (.slice (some ⟨w.heap.size, 0, none⟩) 0 0) (w.alloc (.cells #[] 25)) := fun _ => by kernel_rfl
 have hcp : ∀ (m : Nat) ty, (Builtin.copy_ #[22, 22] ty #[.slice (some ⟨w.heap.size + 1, 0, none⟩) 0 0, .slice (some ⟨w.heap.size, 0, none⟩) 1 1]).run Try.prog (((w.alloc (.cells #[.int .i64 24, .string ⟨#[]⟩, .int .i64 0, .int .i64 0, .slice none 0 0, .slice none 0 0] 25)).drewN m).alloc (.cells #[] 25)) = .ok (goInt 0) ((((w.alloc (.cells #[.int .i64 24, .string ⟨#[]⟩, .int .i64 0, .int .i64 0, .slice none 0 0, .slice none 0 0] 25)).drewN m).alloc (.cells #[] 25)).setRow (w.heap.size + 1) #[]) := fun m ty =>
  run_copy_k (P := Try.prog) _ 22 22 ty 25 6 (w.heap.size + 1) 0 0 0 ⟨w.heap.size, 0, none⟩ 1 1 #[] 25 [] Try.underlying22 (info_size info25) (blk_new1 w _ _ m) (by decide)
   (by intro j v hj; simp at hj) (by decide) (by intro v hv; cases hv)
 go_enter Try.func25, Try.ntmps25
 go_wp2_with (first | (go_at_call 77; refine (bits_Mul.calls 1 0 _ _ _ mul10).mono ?_; rintro e w' ⟨rfl, ⟨m, rfl⟩⟩) | go_in)
 refine wp_loop_rounds 1 ?_
 rw [rounds_succ]
 go_wp2
 go_ret
 refine ⟨_, rfl, wild_row (setRow_heap _ _ _ _ _ _ (blk_new1 w _ _ m)) (Nat.le_succ _) 0 (by decide) rfl, ?_⟩
 exact below_setRow' (pw_below_drewN (below_1 w _) m |>.alloc (by rw [show ((w.alloc _).drewN m).heap.size = w.heap.size + 1 from World.size_alloc _ _]; exact Nat.le_succ _) _) (Nat.le_succ _) _
set_option maxHeartbeats 4000000 in
set_option maxRecDepth 100000 in
theorem wild1_calls (w : World) :
 Calls Try.prog 25 #[.int .i64 1] w fun e w' => ∃ v, e = .returned v ∧ Kd.R k25 25 w' w.heap.size (fun _ => True) v (List.replicate 1 wildS) ∧ Below w.heap.size w w' := by
 have hmk : ∀ w, (Instr.makeSlice 22 (.int .i64 1) (.int .i64 1)).run Try.prog w = .ok (.slice (some ⟨w.heap.size, 0, none⟩) 1 1) (w.alloc (.cells #[.int .i64 0, .string ⟨#[]⟩, .int .i64 0, .int .i64 0, .slice none 0 0, .slice none 0 0] 25)) := fun _ => by kernel_rfl
 have hcp : ∀ (m : Nat) ty, (Builtin.copy_ #[22, 22] ty #[.slice (some ⟨w.heap.size + 1, 0, none⟩) 1 1, .slice (some ⟨w.heap.size, 0, none⟩) 1 1]).run Try.prog (((w.alloc (.cells #[.int .i64 24, .string ⟨#[]⟩, .int .i64 0, .int .i64 0, .slice none 0 0, .slice none 0 0] 25)).drewN m).alloc (.cells #[.int .i64 0, .string ⟨#[]⟩, .int .i64 0, .int .i64 0, .slice none 0 0, .slice none 0 0] 25)) = .ok (goInt 1) ((((w.alloc (.cells #[.int .i64 24, .string ⟨#[]⟩, .int .i64 0, .int .i64 0, .slice none 0 0, .slice none 0 0] 25)).drewN m).alloc (.cells #[.int .i64 0, .string ⟨#[]⟩, .int .i64 0, .int .i64 0, .slice none 0 0, .slice none 0 0] 25)).setRow (w.heap.size + 1) #[.int .i64 24, .string ⟨#[]⟩, .int .i64 0, .int .i64 0, .slice none 0 0, .slice none 0 0]) := fun m ty =>
  run_copy_k (P := Try.prog) _ 22 22 ty 25 6 (w.heap.size + 1) 0 1 1 ⟨w.heap.size, 0, none⟩ 1 1 #[.int .i64 0, .string ⟨#[]⟩, .int .i64 0, .int .i64 0, .slice none 0 0, .slice none 0 0] 25 [.int .i64 24, .string ⟨#[]⟩, .int .i64 0, .int .i64 0, .slice none 0 0, .slice none 0 0] Try.underlying22 (info_size info25) (blk_new1 w _ _ m) (by decide)
   (by exact wild_src (blk_alloc (blk_drewN (blk_new w _) m) _)) (by decide) (by intro v hv; simp only [List.mem_cons, List.not_mem_nil, or_false] at hv; rcases hv with rfl | rfl | rfl | rfl | rfl | rfl <;> rfl)
 go_enter Try.func25, Try.ntmps25
 go_wp2_with (first | (go_at_call 77; refine (bits_Mul.calls 1 1 _ _ _ mul11).mono ?_; rintro e w' ⟨rfl, ⟨m, rfl⟩⟩) | go_in)
 refine wp_loop_rounds 1 ?_
 rw [rounds_succ]
 go_wp2
 go_ret
 refine ⟨_, rfl, wild_row (setRow_heap _ _ _ _ _ _ (blk_new1 w _ _ m)) (Nat.le_succ _) 1 (by decide) rfl, ?_⟩
 exact below_setRow' (pw_below_drewN (below_1 w _) m |>.alloc (by rw [show ((w.alloc _).drewN m).heap.size = w.heap.size + 1 from World.size_alloc _ _]; exact Nat.le_succ _) _) (Nat.le_succ _) _
set_option maxHeartbeats 4000000 in
set_option maxRecDepth 100000 in
theorem wild2_calls (w : World) :
 Calls Try.prog 25 #[.int .i64 2] w fun e w' => ∃ v, e = .returned v ∧ Kd.R k25 25 w' w.heap.size (fun _ => True) v (List.replicate 2 wildS) ∧ Below w.heap.size w w' := by
 have hmk : ∀ w, (Instr.makeSlice 22 (.int .i64 2) (.int .i64 2)).run Try.prog w = .ok (.slice (some ⟨w.heap.size, 0, none⟩) 2 2) (w.alloc (.cells #[.int .i64 0, .string ⟨#[]⟩, .int .i64 0, .int .i64 0, .slice none 0 0, .slice none 0 0, .int .i64 0, .string ⟨#[]⟩, .int .i64 0, .int .i64 0, .slice none 0 0, .slice none 0 0] 25)) := fun _ => by kernel_rfl
 have hcp : ∀ (m : Nat) ty, (Builtin.copy_ #[22, 22] ty #[.slice (some ⟨w.heap.size + 1, 0, none⟩) 2 2, .slice (some ⟨w.heap.size, 0, none⟩) 1 1]).run Try.prog (((w.alloc (.cells #[.int .i64 24, .string ⟨#[]⟩, .int .i64 0, .int .i64 0, .slice none 0 0, .slice none 0 0] 25)).drewN m).alloc (.cells #[.int .i64 0, .string ⟨#[]⟩, .int .i64 0, .int .i64 0, .slice none 0 0, .slice none 0 0, .int .i64 0, .string ⟨#[]⟩, .int .i64 0, .int .i64 0, .slice none 0 0, .slice none 0 0] 25)) = .ok (goInt 1) ((((w.alloc (.cells #[.int .i64 24, .string ⟨#[]⟩, .int .i64 0, .int .i64 0, .slice none 0 0, .slice none 0 0] 25)).drewN m).alloc (.cells #[.int .i64 0, .string ⟨#[]⟩, .int .i64 0, .int .i64 0, .slice none 0 0, .slice none 0 0, .int .i64 0, .string ⟨#[]⟩, .int .i64 0, .int .i64 0, .slice none 0 0, .slice none 0 0] 25)).setRow (w.heap.size + 1) #[.int .i64 24, .string ⟨#[]⟩, .int .i64 0, .int .i64 0, .slice none 0 0, .slice none 0 0, .int .i64 0, .string ⟨#[]⟩, .int .i64 0, .int .i64 0, .slice none 0 0, .slice none 0 0]) := fun m ty =>
  run_copy_k (P := Try.prog) _ 22 22 ty 25 6 (w.heap.size + 1) 0 2 2 ⟨w.heap.size, 0, none⟩ 1 1 #[.int .i64 0, .string ⟨#[]⟩, .int .i64 0, .int .i64 0, .slice none 0 0, .slice none 0 0, .int .i64 0, .string ⟨#[]⟩, .int .i64 0, .int .i64 0, .slice none 0 0, .slice none 0 0] 25 [.int .i64 24, .string ⟨#[]⟩, .int .i64 0, .int .i64 0, .slice none 0 0, .slice none 0 0] Try.underlying22 (info_size info25) (blk_new1 w _ _ m) (by decide)
   (by exact wild_src (blk_alloc (blk_drewN (blk_new w _) m) _)) (by decide) (by intro v hv; simp only [List.mem_cons, List.not_mem_nil, or_false] at hv; rcases hv with rfl | rfl | rfl | rfl | rfl | rfl <;> rfl)
 go_enter Try.func25, Try.ntmps25
 go_wp2_with (first | (go_at_call 77; refine (bits_Mul.calls 1 2 _ _ _ mul12).mono ?_; rintro e w' ⟨rfl, ⟨m, rfl⟩⟩) | go_in)
 refine wp_loop_rounds 2 ?_
 rw [rounds_succ]
 go_wp2
 have hg := setRow_heap _ _ _ #[.int .i64 24, .string ⟨#[]⟩, .int .i64 0, .int .i64 0, .slice none 0 0, .slice none 0 0, .int .i64 0, .string ⟨#[]⟩, .int .i64 0, .int .i64 0, .slice none 0 0, .slice none 0 0] _ _ (blk_new1 w (.cells #[.int .i64 24, .string ⟨#[]⟩, .int .i64 0, .int .i64 0, .slice none 0 0, .slice none 0 0] 25) (.cells #[.int .i64 0, .string ⟨#[]⟩, .int .i64 0, .int .i64 0, .slice none 0 0, .slice none 0 0, .int .i64 0, .string ⟨#[]⟩, .int .i64 0, .int .i64 0, .slice none 0 0, .slice none 0 0] 25) m)
 have hB := below_setRow' (pw_below_drewN (below_1 w (.cells #[.int .i64 24, .string ⟨#[]⟩, .int .i64 0, .int .i64 0, .slice none 0 0, .slice none 0 0] 25)) m |>.alloc (by rw [show ((w.alloc _).drewN m).heap.size = w.heap.size + 1 from World.size_alloc _ _]; exact Nat.le_succ _) (.cells #[.int .i64 0, .string ⟨#[]⟩, .int .i64 0, .int .i64 0, .slice none 0 0, .slice none 0 0, .int .i64 0, .string ⟨#[]⟩, .int .i64 0, .int .i64 0, .slice none 0 0, .slice none 0 0] 25)) (Nat.le_succ _) #[.int .i64 24, .string ⟨#[]⟩, .int .i64 0, .int .i64 0, .slice none 0 0, .slice none 0 0, .int .i64 0, .string ⟨#[]⟩, .int .i64 0, .int .i64 0, .slice none 0 0, .slice none 0 0]
 generalize ((((w.alloc (.cells #[.int .i64 24, .string ⟨#[]⟩, .int .i64 0, .int .i64 0, .slice none 0 0, .slice none 0 0] 25)).drewN m).alloc (.cells #[.int .i64 0, .string ⟨#[]⟩, .int .i64 0, .int .i64 0, .slice none 0 0, .slice none 0 0, .int .i64 0, .string ⟨#[]⟩, .int .i64 0, .int .i64 0, .slice none 0 0, .slice none 0 0] 25)).setRow (w.heap.size + 1) #[.int .i64 24, .string ⟨#[]⟩, .int .i64 0, .int .i64 0, .slice none 0 0, .slice none 0 0, .int .i64 0, .string ⟨#[]⟩, .int .i64 0, .int .i64 0, .slice none 0 0, .slice none 0 0]) = W3 at hg hB ⊢
 clear hcp hmk
 have hcp2 : ∀ ty, (Builtin.copy_ #[22, 22] ty #[.slice (some ⟨w.heap.size + 1, 6, none⟩) 1 1, .slice (some ⟨w.heap.size + 1, 0, none⟩) 1 2]).run Try.prog W3.drew = .ok (goInt 1) (W3.drew.setRow (w.heap.size + 1) #[.int .i64 24, .string ⟨#[]⟩, .int .i64 0, .int .i64 0, .slice none 0 0, .slice none 0 0, .int .i64 24, .string ⟨#[]⟩, .int .i64 0, .int .i64 0, .slice none 0 0, .slice none 0 0]) := fun ty =>
  run_copy_k (P := Try.prog) _ 22 22 ty 25 6 (w.heap.size + 1) 6 1 1 ⟨w.heap.size + 1, 0, none⟩ 1 2 #[.int .i64 24, .string ⟨#[]⟩, .int .i64 0, .int .i64 0, .slice none 0 0, .slice none 0 0, .int .i64 0, .string ⟨#[]⟩, .int .i64 0, .int .i64 0, .slice none 0 0, .slice none 0 0] 25 [.int .i64 24, .string ⟨#[]⟩, .int .i64 0, .int .i64 0, .slice none 0 0, .slice none 0 0] Try.underlying22 (info_size info25) hg (by decide)
   (by intro j v hj; rw [add_plain, show W3.drew.cell? ⟨w.heap.size + 1, j, none⟩ = W3.cell? ⟨w.heap.size + 1, j, none⟩ from rfl, blk_cell hg]; match j, hj with | 0, hj => exact hj | 1, hj => exact hj | 2, hj => exact hj | 3, hj => exact hj | 4, hj => exact hj | 5, hj => exact hj | j + 6, hj => simp at hj) (by decide) (by intro v hv; simp only [List.mem_cons, List.not_mem_nil, or_false] at hv; rcases hv with rfl | rfl | rfl | rfl | rfl | rfl <;> rfl)
 have HG := Aside0.mk hg
 have HB := Aside0.mk hB
 clear hg hB
 go_region
 go_wp2
 rw [rounds_succ]
 go_wp2
 go_ret
 exact ⟨_, rfl, wild_row (setRow_heap W3.drew _ _ _ _ _ HG.out) (Nat.le_succ _) 2 (by decide) rfl, below_setRow' (below_drew HB.out) (Nat.le_succ _) _⟩
theorem run_append_zero {P : Program} (w : World) (t ty e : TypeId) (i : TypeInfo) (ht : P.underlying t = some (.slice e)) (hi : P.info? e = some i) (A : Option Addr) (n cap : Nat) (B : Option Addr) (c : Nat) (hn : n ≤ cap) :
 (Builtin.append_ #[t, t] ty #[.slice A n cap, .slice B 0 c]).run P w = .ok (.slice A n cap) w := by
 have h0 : ∀ w' : World, (loadCells (B.getD default) 0).run P w' = .ok #[] w' := fun w' => by simp [loadCells, loadCellsFrom]
 cases A <;> cases B <;> simp [Builtin.append_, run_underlying ht, sizeOf, typeInfo, hi, Builtin.lenOf, Builtin.firstCells, hn, loadCells, loadCellsFrom, storeCells]
theorem step_append_zero {P : Program} {ops : Array Oper} {o : Oper} {a : Act} {w : World} {K : Act → World → Prop} {Q : Exit → Act → World → Prop} {E : Prop}
 (hg : o.guard = none) (s x : Operand) (t e : TypeId) (hop : o.op = Op.call { callee := Callee.builtin Builtin.append, args := #[s, x], argTypes := #[t, t] }) (i : TypeInfo) (h1 : P.underlying t = some (.slice e)) (h2 : P.info? e = some i)
 (A : Option Addr) (n cap : Nat) (B : Option Addr) (c : Nat) (hs : a.eval s = .slice A n cap) (hx : a.eval x = .slice B 0 c) (hn : n ≤ cap)
 (hK : K (a.put o.dst (.slice A n cap)) w) :
 if Region.wanted o (yielded ops a.tmps) = true then Oper.wp P o a w K Q else E := by
 have hw : Region.wanted o (yielded ops a.tmps) = true := by simp [Region.wanted, hg]
 rw [if_pos hw]
 have hrun := run_append_zero (P := P) w t o.type e i h1 h2 A n cap B c hn
 unfold Oper.wp
 simp [execOp, hop, resolve, invoke, builtin, hs, hx, hrun, Result.andThen]
 exact hK
theorem N_of_own {α : Type} {d : Kd α} {w : World} {e base : Nat} {ok : Nat → Prop} {v : Value} {xs : List α} {cells : List Value} (ho : w.ownsRow base e d.sz v xs.length cells)
 (hr : Reps (fun x c => Kd.FK d w (fun k => ok k ∧ some k ≠ v.ownBlock) x c) d.sz xs cells) (hok : ∀ k, v.ownBlock = some k → ok k) : Kd.N d e w base ok v xs := by
 refine ⟨hok, Kd.chunks d.sz xs.length cells, Kd.chunks_length _ _ _, ⟨fun k hk => hk.symm, cells, by rw [Kd.chunks_length]; exact ho, Kd.reps_raw hr (fun x c hp => ⟨d.K_len (Kd.FK_now hp), d.K_one (Kd.FK_now hp)⟩)⟩, fun j x c hx hc => ?_⟩
 rw [Kd.chunks_get hc]
 exact hr.2 j x hx
theorem reps_append {α : Type} {R : α → List Value → Prop} {sz : Nat} {ps qs : List α} {cs ds : List Value} (h : Reps R sz ps cs) (k : Reps R sz qs ds) : Reps R sz (ps ++ qs) (cs ++ ds) := by
 refine ⟨by rw [List.length_append, h.1, k.1, List.length_append, Nat.add_mul], fun j p hj => ?_⟩
 rcases Nat.lt_or_ge j ps.length with hl | hl
 ·
  rw [List.getElem?_append_left hl] at hj
  have h1 : j * sz + sz ≤ cs.length := by rw [h.1, ← Nat.succ_mul]; exact Nat.mul_le_mul_right _ hl
  rw [List.drop_append_of_le_length (by omega), List.take_append_of_le_length (by rw [List.length_drop]; omega)]
  exact h.2 j p hj
 ·
  rw [List.getElem?_append_right hl] at hj
  have h1 := k.2 _ p hj
  rw [List.drop_append, List.drop_of_length_le (by rw [h.1]; exact Nat.mul_le_mul_right _ hl), List.nil_append, h.1, ← Nat.sub_mul]
  exact h1
theorem F_cells {α : Type} {d : Kd α} {W : World} {ok : Nat → Prop} {A : Option Addr} {n : Nat} {xs : List α} (h : Kd.F d W ok A n xs) : ∃ cells, Reps (fun x c => Kd.FK d W ok x c) d.sz xs cells ∧ ∀ b, A = some b → ∀ j u, cells[j]? = some u → W.cell? (b.add j) = some u := by
 have hr := Kd.F_rows h
 cases A with
 | none =>
  have h0 := C_none (Kd.F_now h)
  subst h0
  exact ⟨[], Reps.none _ _, fun b hb => by cases hb⟩
 | some ad =>
  obtain ⟨inner, h1, h2⟩ := ReadsRow.inner_ hr
  exact ⟨inner, h1, fun b hb => by cases hb; exact h2⟩
theorem step_append_full {P : Program} {α : Type} (d : Kd α) {ops : Array Oper} {o : Oper} {a : Act} {W : World} {K : Act → World → Prop} {Q : Exit → Act → World → Prop} {E : Prop}
 (hg : o.guard = none) (s x : Operand) (t e : TypeId) (hop : o.op = Op.call { callee := Callee.builtin Builtin.append, args := #[s, x], argTypes := #[t, t] }) (z : Value) (bytes : Nat)
 (ht : P.underlying t = some (.slice e)) (hinfo : (P.info? e).map (fun i => (i.zero, i.size, i.bytes)) = some (some z, d.sz, bytes)) (hz : z.cells.size = d.sz) (hs0 : 0 < d.sz)
 (A B : Option Addr) (c : Nat) (xs ys : List α) (ok : Nat → Prop) (hs : a.eval s = .slice A xs.length xs.length) (hx : a.eval x = .slice B ys.length c) (hX : Kd.F d W ok A xs.length xs) (hY : Kd.F d W ok B ys.length ys)
 (hl : (xs.length + ys.length) * bytes ≤ 140737488355328) (hm : xs.length + ys.length ≤ maxLen)
 (hK : ∀ v w1, Kd.V d e w1 W.heap.size (fun k => ok k ∨ W.heap.size ≤ k) v (xs ++ ys) → Below W.heap.size W w1 → K (a.put o.dst v) w1) :
 if Region.wanted o (yielded ops a.tmps) = true then Oper.wp P o a W K Q else E := by
 obtain ⟨i, hi, hz1, hz2, hz3⟩ := info_parts hinfo
 rcases Nat.eq_zero_or_pos ys.length with h0 | h0
 ·
  obtain rfl : ys = [] := List.eq_nil_of_length_eq_zero h0
  refine step_append_zero hg s x t e hop i ht hi A xs.length xs.length B c hs hx (Nat.le_refl _) ?_
  refine hK _ _ ⟨A, xs.length, by simp, by simp, ?_⟩ (Below.refl _ _)
  rw [List.append_nil]
  exact Kd.F_mono hX (fun k hk => .inl hk)
 ·
  obtain ⟨olds, ho1, ho2⟩ := F_cells hX
  obtain ⟨news, hn1, hn2⟩ := F_cells hY
  cases B with
  | none => have h1 := C_none (Kd.F_now hY); subst h1; simp at h0
  | some ad =>
   have hone : ∀ u ∈ news, u.oneCell' = true := Kd.reps_one hn1 hs0 (fun p c hp => d.K_one (Kd.FK_now hp))
   refine step_append_grows hg s x t hop e i z d.sz bytes ht hi hz1 hz2 hz3 hz hs0 A xs.length xs.length olds hs (fun hA => ?_) ho1.1 ho2 ad ys.length c news hx hn1.1 (hn2 ad rfl) hone (by omega) hm hl ?_
   ·
    subst hA
    have h1 := C_none (Kd.F_now hX)
    subst h1
    exact ⟨rfl, rfl⟩
   ·
    intro v w1 hown hgr
    have hB : Below W.heap.size W w1 := pw_below_grown (Below.refl _ W) none (Nat.le_refl _) hgr (fun k hk => by cases hk)
    refine hK v w1 (Kd.N_V (N_of_own (ok := fun k => ok k ∨ W.heap.size ≤ k) (by rw [List.length_append]; exact hown) ?_ (fun k hk => .inr (own_base hown k hk)))) hB
    have hmv : ∀ (p : α) (c : List Value), Kd.FK d W ok p c → Kd.FK d w1 (fun k => (ok k ∨ W.heap.size ≤ k) ∧ some k ≠ v.ownBlock) p c := fun p c hp =>
     Kd.FK_mono (Kd.FK_below (Kd.FK_bound hp) hB) (fun k hk => ⟨.inl hk.1, fun he => by have := own_base hown k he.symm; have := hk.2; omega⟩)
    exact reps_append (ho1.imp_ hmv) (hn1.imp_ hmv)
theorem wpList_append_full {P : Program} {α : Type} (d : Kd α) {ops : Array Oper} {rest : List Oper} {o : Oper} {a : Act} {W : World} {Q : Exit → Act → World → Prop}
 (hg : o.guard = none) (s x : Operand) (t e : TypeId) (hop : o.op = Op.call { callee := Callee.builtin Builtin.append, args := #[s, x], argTypes := #[t, t] }) (z : Value) (bytes : Nat)
 (ht : P.underlying t = some (.slice e)) (hinfo : (P.info? e).map (fun i => (i.zero, i.size, i.bytes)) = some (some z, d.sz, bytes)) (hz : z.cells.size = d.sz) (hs0 : 0 < d.sz)
 (A B : Option Addr) (c : Nat) (xs ys : List α) (ok : Nat → Prop) (hs : a.eval s = .slice A xs.length xs.length) (hx : a.eval x = .slice B ys.length c) (hX : Kd.F d W ok A xs.length xs) (hY : Kd.F d W ok B ys.length ys)
 (hl : (xs.length + ys.length) * bytes ≤ 140737488355328) (hm : xs.length + ys.length ≤ maxLen)
 (h : ∀ v w1, Kd.V d e w1 W.heap.size (fun k => ok k ∨ W.heap.size ≤ k) v (xs ++ ys) → Below W.heap.size W w1 → wpList P ops Q rest (a.put o.dst v) w1) :
 wpList P ops Q (o :: rest) a W := by
 refine wpList_plain hg fun K hK => ?_
 have hw : Region.wanted o (yielded ops a.tmps) = true := by simp [Region.wanted, hg]
 have := step_append_full (ops := ops) (K := K) (Q := Q) (E := True) d hg s x t e hop z bytes ht hinfo hz hs0 A B c xs ys ok hs hx hX hY hl hm (fun v w1 hV hB => hK _ _ (h v w1 hV hB))
 rwa [if_pos hw] at this
theorem wild_calls (n : Nat) (hn : n ≤ 2) (w : World) :
 Calls Try.prog 25 #[.int .i64 (n : Int)] w fun e w' => ∃ v, e = .returned v ∧ Kd.R k25 25 w' w.heap.size (fun _ => True) v (List.replicate n wildS) ∧ Below w.heap.size w w' := by
 match n, hn with
 | 0, _ => exact wild0_calls w
 | 1, _ => exact wild1_calls w
 | 2, _ => exact wild2_calls w
def looseB (p : S25) : Bool := p.f0 == 24 || p.f0 == 4
def sameB (a b : S25) : Bool := a.f0 == b.f0 && (a.f1.toList == b.f1.toList && a.f2 == b.f2)
theorem loose_f (p : S25) : cover_loose.f p.f0 p.f1 p.f2 p.f3 p.f4 p.f5 = some (looseB p) := by
 unfold cover_loose.f looseB
 by_cases h : p.f0 = 24
 ·
  rw [if_pos h, h]; rfl
 ·
  rw [if_neg h, beq_eq_false_iff_ne.2 h]; rfl
theorem same_f (a b : S25) : cover_same.f a.f0 a.f1 a.f2 a.f3 a.f4 a.f5 b.f0 b.f1 b.f2 b.f3 b.f4 b.f5 = some (sameB a b) := by
 unfold cover_same.f sameB
 by_cases h : a.f0 = b.f0
 ·
  rw [if_pos h, beq_iff_eq.2 h]
  by_cases h1 : a.f1.toList = b.f1.toList
  ·
   rw [if_pos h1, beq_iff_eq.2 h1]; rfl
  ·
   rw [if_neg h1, beq_eq_false_iff_ne.2 h1]; rfl
 ·
  rw [if_neg h, beq_eq_false_iff_ne.2 h]; rfl
theorem loose_calls (x : S25) (cs : List Value) (w : World) (hK : k25.K w x cs) : Calls Try.prog 46 #[.agg cs.toArray] w fun e w' => e = .returned (.bool (looseB x)) ∧ Below w.heap.size w w' := by
 obtain ⟨A4, c4, A5, c5, rfl, l4, g4, l5, g5⟩ := k25_open hK
 exact cover_loose.calls x.f0 x.f1 x.f2 x.f3 A4 c4 x.f4 A5 c5 x.f5 _ w g4 l4 g5 l5 (loose_f x)
theorem same_calls (x y : S25) (cs ds : List Value) (w : World) (hK : k25.K w x cs) (hL : k25.K w y ds) : Calls Try.prog 49 #[.agg cs.toArray, .agg ds.toArray] w fun e w' => e = .returned (.bool (sameB x y)) ∧ Below w.heap.size w w' := by
 obtain ⟨A4, c4, A5, c5, rfl, l4, g4, l5, g5⟩ := k25_open hK
 obtain ⟨B4, d4, B5, d5, rfl, m4, h4, m5, h5⟩ := k25_open hL
 exact cover_same.calls x.f0 x.f1 x.f2 x.f3 A4 c4 x.f4 A5 c5 x.f5 y.f0 y.f1 y.f2 y.f3 B4 d4 y.f4 B5 d5 y.f5 _ w g4 l4 g5 l5 h4 m4 h5 m5 (same_f x y)
theorem below_of_drew {w w1 : World} (h : Below w.drew.heap.size w.drew w1) : Below w.heap.size w w1 := ⟨h.os, h.tape, h.output, h.size, h.block⟩
theorem Addr_add_zero (a : Addr) : a.add 0 = a := by unfold Addr.add; split <;> simp_all
def belowO (r : List S25) (h : S25) : Option (List S25) :=
 match r with
 | [] => none
 | p :: t => if looseB p then some (List.replicate h.f5.length wildS ++ t) else if sameB p h then some (p.f5 ++ t) else none
set_option maxHeartbeats 8000000 in
set_option maxRecDepth 100000 in
theorem below_loose (P : Nat → Prop) (A0 : Option Addr) (c0 : Nat) (p : S25) (t : List S25) (h : S25) (hcs : List Value) (w : World) (hr : Kd.F k25 w P A0 (p :: t).length (p :: t)) (hc0 : (p :: t).length ≤ c0) (hK : k25.K w h hcs) (hh : h.f5.length ≤ 2) (hlen : t.length ≤ 1000000) (hl : looseB p = true) :
 Calls Try.prog 51 #[.slice A0 (p :: t).length c0, .agg hcs.toArray] w fun e w' => ∃ v, e = .returned (.tuple #[v, .bool true]) ∧ Kd.V k25 25 w' w.heap.size (fun k => P k ∨ w.heap.size ≤ k) v (List.replicate h.f5.length wildS ++ t) ∧ Below w.heap.size w w' := by
 obtain ⟨B4, d4, B5, d5, rfl, m4, h4, m5, h5⟩ := k25_open hK
 clear h4 h5 hK
 obtain ⟨ad, c, e', hcl, hKp, hcz, hcj⟩ := elem_at (Kd.C_alloc (Kd.F_now hr) (.cells #[.int .i64 h.f0, .string h.f1, .int .i64 h.f2, .int .i64 h.f3, .slice B4 h.f4.length d4, .slice B5 h.f5.length d5] 25)) 0 (by simp)
 subst e'
 simp only [Nat.zero_mul, Addr_add_zero] at hcz hcj
 have hB1 := below_1 w (.cells #[.int .i64 h.f0, .string h.f1, .int .i64 h.f2, .int .i64 h.f3, .slice B4 h.f4.length d4, .slice B5 h.f5.length d5] 25)
 have hlo := loose_calls (p :: t)[0] c (w.alloc (.cells #[.int .i64 h.f0, .string h.f1, .int .i64 h.f2, .int .i64 h.f3, .slice B4 h.f4.length d4, .slice B5 h.f5.length d5] 25)) hKp
 obtain ⟨A4, c4, A5, c5, rfl, l4, g4, l5, g5⟩ := k25_open hKp
 have e0 := hcz _ rfl
 have e1 := hcj 1 _ (by decide) rfl
 have e2 := hcj 2 _ (by decide) rfl
 have e3 := hcj 3 _ (by decide) rfl
 have e4 := hcj 4 _ (by decide) rfl
 have e5 := hcj 5 _ (by decide) rfl
 simp only [List.getElem_cons_zero] at hlo e0 e1 e2 e3 e4 e5
 rw [hl] at hlo
 have HR := Aside0.mk hr
 have HB1 := Aside0.mk hB1
 clear hcz hcj hcl g4 g5 l4 l5 hr hB1 hKp
 generalize hn : (p :: t).length = n at hc0 ⊢
 have hn1 : (0 : Int) < (n : Int) := by simp at hn; omega
 have hn2 : 0 < n := by omega
 have HN := Aside0.mk hn
 clear hn
 generalize p.f4.length = n4 at hlo e4
 generalize p.f5.length = n5 at hlo e5
 go_enter Try.func51, Try.ntmps51
 go_wp2_with fail
 refine hlo.mono ?_; rintro e w2 ⟨rfl, hb2⟩
 have hblk := blk_below (blk_new w (.cells #[.int .i64 h.f0, .string h.f1, .int .i64 h.f2, .int .i64 h.f3, .slice B4 h.f4.length d4, .slice B5 h.f5.length d5] 25)) hb2
 have k5 := blk_cell hblk 5
 have HB2 := Aside0.mk (HB1.out.trans (hb2.mono HB1.out.size))
 have HFR := Aside0.mk (Kd.F_below HR.out HB2.out)
 clear hlo e0 e1 e2 e3 e4 e5 hb2 hblk
 obtain ⟨i0, hi0, _, hsz0, _⟩ := info_parts info25
 have hcut := cut_from (P := Try.prog) 22 25 .i64 Try.underlying22 hi0 6 hsz0 (some ad) n c0 1 (by decide) (by omega)
 have hF2 := Kd.F_cut (m := 1) (c := c0) HFR.out (by simp) (by rw [HN.out]; exact hc0)
 simp only [show (1 : Int).toNat = 1 from rfl] at hcut
 simp only [show k25.sz = 6 from rfl, List.drop_succ_cons, List.drop_zero] at hF2
 have hn3 : n - 1 = t.length := by rw [← HN.out]; simp
 rw [hn3] at hcut
 generalize (if c0 = 1 then some ad else (some ad).map fun x => x.add (1 * 6)) = AC at hcut hF2
 have HF2 := Aside0.mk hF2
 clear hF2 hi0 hsz0 hn3
 have hhn := wild_calls h.f5.length hh
 go_wp2_with fail
 go_region_law (first
  | (refine goes_ Try.func25 (by kernel_rfl) rfl #[.int .i64 (h.f5.length : Int)] (by rfl) rfl rfl (by simp [Act.eval, Act.put]) ?_; refine (hhn _).mono ?_; rintro e w3 ⟨v, rfl, hR, hB3⟩; refine ⟨_, rfl, ?_⟩)
  | (refine Kd.N_append_rows_step k25 (w0 := w2) w2.heap.size (by rfl) (.tmp 14) (.tmp 16) 22 25 _ 88 rfl Try.underlying22 info25 rfl (by decide) (by omega) _ (List.replicate h.f5.length wildS) t AC t.length (c0 - 1) (fun k => P k ∨ w2.heap.size ≤ k) (fun k => P k ∧ k < w2.heap.size) (by simp [Act.eval, Act.put]; rfl) (by simp [Act.eval, Act.put]) ?aO ?aR ?aK ?aF ?aB ?aS ?aL ?_
     (case aO => exact Kd.R_N (Kd.R_mono (Kd.R_bound hR) (fun k hk => .inr hk.2.1)))
     (case aR => exact Kd.F_below (Kd.F_drew (Kd.F_bound HF2.out)) hB3)
     (case aK => exact fun k hk => ⟨.inl hk.1, fun he => by have := Kd.R_base hR k he.symm; have h2 := hk.2; exact absurd this (Nat.not_le.2 h2)⟩)
     (case aF => exact fun k hk => .inr (Nat.le_trans hB3.size hk))
     (case aB => exact below_of_drew hB3)
     (case aS => exact hB3.size)
     (case aL => rw [List.length_replicate]; omega)
     intro v1 w4 hN4 hB4 hg4 hat4))
 have HN4 := Aside0.mk hN4
 have HB4 := Aside0.mk hB4
 clear hN4 hB4 hg4 hat4 hR hB3
 go_wp2
 go_ret2
 exact ⟨v1, rfl, Kd.V_mono (Kd.N_V HN4.out) (fun k hk => hk.imp id (fun h => Nat.le_trans HB2.out.size h)), HB2.out.trans (HB4.out.mono HB2.out.size)⟩
set_option maxHeartbeats 8000000 in
set_option maxRecDepth 100000 in
theorem below_none (P : Nat → Prop) (A0 : Option Addr) (c0 : Nat) (p : S25) (t : List S25) (h : S25) (hcs : List Value) (w : World) (hr : Kd.F k25 w P A0 (p :: t).length (p :: t)) (hc0 : (p :: t).length ≤ c0) (hK : k25.K w h hcs) (hlen : t.length ≤ 1000000) (hkid : p.f5.length ≤ 1000000) (hl : looseB p = false) (hsm : sameB p h = false) :
 Calls Try.prog 51 #[.slice A0 (p :: t).length c0, .agg hcs.toArray] w fun e w' => ∃ v, e = .returned (.tuple #[v, .bool false]) ∧ Kd.V k25 25 w' w.heap.size (fun k => P k ∨ w.heap.size ≤ k) v ([]) ∧ Below w.heap.size w w' := by
 have hK0 := hK
 obtain ⟨B4, d4, B5, d5, rfl, m4, h4, m5, h5⟩ := k25_open hK
 clear h4 h5 hK
 obtain ⟨ad, c, e', hcl, hKp, hcz, hcj⟩ := elem_at (Kd.C_alloc (Kd.F_now hr) (.cells #[.int .i64 h.f0, .string h.f1, .int .i64 h.f2, .int .i64 h.f3, .slice B4 h.f4.length d4, .slice B5 h.f5.length d5] 25)) 0 (by simp)
 have hFp : ∃ c2, Kd.FK k25 w P p c2 ∧ ∀ j u, c2[j]? = some u → w.cell? (ad.add j) = some u := by
  obtain ⟨ad2, c2, e2, _, hF, hcc, _⟩ := Kd.F_get hr p 0 (by decide) (by simp)
  rw [e'] at e2
  injection e2 with e2
  subst e2
  refine ⟨c2, hF, fun j u hu => ?_⟩
  have := hcc j u hu
  simpa using this
 subst e'
 simp only [Nat.zero_mul, Addr_add_zero] at hcz hcj
 have hB1 := below_1 w (.cells #[.int .i64 h.f0, .string h.f1, .int .i64 h.f2, .int .i64 h.f3, .slice B4 h.f4.length d4, .slice B5 h.f5.length d5] 25)
 simp only [List.getElem_cons_zero] at hKp
 have hlo := loose_calls p c (w.alloc (.cells #[.int .i64 h.f0, .string h.f1, .int .i64 h.f2, .int .i64 h.f3, .slice B4 h.f4.length d4, .slice B5 h.f5.length d5] 25)) hKp
 have hsc := fun (W : World) (hW : Below (w.alloc (.cells #[.int .i64 h.f0, .string h.f1, .int .i64 h.f2, .int .i64 h.f3, .slice B4 h.f4.length d4, .slice B5 h.f5.length d5] 25)).heap.size (w.alloc (.cells #[.int .i64 h.f0, .string h.f1, .int .i64 h.f2, .int .i64 h.f3, .slice B4 h.f4.length d4, .slice B5 h.f5.length d5] 25)) W) => same_calls p h c [.int .i64 h.f0, .string h.f1, .int .i64 h.f2, .int .i64 h.f3, .slice B4 h.f4.length d4, .slice B5 h.f5.length d5] W (k25.K_below hW hKp) (k25.K_below hW (k25.K_below hB1 hK0))
 obtain ⟨A4, c4, A5, c5, rfl, l4, g4, l5, g5⟩ := k25_open hKp
 have e0 := hcz _ rfl
 have e1 := hcj 1 _ (by decide) rfl
 have e2 := hcj 2 _ (by decide) rfl
 have e3 := hcj 3 _ (by decide) rfl
 have e4 := hcj 4 _ (by decide) rfl
 have e5 := hcj 5 _ (by decide) rfl
 -- the Kids' footprint
 have hF5 : Kd.F k25 w P A5 p.f5.length p.f5 := by
  obtain ⟨c2, hF, hcc⟩ := hFp
  obtain ⟨X4, x4, X5, x5, rfl, y4, z4, y5, z5⟩ := k25_openF hF
  have h1 := hcc 5 _ rfl
  have h2 := pw_cell_below hB1 h1
  rw [← Nat.zero_add 5, add_field ad 0 5 (by decide), Addr_add_zero, e5] at h2
  have h3 := Option.some.inj h2
  injection h3 with ha _ _
  rw [ha]
  exact z5
 rw [hl] at hlo
 rw [hsm] at hsc
 have HR := Aside0.mk hr
 have HF5 := Aside0.mk hF5
 have HB1 := Aside0.mk hB1
 have HSC := Aside0.mk hsc
 have L5 := Aside0.mk l5
 clear hcz hcj hcl g4 g5 l4 l5 hr hB1 hKp hFp hF5 hsc hK0
 generalize hn : (p :: t).length = n at hc0 ⊢
 have hn1 : (0 : Int) < (n : Int) := by simp at hn; omega
 have hn2 : 0 < n := by omega
 have HN := Aside0.mk hn
 clear hn
 generalize hn4 : p.f4.length = n4 at hlo e4
 generalize hn5 : p.f5.length = n5 at hlo e5
 rw [hn4, hn5] at HSC
 rw [hn5] at L5 hkid HF5
 have HN5 := Aside0.mk hn5
 clear hn4 hn5
 go_enter Try.func51, Try.ntmps51
 go_wp2_with fail
 refine hlo.mono ?_; rintro e w2 ⟨rfl, hb2⟩
 have hblk := blk_below (blk_new w (.cells #[.int .i64 h.f0, .string h.f1, .int .i64 h.f2, .int .i64 h.f3, .slice B4 h.f4.length d4, .slice B5 h.f5.length d5] 25)) hb2
 have k0 := blk_cell hblk 0
 have k1 := blk_cell hblk 1
 have k2 := blk_cell hblk 2
 have k3 := blk_cell hblk 3
 have k4 := blk_cell hblk 4
 have k5 := blk_cell hblk 5
 have f0 := pw_cell_below hb2 e0
 have f1 := pw_cell_below hb2 e1
 have f2 := pw_cell_below hb2 e2
 have f3 := pw_cell_below hb2 e3
 have f4 := pw_cell_below hb2 e4
 have f5 := pw_cell_below hb2 e5
 have hsc2 := HSC.out w2.drew (below_drew hb2)
 have HB2 := Aside0.mk (HB1.out.trans (hb2.mono HB1.out.size))
 clear hlo e0 e1 e2 e3 e4 e5 hb2 hblk HSC
 go_wp2_with fail
 go_region_law (refine goes_ Try.func49 (by kernel_rfl) rfl #[.agg #[.int .i64 p.f0, .string p.f1, .int .i64 p.f2, .int .i64 p.f3, .slice A4 n4 c4, .slice A5 n5 c5], .agg #[.int .i64 h.f0, .string h.f1, .int .i64 h.f2, .int .i64 h.f3, .slice B4 h.f4.length d4, .slice B5 h.f5.length d5]] (by rfl) rfl rfl (by simp [Act.eval, Act.put]) ?_; refine hsc2.mono ?_; rintro e w3 ⟨rfl, hB3⟩; refine ⟨_, rfl, ?_⟩)
 all_goals have HB3 := Aside0.mk (below_of_drew hB3)
 all_goals
  clear f0 f1 f2 f3 f4 f5 k0 k1 k2 k3 k4 k5 hsc2 hB3
  go_wp2
  go_ret2
  exact ⟨_, rfl, Kd.V_nil _ _ _ _ _, HB2.out.trans (HB3.out.mono HB2.out.size)⟩
set_option maxHeartbeats 8000000 in
set_option maxRecDepth 100000 in
theorem below_same (P : Nat → Prop) (A0 : Option Addr) (c0 : Nat) (p : S25) (t : List S25) (h : S25) (hcs : List Value) (w : World) (hr : Kd.F k25 w P A0 (p :: t).length (p :: t)) (hc0 : (p :: t).length ≤ c0) (hK : k25.K w h hcs) (hlen : t.length ≤ 1000000) (hkid : p.f5.length ≤ 1000000) (hl : looseB p = false) (hsm : sameB p h = true) :
 Calls Try.prog 51 #[.slice A0 (p :: t).length c0, .agg hcs.toArray] w fun e w' => ∃ v, e = .returned (.tuple #[v, .bool true]) ∧ Kd.V k25 25 w' w.heap.size (fun k => P k ∨ w.heap.size ≤ k) v (p.f5 ++ t) ∧ Below w.heap.size w w' := by
 have hK0 := hK
 obtain ⟨B4, d4, B5, d5, rfl, m4, h4, m5, h5⟩ := k25_open hK
 clear h4 h5 hK
 obtain ⟨ad, c, e', hcl, hKp, hcz, hcj⟩ := elem_at (Kd.C_alloc (Kd.F_now hr) (.cells #[.int .i64 h.f0, .string h.f1, .int .i64 h.f2, .int .i64 h.f3, .slice B4 h.f4.length d4, .slice B5 h.f5.length d5] 25)) 0 (by simp)
 have hFp : ∃ c2, Kd.FK k25 w P p c2 ∧ ∀ j u, c2[j]? = some u → w.cell? (ad.add j) = some u := by
  obtain ⟨ad2, c2, e2, _, hF, hcc, _⟩ := Kd.F_get hr p 0 (by decide) (by simp)
  rw [e'] at e2
  injection e2 with e2
  subst e2
  refine ⟨c2, hF, fun j u hu => ?_⟩
  have := hcc j u hu
  simpa using this
 subst e'
 simp only [Nat.zero_mul, Addr_add_zero] at hcz hcj
 have hB1 := below_1 w (.cells #[.int .i64 h.f0, .string h.f1, .int .i64 h.f2, .int .i64 h.f3, .slice B4 h.f4.length d4, .slice B5 h.f5.length d5] 25)
 simp only [List.getElem_cons_zero] at hKp
 have hlo := loose_calls p c (w.alloc (.cells #[.int .i64 h.f0, .string h.f1, .int .i64 h.f2, .int .i64 h.f3, .slice B4 h.f4.length d4, .slice B5 h.f5.length d5] 25)) hKp
 have hsc := fun (W : World) (hW : Below (w.alloc (.cells #[.int .i64 h.f0, .string h.f1, .int .i64 h.f2, .int .i64 h.f3, .slice B4 h.f4.length d4, .slice B5 h.f5.length d5] 25)).heap.size (w.alloc (.cells #[.int .i64 h.f0, .string h.f1, .int .i64 h.f2, .int .i64 h.f3, .slice B4 h.f4.length d4, .slice B5 h.f5.length d5] 25)) W) => same_calls p h c [.int .i64 h.f0, .string h.f1, .int .i64 h.f2, .int .i64 h.f3, .slice B4 h.f4.length d4, .slice B5 h.f5.length d5] W (k25.K_below hW hKp) (k25.K_below hW (k25.K_below hB1 hK0))
 obtain ⟨A4, c4, A5, c5, rfl, l4, g4, l5, g5⟩ := k25_open hKp
 have e0 := hcz _ rfl
 have e1 := hcj 1 _ (by decide) rfl
 have e2 := hcj 2 _ (by decide) rfl
 have e3 := hcj 3 _ (by decide) rfl
 have e4 := hcj 4 _ (by decide) rfl
 have e5 := hcj 5 _ (by decide) rfl
 -- the Kids' footprint
 have hF5 : Kd.F k25 w P A5 p.f5.length p.f5 := by
  obtain ⟨c2, hF, hcc⟩ := hFp
  obtain ⟨X4, x4, X5, x5, rfl, y4, z4, y5, z5⟩ := k25_openF hF
  have h1 := hcc 5 _ rfl
  have h2 := pw_cell_below hB1 h1
  rw [← Nat.zero_add 5, add_field ad 0 5 (by decide), Addr_add_zero, e5] at h2
  have h3 := Option.some.inj h2
  injection h3 with ha _ _
  rw [ha]
  exact z5
 rw [hl] at hlo
 rw [hsm] at hsc
 have HR := Aside0.mk hr
 have HF5 := Aside0.mk hF5
 have HB1 := Aside0.mk hB1
 have HSC := Aside0.mk hsc
 have L5 := Aside0.mk l5
 clear hcz hcj hcl g4 g5 l4 l5 hr hB1 hKp hFp hF5 hsc hK0
 generalize hn : (p :: t).length = n at hc0 ⊢
 have hn1 : (0 : Int) < (n : Int) := by simp at hn; omega
 have hn2 : 0 < n := by omega
 have HN := Aside0.mk hn
 clear hn
 generalize hn4 : p.f4.length = n4 at hlo e4
 generalize hn5 : p.f5.length = n5 at hlo e5
 rw [hn4, hn5] at HSC
 rw [hn5] at L5 hkid HF5
 have HN5 := Aside0.mk hn5
 clear hn4 hn5
 go_enter Try.func51, Try.ntmps51
 go_wp2_with fail
 refine hlo.mono ?_; rintro e w2 ⟨rfl, hb2⟩
 have hblk := blk_below (blk_new w (.cells #[.int .i64 h.f0, .string h.f1, .int .i64 h.f2, .int .i64 h.f3, .slice B4 h.f4.length d4, .slice B5 h.f5.length d5] 25)) hb2
 have k0 := blk_cell hblk 0
 have k1 := blk_cell hblk 1
 have k2 := blk_cell hblk 2
 have k3 := blk_cell hblk 3
 have k4 := blk_cell hblk 4
 have k5 := blk_cell hblk 5
 have f0 := pw_cell_below hb2 e0
 have f1 := pw_cell_below hb2 e1
 have f2 := pw_cell_below hb2 e2
 have f3 := pw_cell_below hb2 e3
 have f4 := pw_cell_below hb2 e4
 have f5 := pw_cell_below hb2 e5
 have hsc2 := HSC.out w2.drew (below_drew hb2)
 have HB2 := Aside0.mk (HB1.out.trans (hb2.mono HB1.out.size))
 clear hlo e0 e1 e2 e3 e4 e5 hb2 hblk HSC
 go_wp2_with fail
 go_region_law (refine goes_ Try.func49 (by kernel_rfl) rfl #[.agg #[.int .i64 p.f0, .string p.f1, .int .i64 p.f2, .int .i64 p.f3, .slice A4 n4 c4, .slice A5 n5 c5], .agg #[.int .i64 h.f0, .string h.f1, .int .i64 h.f2, .int .i64 h.f3, .slice B4 h.f4.length d4, .slice B5 h.f5.length d5]] (by rfl) rfl rfl (by simp [Act.eval, Act.put]) ?_; refine hsc2.mono ?_; rintro e w3 ⟨rfl, hB3⟩; refine ⟨_, rfl, ?_⟩)
 all_goals have HB3 := Aside0.mk (below_of_drew hB3)
 all_goals
  have g5 := pw_cell_below HB3.out f5
  clear f0 f1 f2 f3 f4 f5 k0 k1 k2 k3 k4 k5 hsc2 hB3
  have HB3' := Aside0.mk (HB2.out.trans (HB3.out.mono HB2.out.size))
  obtain ⟨i0, hi0, _, hsz0, _⟩ := info_parts info25
  have hcut := cut_from (P := Try.prog) 22 25 .i64 Try.underlying22 hi0 6 hsz0 (some ad) n c0 1 (by decide) (by omega)
  have hF2 := Kd.F_cut (m := 1) (c := c0) (Kd.F_below HR.out HB3'.out) (by simp) (by rw [HN.out]; exact hc0)
  simp only [show (1 : Int).toNat = 1 from rfl] at hcut
  simp only [show k25.sz = 6 from rfl, List.drop_succ_cons, List.drop_zero] at hF2
  have hn3 : n - 1 = t.length := by rw [← HN.out]; simp
  rw [hn3] at hcut
  generalize (if c0 = 1 then some ad else (some ad).map fun x => x.add (1 * 6)) = AC at hcut hF2
  have HF2 := Aside0.mk hF2
  have hL5 := L5.out
  clear hF2 hi0 hsz0 hn3
  have hnn : (n5 : Int) ≤ (n5 : Int) := Int.le_refl _
  have hnz : (0 : Int) ≤ (n5 : Int) := by omega
  go_wp2_with fail
  go_still_tail 17, (by kernel_rfl)
  change wpList _ _ _ _ _ w3.drew
  refine wpList_append_full k25 rfl (.tmp 38) (.tmp 40) 22 25 rfl _ 88 Try.underlying22 info25 rfl (by decide) A5 AC (c0 - 1) p.f5 t P (by rw [HN5.out]; rfl) rfl (by rw [HN5.out]; exact Kd.F_drew (Kd.F_below HF5.out HB3'.out)) (Kd.F_drew HF2.out) (by rw [HN5.out]; omega) (by rw [HN5.out]; unfold maxLen; omega) ?_
  intro v4 w4 hV4 hB4
  have HV4 := Aside0.mk hV4
  have HB4 := Aside0.mk (below_of_drew hB4)
  clear hV4 hB4
  go_wp2
  go_ret2
  exact ⟨v4, rfl, Kd.V_mono HV4.out (fun k hk => hk.imp id (fun h => Nat.le_trans HB3'.out.size h)), HB3'.out.trans (HB4.out.mono HB3'.out.size)⟩
theorem below_calls (P : Nat → Prop) (A0 : Option Addr) (c0 : Nat) (r : List S25) (h : S25) (hcs : List Value) (w : World) (hr : Kd.F k25 w P A0 r.length r) (hc0 : r.length ≤ c0) (hK : k25.K w h hcs) (hh : h.f5.length ≤ 2) (h0 : 0 < r.length) (hlen : r.length ≤ 1000000) (hkid : ∀ p ∈ r, p.f5.length ≤ 1000000) :
 Calls Try.prog 51 #[.slice A0 r.length c0, .agg hcs.toArray] w fun e w' => ∃ v, e = .returned (.tuple #[v, .bool (belowO r h).isSome]) ∧ Kd.V k25 25 w' w.heap.size (fun k => P k ∨ w.heap.size ≤ k) v ((belowO r h).getD []) ∧ Below w.heap.size w w' := by
 match r, h0 with
 | p :: t, _ =>
  have ht : t.length ≤ 1000000 := by simp at hlen; omega
  have hk := hkid p (List.mem_cons_self ..)
  cases hl : looseB p with
  | true => rw [show belowO (p :: t) h = some (List.replicate h.f5.length wildS ++ t) by simp [belowO, hl]]; exact below_loose P A0 c0 p t h hcs w hr hc0 hK hh ht hl
  | false =>
   cases hs : sameB p h with
   | true => rw [show belowO (p :: t) h = some (p.f5 ++ t) by simp [belowO, hl, hs]]; exact below_same P A0 c0 p t h hcs w hr hc0 hK ht hk hl hs
   | false => rw [show belowO (p :: t) h = none by simp [belowO, hl, hs]]; exact below_none P A0 c0 p t h hcs w hr hc0 hK ht hk hl hs
def underL (rows : List (List S25)) (h : S25) : List (List S25) := rows.filterMap fun r => belowO r h
structure Fit (rows : List (List S25)) : Prop where
 len : rows.length ≤ 1000000
 row : ∀ r ∈ rows, 0 < r.length ∧ r.length ≤ 1000000 ∧ ∀ p ∈ r, p.f5.length ≤ 1000000
set_option maxHeartbeats 8000000 in
set_option maxRecDepth 100000 in
theorem under_calls (A0 : Option Addr) (c0 : Nat) (rows : List (List S25)) (h : S25) (hcs : List Value) (w : World) (hr : Kd.C (Kd.slice 25 k25) w A0 rows.length rows) (hK : k25.K w h hcs) (hh : h.f5.length ≤ 2) (hfit : Fit rows) :
 Calls Try.prog 52 #[.slice A0 rows.length c0, .agg hcs.toArray] w fun e w' => ∃ v, e = .returned v ∧ Kd.N (Kd.slice 25 k25) 22 w' w.heap.size (fun _ => True) v (underL rows h) ∧ Below w.heap.size w w' := by
 have hmax : rows.length ≤ 9223372036854775807 := hr.2.1
 have HK0 := Aside0.mk hK
 obtain ⟨B4, d4, B5, d5, rfl, m4, h4, m5, h5⟩ := k25_open hK
 clear h4 h5 hK m4 m5
 have HF := Aside0.mk (Kd.C_F (Kd.heap_slice 25 k25_heap) hr)
 have HFIT := Aside0.mk hfit
 have hlen := hfit.len
 clear hr hfit
 have HB1 := Aside0.mk (below_1 w (.cells #[.int .i64 h.f0, .string h.f1, .int .i64 h.f2, .int .i64 h.f3, .slice B4 h.f4.length d4, .slice B5 h.f5.length d5] 25))
 have HBL := Aside0.mk (blk_new w (.cells #[.int .i64 h.f0, .string h.f1, .int .i64 h.f2, .int .i64 h.f3, .slice B4 h.f4.length d4, .slice B5 h.f5.length d5] 25))
 go_enter Try.func52, Try.ntmps52
 go_wp2
 go_loopg [5, 12] rows.length (fun gg s5 s12 wr => ∃ (kk : Nat) (out : List (List S25)), kk ≤ rows.length ∧ rows.length - kk ≤ gg ∧ s12 = .int .i64 kk ∧ Aside0 (out = underL (rows.take kk) h) ∧ Aside0 (Kd.N (Kd.slice 25 k25) 22 wr (w.heap.size + 1) (fun _ => True) s5 out) ∧ Aside0 (Below (w.heap.size + 1) (w.alloc (.cells #[.int .i64 h.f0, .string h.f1, .int .i64 h.f2, .int .i64 h.f3, .slice B4 h.f4.length d4, .slice B5 h.f5.length d5] 25)) wr))
 case atStart => exact ⟨0, [], Nat.zero_le _, by omega, rfl, ⟨rfl⟩, ⟨Kd.N_nil _ _ _ _ _⟩, ⟨Below.refl _ _⟩⟩
 case round =>
  obtain ⟨kk, out, hkk, hg, rfl, HO, HN, HB⟩ := hrel
  have hszr := HB.out.size
  rw [World.size_alloc] at hszr
  have HBW := Aside0.mk (HB1.out.trans (HB.out.mono (Nat.le_succ _)))
  by_cases hlt : kk < rows.length
  ·
   have hltz : (kk : Int) < (rows.length : Int) := by omega
   have hkz : (0 : Int) ≤ (kk : Int) := by omega
   have hbk := (HB.out.block w.heap.size (Nat.lt_succ_self _)).trans HBL.out
   obtain ⟨ad, cs, e', hcl, hFK, hcc, _⟩ := Kd.F_get (Kd.F_below HF.out HBW.out) (rows[kk]) kk hkz hltz
   rw [Int.toNat_natCast, List.getD_eq_getElem?_getD, List.getElem?_eq_getElem hlt, Option.getD_some] at hFK
   obtain ⟨A1, c1, rfl, hl1, hF1⟩ := Kd.FK_slice_open hFK
   have h0 := hcc 0 _ rfl
   simp only [Int.toNat_natCast, show (Kd.slice 25 k25).sz = 1 from rfl, Nat.mul_one, Nat.add_zero] at h0
   subst e'
   have hfr := HFIT.out.row rows[kk] (List.getElem_mem _)
   have hbel := below_calls (fun k => k < w.heap.size) A1 c1 rows[kk] h [.int .i64 h.f0, .string h.f1, .int .i64 h.f2, .int .i64 h.f3, .slice B4 h.f4.length d4, .slice B5 h.f5.length d5] wr hF1 hl1 (k25.K_below HBW.out HK0.out) hh hfr.1 hfr.2.1 hfr.2.2
   clear hcc hcl hFK hF1 hfr hl1
   have HT := Aside0.mk (show underL (rows.take (kk + 1)) h = underL (rows.take kk) h ++ (belowO rows[kk] h).toList by
    unfold underL
    rw [List.take_succ_eq_append_getElem hlt, List.filterMap_append]
    cases hbb : belowO rows[kk] h <;> simp [hbb])
   generalize hbo : belowO rows[kk] h = bo at hbel HT
   generalize rows[kk].length = m1 at h0 hbel
   have k0 := blk_cell hbk 0
   have k1 := blk_cell hbk 1
   have k2 := blk_cell hbk 2
   have k3 := blk_cell hbk 3
   have k4 := blk_cell hbk 4
   have k5 := blk_cell hbk 5
   clear hbk hbo
   cases bo with
   | none =>
    go_wp2_with fail
    refine hbel.mono ?_; rintro e w2 ⟨v, rfl, hV, hB2⟩
    simp only [Option.isSome_none] at *
    have HN2 := Aside0.mk (Kd.N_below HN.out hB2)
    have HB2 := Aside0.mk (HB.out.trans (hB2.mono hszr))
    clear hbel hV hB2 h0 k0 k1 k2 k3 k4 k5
    go_wp2
    go_roundg (rows.length - (kk + 1))
    case measure => omega
    case rel => exact ⟨kk + 1, out, by omega, by omega, by go_num, ⟨by rw [HT.out, HO.out]; simp⟩, HN2, HB2⟩
   | some x =>
    go_wp2_with fail
    refine hbel.mono ?_; rintro e w2 ⟨v, rfl, hV, hB2⟩
    simp only [Option.isSome_some, Option.getD_some] at *
    have HN2 := Aside0.mk (Kd.N_below HN.out hB2)
    have hcond := Kd.N_lt HN.out
    have hbase := Kd.N_base HN.out
    obtain ⟨A2, c2, rfl⟩ := Kd.V_slice hV
    have HV := Aside0.mk (Kd.V_at hV)
    have HB2 := Aside0.mk (HB.out.trans (hB2.mono hszr))
    have HO2 := Aside0.mk hszr
    have HC2 := Aside0.mk (And.intro hcond hbase)
    have HS2 := Aside0.mk hB2.size
    clear hbel hV hB2 h0 k0 k1 k2 k3 k4 k5 hcond hbase
    go_wp2_with (at_builtin; refine Kd.N_append (Kd.slice 25 k25) (w0 := w.alloc (.cells #[.int .i64 h.f0, .string h.f1, .int .i64 h.f2, .int .i64 h.f3, .slice B4 h.f4.length d4, .slice B5 h.f5.length d5] 25)) (w.heap.size + 1) rfl (.tmp 23) (.tmp 25) 53 22 _ 24 rfl Try.underlying53 info22 rfl (by decide) (by omega) u5 out x [.slice A2 x.length c2] (fun _ => True) (fun k => k < w.heap.size ∨ wr.heap.size ≤ k) rfl rfl ?aP ?aK (fun _ _ => trivial) ?aN ?aB ?aS ?aL ?_)
    case aP => exact Kd.FK_slice_mk HV.out.2.1 HV.out.2.2
    case aK => exact fun k hk he => by have h1 := HC2.out.1 k he.symm; have h2 := HC2.out.2 k he.symm; rcases hk with hk | hk <;> omega
    case aN => exact HN2.out
    case aB => exact HB2.out
    case aS => exact Nat.le_trans hszr HS2.out
    case aL => have h1 : out.length ≤ rows.length := by rw [HO.out]; exact Nat.le_trans (List.length_filterMap_le _ _) (by rw [List.length_take]; omega)
               omega
    intro v1 w3 hN3 hB3 _ _
    have HN3 := Aside0.mk hN3
    have HB3 := Aside0.mk hB3
    clear hN3 hB3
    go_wp2
    go_roundg (rows.length - (kk + 1))
    case measure => omega
    case rel => exact ⟨kk + 1, out ++ [x], by omega, by omega, by go_num, ⟨by rw [HT.out, HO.out]; rfl⟩, HN3, HB3⟩
  ·
   have hltz : ¬ (kk : Int) < (rows.length : Int) := by omega
   obtain rfl : kk = rows.length := by omega
   have HO2 := Aside0.mk (show out = underL rows h by rw [HO.out, List.take_length])
   clear HO
   go_wp2
   go_ret
   exact ⟨_, rfl, by rw [← HO2.out]; exact Kd.N_lower HN.out (Nat.le_succ _), HBW.out⟩
end Go.Proofs.Ytikhkcnbabpneaa.P