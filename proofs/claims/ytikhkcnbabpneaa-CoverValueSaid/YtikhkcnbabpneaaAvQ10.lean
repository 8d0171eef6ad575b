/- Plain laws: what the reference's Values tells. -/
import Derived.Test.YtikhkcnbabpneaaAvPx43
import Derived.Test.YtikhkcnbabpneaaAvPx46
import Derived.Test.YtikhkcnbabpneaaAvH18
import Derived.Test.YtikhkcnbabpneaaAvPx38
namespace Go.Proofs.Ytikhkcnbabpneaa.P
open Go.RowKit Go.Proofs.YtikhkcnbabpneaaW.PrintWords Go.Proofs.YtikhkcnbabpneaaW.PrintLast Go.Proofs.YtikhkcnbabpneaaW.PrintMore
set_option linter.unusedVariables false
set_option linter.unusedSimpArgs false
theorem no_bytes : (⟨#[]⟩ : ByteArray).toList = [] := by decide +kernel
def Wd : Nat → Nat
 | 0 => 1
 | d + 1 => 3 * (Wd d * Wd d) + 3
theorem Wd_pos : ∀ d, 1 ≤ Wd d
 | 0 => Nat.le_refl 1
 | d + 1 => by unfold Wd; omega
theorem Wd_mono : ∀ d, Wd d ≤ Wd (d + 1)
 | d => by
  have h := Nat.mul_le_mul_right (Wd d) (Wd_pos d)
  show Wd d ≤ 3 * (Wd d * Wd d) + 3
  omega
theorem Wd_le {a b : Nat} (h : a ≤ b) : Wd a ≤ Wd b := by
 induction h with
 | refl => exact Nat.le_refl _
 | step _ ih => exact Nat.le_trans ih (Wd_mono _)
theorem Wd_three {d : Nat} (h : d ≤ 3) : Wd d ≤ 36966 := Nat.le_trans (Wd_le h) (by decide)
def isCon (x : S25) : Bool := x.f0 == 5
def FitV (cons : List S61) : Nat → List S25 → S40 → Prop
 | 0, l, _ => ∀ x ∈ l, isCon x = false
 | d + 1, l, v => (∃ x ∈ l, isCon x = true) → ∃ c ∈ cons, (∀ x ∈ l, isCon x = true → (findC cons x.f1).f1.toList = c.f1.toList) ∧ v.f0.toList = c.f0.toList ∧ (v.f2.length : Int) = c.f3 ∧ ∀ i (hi : i < v.f2.length), FitV cons d (rpartsL l c.f0 i) v.f2[i]
theorem fit_flat {cons : List S61} (d : Nat) {l : List S25} (v : S40) (h : ∀ x ∈ l, isCon x = false) : FitV cons d l v := by
 cases d with
 | zero => exact h
 | succ d =>
  intro ⟨x, hx, hc⟩
  rw [h x hx] at hc; cases hc
theorem rdV_at (l : List S40) (i : Nat) (h : i < l.length) : rd_T40 l (i : Int) = l[i] := by
 unfold rd_T40
 simp [List.getD_eq_getElem?_getD, List.getElem?_eq_getElem h]
theorem eta40 (s : S40) : (⟨s.f0, s.f1, s.f2⟩ : S40) = s := by cases s; rfl
theorem v_l2 (xs : List S40) (hx : xs.length ≤ 1000000) (i : Int) : ∀ d j, j + d = xs.length → ∀ g : Int, ∃ g', ∀ {v}, Ends (fun k => selvageref09_Values.l1 k g' xs (wrap64 (i + 1))) v → Ends (fun k => selvageref09_Values.l2 k g xs i (j : Int)) v := by
 intro d
 induction d with
 | zero =>
  intro j hj g
  refine ⟨g, fun h => Ends.step h fun k => ?_⟩
  rw [selvageref09_Values.l2, if_neg (by omega)]
 | succ d ih =>
  intro j hj g
  have hlt : j < xs.length := by omega
  obtain ⟨a, ha⟩ := ih (j + 1) (by omega) (wrap64 (g + 1))
  obtain ⟨b, hb⟩ := ih (j + 1) (by omega) g
  by_cases e : xs[j].f1 = g
  ·
   refine ⟨a, fun h => Ends.step (ha h) fun k => ?_⟩
   rw [selvageref09_Values.l2, if_pos (by omega), if_pos (by omega), rdV_at xs j hlt, if_pos e, wrap_succ (by omega)]
  ·
   refine ⟨b, fun h => Ends.step (hb h) fun k => ?_⟩
   rw [selvageref09_Values.l2, if_pos (by omega), if_pos (by omega), rdV_at xs j hlt, if_neg e, wrap_succ (by omega)]
theorem v_l1 (xs : List S40) (hx : xs.length ≤ 1000000) : ∀ d i, i + d = xs.length → ∀ g : Int, ∃ g' : Int, Ends (fun k => selvageref09_Values.l1 k g xs (i : Int)) (xs ++ [(⟨(⟨#[]⟩ : ByteArray), g', ([] : List S40)⟩ : S40)]) := by
 intro d
 induction d with
 | zero =>
  intro i hi g
  refine ⟨g, Ends.step (g := fun _ => some _) (Ends.const fun _ => rfl) fun k => ?_⟩
  rw [selvageref09_Values.l1, if_neg (by omega), if_pos (by omega)]
 | succ d ih =>
  intro i hi g
  obtain ⟨a, ha⟩ := v_l2 xs hx (i : Int) xs.length 0 (by omega) g
  obtain ⟨b, hb⟩ := ih (i + 1) (by omega) a
  refine ⟨b, Ends.step (ha ?_) fun k => ?_⟩
  ·
   rw [wrap_succ (by omega)]; exact hb
  ·
   rw [selvageref09_Values.l1, if_pos (by omega)]
   rfl
def ext (s w : S40) : S40 := ⟨s.f0, 0, s.f2 ++ [w]⟩
theorem v_l6 (cons : List S61) (l : List S25) (o : ByteArray) (x7 : List S40) (c : Int) (some_ own : List S40) (q : Int) (a : Nat) (ha : a < some_.length) (hs : some_.length ≤ 1000000) (hp : some_[a].f2.length ≤ 10) (ho : own.length ≤ 1000000) :
 ∀ d j acc, j + d = own.length → acc.length + d ≤ 2900000000000 → ∀ {v}, Ends (fun k => selvageref09_Values.l5 k cons l o x7 c some_ q own (acc ++ (own.drop j).map (ext some_[a])) ((a + 1 : Nat) : Int)) v → Ends (fun k => selvageref09_Values.l6 k cons l o x7 c some_ q own acc (a : Int) (j : Int)) v := by
 intro d
 induction d with
 | zero =>
  intro j acc hj hac v h
  rw [List.drop_of_length_le (by omega), List.map_nil, List.append_nil] at h
  refine Ends.step h fun k => ?_
  rw [selvageref09_Values.l6, if_neg (by omega), wrap_succ (by omega)]
 | succ d ih =>
  intro j acc hj hac v h
  have hlt : j < own.length := by omega
  have hd : own.drop j = own[j] :: own.drop (j + 1) := List.drop_eq_getElem_cons hlt
  rw [hd, List.map_cons, List.append_cons] at h
  have h2 := ih (j + 1) (acc ++ [ext some_[a] own[j]]) (by omega) (by simp; omega) h
  refine Ends.step h2 fun k => ?_
  rw [selvageref09_Values.l6, if_pos (by omega), if_pos (by omega), if_pos (by omega), rdV_at some_ a ha, if_pos (by simp; omega)]
  simp only [Option.bind_some, List.nil_append]
  rw [if_pos (by omega), if_pos (by omega), if_pos (by omega), rdV_at own j hlt, eta40, wrap_succ (by omega)]
  rfl
theorem v_l5 (cons : List S61) (l : List S25) (o : ByteArray) (x7 : List S40) (c : Int) (some_ own : List S40) (q : Int) (hs : some_.length ≤ 1000000) (hp : ∀ s ∈ some_, s.f2.length ≤ 10) (ho : own.length ≤ 1000000) :
 ∀ d a acc, a + d = some_.length → acc.length + d * own.length ≤ 2900000000000 → ∀ {v}, Ends (fun k => selvageref09_Values.l4 k cons l o x7 c (acc ++ (some_.drop a).flatMap fun s => own.map (ext s)) (wrap64 (q + 1))) v → Ends (fun k => selvageref09_Values.l5 k cons l o x7 c some_ q own acc (a : Int)) v := by
 intro d
 induction d with
 | zero =>
  intro a acc hj hac v h
  rw [List.drop_of_length_le (by omega), List.flatMap_nil, List.append_nil] at h
  refine Ends.step h fun k => ?_
  rw [selvageref09_Values.l5, if_neg (by omega)]
 | succ d ih =>
  intro a acc hj hac v h
  have hlt : a < some_.length := by omega
  have hd : some_.drop a = some_[a] :: some_.drop (a + 1) := List.drop_eq_getElem_cons hlt
  rw [hd, List.flatMap_cons, ← List.append_assoc] at h
  rw [Nat.add_mul, Nat.one_mul] at hac
  have h2 := ih (a + 1) (acc ++ own.map (ext some_[a])) (by omega) (by simp; omega) h
  have h3 := v_l6 cons l o x7 c some_ own q a hlt hs (hp _ (List.getElem_mem _)) ho own.length 0 acc (by omega) (by omega) (v := v) (by rw [List.drop_zero]; exact h2)
  refine Ends.step h3 fun k => ?_
  rw [selvageref09_Values.l5, if_pos (by omega)]
  rfl
structure Some_ (cons : List S61) (d : Nat) (l : List S25) (c : S61) (i : Nat) (xs : List S40) : Prop where
 ne : xs ≠ []
 sh : ∀ v ∈ xs, v.f0 = c.f0 ∧ v.f2.length = i ∧ ∀ j (hj : j < v.f2.length), FitV cons d (rpartsL l c.f0 j) v.f2[j]
theorem some_next {cons : List S61} {d : Nat} {l : List S25} {c : S61} {i : Nat} {xs own : List S40} (h : Some_ cons d l c i xs) (hn : own ≠ []) (hf : ∀ w ∈ own, FitV cons d (rpartsL l c.f0 i) w) : Some_ cons d l c (i + 1) (xs.flatMap fun s => own.map (ext s)) := by
 refine ⟨?_, fun v hv => ?_⟩
 ·
  obtain ⟨x, t, rfl⟩ := List.exists_cons_of_ne_nil h.ne
  obtain ⟨y, u, rfl⟩ := List.exists_cons_of_ne_nil hn
  simp
 ·
  obtain ⟨s, hs, hv⟩ := List.mem_flatMap.1 hv
  obtain ⟨w, hw, rfl⟩ := List.mem_map.1 hv
  obtain ⟨h1, h2, h3⟩ := h.sh s hs
  refine ⟨h1, by simp [ext, h2], fun j hj => ?_⟩
  by_cases e : j < s.f2.length
  ·
   have : (ext s w).f2[j] = s.f2[j] := by simp only [ext]; rw [List.getElem_append_left e]
   rw [this]; exact h3 j e
  ·
   have hj' : j = i := by simp [ext] at hj; omega
   have : (ext s w).f2[j] = w := by
    simp only [ext]; rw [List.getElem_append_right (by omega)]; simp
   rw [this, hj']; exact hf w hw
theorem flat_len (xs own : List S40) : (xs.flatMap fun s => own.map (ext s)).length = xs.length * own.length := by
 induction xs with
 | nil => simp
 | cons x t ih => rw [List.flatMap_cons, List.length_append, ih, List.length_map, List.length_cons, Nat.add_mul, Nat.one_mul]; omega
def ValsIs (cons : List S61) (d : Nat) (l : List S25) (B : Nat) (V : List S40) : Prop := V ≠ [] ∧ V.length ≤ B ∧ ∀ v ∈ V, FitV cons d l v
theorem v_l4 (cons : List S61) (l : List S25) (o : ByteArray) (x7 : List S40) (d B : Nat) (hB : 1 ≤ B) (hB2 : B ≤ 1000000) (hcl : cons.length ≤ 100000) (hl : l.length ≤ 1000000) (ci : Nat) (hci : ci < cons.length) (har : 0 ≤ cons[ci].f3 ∧ cons[ci].f3 ≤ 2)
 (hok : ∀ i : Nat, (i : Int) < cons[ci].f3 → rpartsOk l cons[ci].f0 i = true)
 (hv : ∀ i : Nat, (i : Int) < cons[ci].f3 → ∃ V, Ends (fun k => selvageref09_Values.f k cons (rpartsL l cons[ci].f0 i)) V ∧ ValsIs cons d (rpartsL l cons[ci].f0 i) B V) :
 ∀ (n i : Nat) (some_ : List S40), (i : Int) + n = cons[ci].f3 → Some_ cons d l cons[ci] i some_ → some_.length * B ^ n ≤ B * B → some_.length ≤ B ∨ n = 0 → x7.length + B * B ≤ 2900000000000 → ∃ ys, Some_ cons d l cons[ci] (i + n) ys ∧ ys.length ≤ B * B ∧
  ∀ {v}, Ends (fun k => selvageref09_Values.l3 k cons l o (x7 ++ ys) ((ci + 1 : Nat) : Int)) v → Ends (fun k => selvageref09_Values.l4 k cons l o x7 (ci : Int) some_ (i : Int)) v := by
 intro n
 induction n with
 | zero =>
  intro i some_ hi hS hlen _ h7
  rw [Nat.pow_zero, Nat.mul_one] at hlen
  refine ⟨some_, hS, hlen, fun {v} h => Ends.step h fun k => ?_⟩
  rw [selvageref09_Values.l4, if_pos (by omega), if_pos (by omega), rdC_at cons ci hci, if_neg (by omega), if_pos (by omega), wrap_succ (by omega)]
 | succ n ih =>
  intro i some_ hi hS hlen hlB h7
  obtain ⟨V, hV, hne, hVB, hfit⟩ := hv i (by omega)
  have hlB' : some_.length ≤ B := by rcases hlB with h | h; exact h; omega
  have hps := rparts_ends l cons[ci].f0 i hl (by omega) (hok i (by omega))
  have hnx := some_next hS hne hfit
  have hlen2 : (some_.flatMap fun s => V.map (ext s)).length * B ^ n ≤ B * B := by
   rw [flat_len]
   refine Nat.le_trans ?_ hlen
   rw [Nat.pow_succ, Nat.mul_comm (B ^ n) B, ← Nat.mul_assoc]
   exact Nat.mul_le_mul_right _ (Nat.mul_le_mul_left _ hVB)
  have hmul : some_.length * V.length ≤ B * B := Nat.mul_le_mul hlB' hVB
  have hBB : B * B ≤ 1000000 * 1000000 := Nat.mul_le_mul hB2 hB2
  obtain ⟨ys, hys, hyl, hgo⟩ := ih (i + 1) (some_.flatMap fun s => V.map (ext s)) (by omega) hnx hlen2 (by
   rcases Nat.eq_zero_or_pos n with h | h
   ·
    exact .inr h
   ·
    left
    have hn1 : n = 1 := by omega
    have hi0 : i = 0 := by omega
    rw [hn1, Nat.pow_one] at hlen2
    exact Nat.le_of_mul_le_mul_right hlen2 hB) h7
  refine ⟨ys, by have : i + (n + 1) = i + 1 + n := by omega
                 rw [this]; exact hys, hyl, fun {v} h => ?_⟩
  have h5 := v_l5 cons l o x7 (ci : Int) some_ V (i : Int) (by omega) (fun s hs => by have := (hS.sh s hs).2.1; omega) (by omega) some_.length 0 [] (by omega) (by simp; omega) (v := v) (by
   rw [List.drop_zero, List.nil_append, wrap_succ (by omega)]; exact hgo h)
  refine Ends.step (Ends.bind hps (g := fun k t325 => ((selvageref09_Values.f k cons t325).bind fun t328 => (selvageref09_Values.l5 k cons l o x7 (ci : Int) some_ (i : Int) t328 ([] : List (S40)) 0))) (Ends.bind hV (g := fun k t328 => selvageref09_Values.l5 k cons l o x7 (ci : Int) some_ (i : Int) t328 ([] : List (S40)) 0) h5)) fun k => ?_
  show selvageref09_Values.l4 (k + 1) cons l o x7 (ci : Int) some_ (i : Int) = _
  rw [selvageref09_Values.l4, if_pos (by omega), if_pos (by omega), rdC_at cons ci hci, if_pos (by omega)]
theorem v_l3 (cons : List S61) (l : List S25) (o : ByteArray) (d B : Nat) (hB : 1 ≤ B) (hB2 : B ≤ 1000000) (hcl : cons.length ≤ 100000) (hl : l.length ≤ 1000000) (har : ∀ c ∈ cons, 0 ≤ c.f3 ∧ c.f3 ≤ 2)
 (hok : ∀ c ∈ cons, c.f1.toList = o.toList → ∀ i : Nat, (i : Int) < c.f3 → rpartsOk l c.f0 i = true)
 (hv : ∀ c ∈ cons, c.f1.toList = o.toList → ∀ i : Nat, (i : Int) < c.f3 → ∃ V, Ends (fun k => selvageref09_Values.f k cons (rpartsL l c.f0 i)) V ∧ ValsIs cons d (rpartsL l c.f0 i) B V)
 (hty : ∀ x ∈ l, isCon x = true → (findC cons x.f1).f1.toList = o.toList) :
 ∀ n ci x7, ci + n = cons.length → (∀ v ∈ x7, FitV cons (d + 1) l v) → x7.length + ((cons.drop ci).filter (ofType o)).length * (B * B) ≤ 2900000000000 →
 ∃ V, Ends (fun k => selvageref09_Values.l3 k cons l o x7 (ci : Int)) V ∧ (x7 ≠ [] ∨ ((cons.drop ci).filter (ofType o)) ≠ [] → V ≠ []) ∧ V.length ≤ x7.length + ((cons.drop ci).filter (ofType o)).length * (B * B) ∧ ∀ v ∈ V, FitV cons (d + 1) l v := by
 intro n
 induction n with
 | zero =>
  intro ci x7 hi hx7 hlen
  rw [List.drop_of_length_le (by omega)] at hlen ⊢
  refine ⟨x7, Ends.step (g := fun _ => some x7) (Ends.const fun _ => rfl) fun k => ?_, by simp, by simp, hx7⟩
  rw [selvageref09_Values.l3, if_neg (by omega)]
 | succ n ih =>
  intro ci x7 hi hx7 hlen
  have hlt : ci < cons.length := by omega
  have hd : cons.drop ci = cons[ci] :: cons.drop (ci + 1) := List.drop_eq_getElem_cons hlt
  have hmem : cons[ci] ∈ cons := List.getElem_mem _
  rw [hd, List.filter_cons] at hlen ⊢
  by_cases e : cons[ci].f1.toList = o.toList
  ·
   have hty1 : ofType o cons[ci] = true := by unfold ofType; simpa using e
   rw [hty1] at hlen ⊢
   simp only [if_true, List.length_cons, Nat.add_mul, Nat.one_mul] at hlen ⊢
   have h0 : Some_ cons d l cons[ci] 0 [(⟨cons[ci].f0, 0, ([] : List (S40))⟩ : S40)] := ⟨by simp, fun v hv => by
    rw [List.mem_singleton.1 hv]
    exact ⟨rfl, rfl, fun j hj => absurd hj (Nat.not_lt_zero _)⟩⟩
   have ha := har _ hmem
   obtain ⟨ys, hys, hyl, hgo⟩ := v_l4 cons l o x7 d B hB hB2 hcl hl ci hlt ha (hok _ hmem e) (hv _ hmem e) cons[ci].f3.toNat 0 _ (by omega) h0 (by
    have : cons[ci].f3.toNat = 0 ∨ cons[ci].f3.toNat = 1 ∨ cons[ci].f3.toNat = 2 := by omega
    have hBB : B ≤ B * B := by
     have := Nat.mul_le_mul_right B hB
     omega
    rcases this with h | h | h
    ·
     rw [h]; simp; omega
    ·
     rw [h]; simp; omega
    ·
     rw [h]; simp [Nat.pow_succ]) (by left; simpa using hB) (by omega)
   have hfy : ∀ v ∈ ys, FitV cons (d + 1) l v := by
    intro v hv _
    obtain ⟨h1, h2, h3⟩ := hys.sh v hv
    refine ⟨cons[ci], hmem, fun x hx hc => by rw [hty x hx hc, e], by rw [h1], by rw [h2]; omega, fun i hi' => h3 i hi'⟩
   obtain ⟨V, hV, hne, hVl, hVf⟩ := ih (ci + 1) (x7 ++ ys) (by omega) (fun v hv => by
    rcases List.mem_append.1 hv with h | h
    ·
     exact hx7 v h
    ·
     exact hfy v h) (by rw [List.length_append]; omega)
   rw [List.length_append] at hVl
   refine ⟨V, Ends.step (hgo hV) fun k => ?_, fun _ => hne (.inl (by have := hys.ne; simp [this])), by omega, hVf⟩
   rw [selvageref09_Values.l3, if_pos (by omega), if_pos (by omega), rdC_at cons ci hlt, if_pos e]
   rfl
  ·
   have hty1 : ofType o cons[ci] = false := by unfold ofType; simpa using e
   rw [hty1] at hlen ⊢
   simp only [Bool.false_eq_true, if_false] at hlen ⊢
   obtain ⟨V, hV, hne, hVl, hVf⟩ := ih (ci + 1) x7 (by omega) hx7 hlen
   refine ⟨V, Ends.step hV fun k => ?_, hne, hVl, hVf⟩
   rw [selvageref09_Values.l3, if_pos (by omega), if_pos (by omega), rdC_at cons ci hlt, if_neg e, wrap_succ (by omega)]
def intV (x : S25) : S40 := ⟨⟨#[]⟩, x.f2, []⟩
def intsL (l : List S25) : List S40 := (l.filter fun x => x.f0 == 1).map intV
def lastT (cons : List S61) : List S25 → ByteArray → ByteArray
 | [], o => o
 | x :: t, o => lastT cons t (if isCon x then (findC cons x.f1).f1 else o)
theorem v_l0 (cons : List S61) (hcl : cons.length ≤ 100000) (l : List S25) (hl : l.length ≤ 1000000) (hcon : ∀ x ∈ l, isCon x = true → cons.any (isName x.f1) = true) :
 ∀ d i o xs, i + d = l.length → xs.length ≤ i → ∀ {v}, Ends (fun k => if (lastT cons (l.drop i) o).toList = ([] : List UInt8) then selvageref09_Values.l1 k 0 (xs ++ intsL (l.drop i)) 0 else selvageref09_Values.l3 k cons l (lastT cons (l.drop i) o) (xs ++ intsL (l.drop i)) 0) v →
  Ends (fun k => selvageref09_Values.l0 k cons l o 0 xs (i : Int)) v := by
 intro d
 induction d with
 | zero =>
  intro i o xs hi hx v h
  rw [List.drop_of_length_le (by omega)] at h
  refine Ends.step h fun k => ?_
  rw [selvageref09_Values.l0, if_neg (by omega)]
  show _ = if o.toList = [] then selvageref09_Values.l1 k 0 (xs ++ []) 0 else selvageref09_Values.l3 k cons l o (xs ++ []) 0
  rw [List.append_nil]
 | succ d ih =>
  intro i o xs hi hx v h
  have hlt : i < l.length := by omega
  have hd : l.drop i = l[i] :: l.drop (i + 1) := List.drop_eq_getElem_cons hlt
  rw [hd] at h
  by_cases h1 : l[i].f0 = 1
  ·
   have hc : isCon l[i] = false := by unfold isCon; rw [h1]; rfl
   have e1 : lastT cons (l[i] :: l.drop (i + 1)) o = lastT cons (l.drop (i + 1)) o := by rw [lastT, hc]; rfl
   have e2 : xs ++ intsL (l[i] :: l.drop (i + 1)) = (xs ++ [intV l[i]]) ++ intsL (l.drop (i + 1)) := by
    unfold intsL
    rw [List.filter_cons, if_pos (by simpa using h1), List.map_cons, List.append_cons]
   rw [e1, e2] at h
   have h2 := ih (i + 1) o (xs ++ [intV l[i]]) (by omega) (by simp; omega) h
   refine Ends.step h2 fun k => ?_
   rw [selvageref09_Values.l0, if_pos (by omega), if_pos (by omega), rdT_at l i hlt, if_pos h1, if_pos (by omega)]
   simp only [Option.bind_some]
   rw [if_neg (by omega), wrap_succ (by omega)]
   rfl
  ·
   have e2 : xs ++ intsL (l[i] :: l.drop (i + 1)) = xs ++ intsL (l.drop (i + 1)) := by
    unfold intsL
    rw [List.filter_cons, if_neg (by simpa using h1)]
   rw [e2] at h
   by_cases h5 : l[i].f0 = 5
   ·
    have hc : isCon l[i] = true := by unfold isCon; simpa using h5
    have e1 : lastT cons (l[i] :: l.drop (i + 1)) o = lastT cons (l.drop (i + 1)) (findC cons l[i].f1).f1 := by rw [lastT, hc]; rfl
    rw [e1] at h
    have h2 := ih (i + 1) _ xs (by omega) (by omega) h
    obtain ⟨n, hn, hni⟩ := find_ends cons l[i].f1 (by omega)
    rcases hni with ⟨ha, _⟩ | ⟨_, hn1, hn2, hrd⟩
    ·
     rw [hcon _ (List.getElem_mem _) hc] at ha; cases ha
    ·
     refine Ends.step (Ends.bind hn (g := fun k t309 => (if 0 ≤ t309 then (if t309 < (cons.length : Int) then (selvageref09_Values.l0 k cons l ((rd_T61 cons t309).f1) 0 xs (wrap64 ((i : Int) + 1))) else (none)) else (none))) (Ends.congr h2 fun k => ?_)) fun k => ?_
     ·
      show (if 0 ≤ n then (if n < (cons.length : Int) then (selvageref09_Values.l0 k cons l ((rd_T61 cons n).f1) 0 xs (wrap64 ((i : Int) + 1))) else (none)) else (none)) = _
      rw [if_pos hn1, if_pos hn2, hrd, wrap_succ (by omega)]
     ·
      show selvageref09_Values.l0 (k + 1) cons l o 0 xs (i : Int) = _
      rw [selvageref09_Values.l0, if_pos (by omega), if_pos (by omega), rdT_at l i hlt, if_neg h1, if_pos h5]
   ·
    have hc : isCon l[i] = false := by unfold isCon; simpa using h5
    have e1 : lastT cons (l[i] :: l.drop (i + 1)) o = lastT cons (l.drop (i + 1)) o := by rw [lastT, hc]; rfl
    rw [e1] at h
    have h2 := ih (i + 1) o xs (by omega) (by omega) h
    refine Ends.step h2 fun k => ?_
    rw [selvageref09_Values.l0, if_pos (by omega), if_pos (by omega), rdT_at l i hlt, if_neg h1, if_neg h5, wrap_succ (by omega)]
theorem lastT_or (cons : List S61) : ∀ (l : List S25) (o : ByteArray), (lastT cons l o = o ∧ ∀ x ∈ l, isCon x = false) ∨ (∃ x ∈ l, isCon x = true ∧ lastT cons l o = (findC cons x.f1).f1) := by
 intro l
 induction l with
 | nil => intro o; exact .inl ⟨rfl, by simp⟩
 | cons x t ih =>
  intro o
  rw [lastT]
  rcases ih (if isCon x then (findC cons x.f1).f1 else o) with ⟨h, hn⟩ | ⟨y, hy, hc, h⟩
  ·
   cases hx : isCon x with
   | true =>
    right
    exact ⟨x, List.mem_cons_self .., hx, by rw [hx] at h; exact h⟩
   | false =>
    left
    rw [hx] at h
    refine ⟨h, fun y hy => ?_⟩
    rcases List.mem_cons.1 hy with rfl | hy
    ·
     exact hx
    ·
     exact hn y hy
  ·
   right
   exact ⟨y, List.mem_cons_of_mem _ hy, hc, h⟩
structure Fine (cons : List S61) : Prop where
 good : Good cons
 typ : ∀ c ∈ cons, c.f1.toList ≠ []
 three : ∀ c ∈ cons, (cons.filter (ofType c.f1)).length ≤ 3
theorem rparts_dep {l : List S25} {d : Nat} (h : ∀ p ∈ l, dep p ≤ d + 1) (a : ByteArray) (i : Nat) : ∀ p ∈ rpartsL l a i, dep p ≤ d := by
 intro p hp
 obtain ⟨x, hx, hxy⟩ := List.mem_filterMap.1 hp
 unfold rpick at hxy
 split at hxy
 ·
  have hmem : p ∈ x.f5 := List.mem_of_getElem? hxy
  have h1 := h x hx
  rw [dep_eq] at h1
  have := depL_mem hmem
  omega
 ·
  cases hxy
theorem values_ends {cons : List S61} (hF : Fine cons) : ∀ d m (l : List S25), d ≤ 4 → Pats cons m l → (∀ p ∈ l, dep p ≤ d) → l.length ≤ 5 → TogP cons m l → ∃ V, Ends (fun k => selvageref09_Values.f k cons l) V ∧ ValsIs cons d l (Wd d) V := by
 intro d
 induction d with
 | zero =>
  intro m l _ hP hd hl ht
  have hnil : l = [] := by
   cases l with
   | nil => rfl
   | cons x t => have := hd x (List.mem_cons_self ..); rw [dep_eq] at this; omega
  subst hnil
  obtain ⟨g, hg⟩ := v_l1 [] (by simp) 0 0 rfl 0
  refine ⟨_, Ends.step (v_l0 cons hF.good.len [] (by simp) (by simp) 0 0 ⟨#[]⟩ [] rfl (by simp) (Ends.congr hg fun k => ?_)) fun k => ?_, ⟨by simp, by simp [Wd], fun v _ => by intro x hx; cases hx⟩⟩
  ·
   show (if (⟨#[]⟩ : ByteArray).toList = [] then _ else _) = _
   rw [if_pos no_bytes]; rfl
  ·
   show selvageref09_Values.f (k + 1) cons [] = _
   rw [selvageref09_Values.f]; rfl
 | succ d ih =>
  intro m l hd4 hP hd hl ht
  have hl6 : l.length ≤ 1000000 := by omega
  have hW := Wd_three (d := d) (by omega)
  have hok : ∀ x ∈ l, okB cons x = true := fun x hx => (hP.1 x hx).1
  have hcon : ∀ x ∈ l, isCon x = true → cons.any (isName x.f1) = true := fun x hx hc => (ok_con (hok x hx) (by unfold isCon at hc; simpa using hc)).2.1
  have h0 := fun {v} => v_l0 cons hF.good.len l hl6 hcon l.length 0 ⟨#[]⟩ [] (by omega) (by simp) (v := v)
  simp only [List.drop_zero, List.nil_append] at h0
  have hf : ∀ {v}, Ends (fun k => if (lastT cons l ⟨#[]⟩).toList = ([] : List UInt8) then selvageref09_Values.l1 k 0 (intsL l) 0 else selvageref09_Values.l3 k cons l (lastT cons l ⟨#[]⟩) (intsL l) 0) v → Ends (fun k => selvageref09_Values.f k cons l) v := by
   intro v h
   refine Ends.step (h0 h) fun k => ?_
   rw [selvageref09_Values.f]; rfl
  have hil : (intsL l).length ≤ 5 := by unfold intsL; rw [List.length_map]; exact Nat.le_trans (List.length_filter_le _ _) hl
  rcases lastT_or cons l ⟨#[]⟩ with ⟨e, hn⟩ | ⟨x, hx, hc, e⟩
  ·
   obtain ⟨g, hg⟩ := v_l1 (intsL l) (by omega) (intsL l).length 0 (by omega) 0
   refine ⟨_, hf (Ends.congr hg fun k => by rw [e, if_pos no_bytes]; rfl), ⟨by simp, ?_, fun v _ => fit_flat _ v hn⟩⟩
   have := Wd_pos d
   have : 1 ≤ Wd d * Wd d := Nat.mul_le_mul (Wd_pos d) (Wd_pos d)
   rw [List.length_append]; simp only [Wd, List.length_singleton]; omega
  ·
   have hx5 : x.f0 = 5 := by unfold isCon at hc; simpa using hc
   have hxl : looseB x = false := by unfold looseB; rw [hx5]; rfl
   have hxk := ok_con (hok x hx) hx5
   have hcm := findC_mem hxk.2.1
   have hne : ¬ (lastT cons l ⟨#[]⟩).toList = [] := by rw [e]; exact hF.typ _ hcm.1
   obtain ⟨m', rfl⟩ : ∃ m', m = m' + 1 := by
    cases m with
    | zero => have := (hP.1 x hx).2; have := nodes_pos x; omega
    | succ m' => exact ⟨m', rfl⟩
   have hkind : ∀ y ∈ l, looseB y = false → y.f0 = 5 ∧ (ownOf cons y).toList = (findC cons x.f1).f1.toList := by
    intro y hy ly
    have h := (unlike_own (hok x hx) (hok y hy) hxl ly).1 (ht.1 x hx y hy hxl ly)
    refine ⟨h.1.trans hx5, ?_⟩
    rw [h.2]; unfold ownOf; rw [hx5]; rfl
   have hints : intsL l = [] := by
    unfold intsL
    rw [List.map_eq_nil_iff, List.filter_eq_nil_iff]
    intro y hy h1
    have h1' : y.f0 = 1 := by simpa using h1
    have := (hkind y hy (by unfold looseB; rw [h1']; rfl)).1
    omega
   have hpt := (togP_cons hF.good hP hkind).1 ht
   have hBB : Wd d * Wd d ≤ 36966 * 36966 := Nat.mul_le_mul hW hW
   have h3 := hF.three _ hcm.1
   have hmulle : (cons.filter (ofType (findC cons x.f1).f1)).length * (Wd d * Wd d) ≤ 3 * (Wd d * Wd d) := Nat.mul_le_mul_right _ h3
   obtain ⟨V, hV, hVne, hVl, hVf⟩ := v_l3 cons l (findC cons x.f1).f1 d (Wd d) (Wd_pos d) (by omega) hF.good.len hl6 hF.good.ar
    (fun c hcc _ i hi => rparts_ok hF.good hok hcc hi)
    (fun c hcc ho i hi => ih m' _ (by omega) (rparts_pats hP c.f0 i) (rparts_dep hd c.f0 i) (Nat.le_trans (List.length_filterMap_le _ _) hl) (hpt c hcc ho i hi))
    (fun y hy hyc => by
     have hy5 : y.f0 = 5 := by unfold isCon at hyc; simpa using hyc
     have := (hkind y hy (by unfold looseB; rw [hy5]; rfl)).2
     unfold ownOf at this; rw [hy5] at this; exact this)
    cons.length 0 [] (by omega) (by simp) (by rw [List.drop_zero]; simp; omega)
   rw [List.drop_zero] at hVne hVl
   refine ⟨V, hf (Ends.congr hV fun k => by rw [if_neg hne, hints, e]; rfl), ⟨hVne (.inr fun h => ?_), ?_, hVf⟩⟩
   ·
    rw [List.filter_eq_nil_iff] at h
    exact h _ hcm.1 (by simp [ofType])
   ·
    simp only [List.length_nil] at hVl; simp only [Wd]; omega
theorem fineL : Fine consL := by
 refine ⟨goodL, ?_, ?_⟩
 ·
  have : (consL.all fun c => !(c.f1.toList == [])) = true := by decide +kernel
  intro c hc
  have := List.all_eq_true.1 this c hc
  simpa using this
 ·
  have : (consL.all fun c => decide ((consL.filter (ofType c.f1)).length ≤ 3)) = true := by decide +kernel
  intro c hc
  have := List.all_eq_true.1 this c hc
  simpa using this
end Go.Proofs.Ytikhkcnbabpneaa.P
/- Plain laws: what rows leave out; CoverValue. -/
namespace Go.Proofs.Ytikhkcnbabpneaa.P
open Go.RowKit Go.Proofs.YtikhkcnbabpneaaW.PrintWords Go.Proofs.YtikhkcnbabpneaaW.PrintLast Go.Proofs.YtikhkcnbabpneaaW.PrintMore
set_option linter.unusedVariables false
set_option linter.unusedSimpArgs false
def colL (rows : List (List S25)) (j : Nat) : List S25 := rows.filterMap fun r => r[j]?
def Fits (cons : List S61) (rows : List (List S25)) (vs : List S40) : Prop := ∀ j (hj : j < vs.length), ∃ d, FitV cons d (colL rows j) vs[j]
theorem fit_sub {cons : List S61} : ∀ (d : Nat) {l l' : List S25} {v : S40}, FitV cons d l v → (∀ x ∈ l', isCon x = true → x ∈ l) → FitV cons d l' v := by
 intro d
 induction d with
 | zero =>
  intro l l' v h hs x hx
  cases hc : isCon x with
  | false => rfl
  | true => have := h x (hs x hx hc); rw [hc] at this; cases this
 | succ d ih =>
  intro l l' v h hs ⟨x, hx, hc⟩
  obtain ⟨c, hcc, ht, hn, hl, hp⟩ := h ⟨x, hs x hx hc, hc⟩
  refine ⟨c, hcc, fun y hy hyc => ht y (hs y hy hyc) hyc, hn, hl, fun i hi => ih (hp i hi) fun y hy _ => ?_⟩
  obtain ⟨z, hz, hzy⟩ := List.mem_filterMap.1 hy
  refine List.mem_filterMap.2 ⟨z, hs z hz ?_, hzy⟩
  unfold rpick at hzy
  split at hzy
  ·
   next hh => rw [Bool.and_eq_true] at hh; exact hh.1
  ·
   cases hzy
theorem col_mem {rows : List (List S25)} {j : Nat} {x : S25} : x ∈ colL rows j ↔ ∃ r ∈ rows, r[j]? = some x := by
 unfold colL
 exact List.mem_filterMap
theorem colL_others {rows : List (List S25)} {j : Nat} {x : S25} (h : x ∈ colL (othersL rows) j) : x ∈ colL rows (j + 1) := by
 obtain ⟨r, hr, hx⟩ := col_mem.1 h
 obtain ⟨r0, hr0, ht⟩ := List.mem_filterMap.1 hr
 refine col_mem.2 ⟨r0, hr0, ?_⟩
 cases r0 with
 | nil => simp [tailOf?] at ht
 | cons p t =>
  unfold tailOf? at ht
  simp only at ht
  split at ht
  ·
   cases ht; simpa using hx
  ·
   cases ht
theorem fits_others {cons : List S61} {rows : List (List S25)} {v : S40} {vs : List S40} (h : Fits cons rows (v :: vs)) : Fits cons (othersL rows) vs := by
 intro j hj
 obtain ⟨d, hd⟩ := h (j + 1) (by simp; omega)
 exact ⟨d, fit_sub d hd fun x hx _ => colL_others hx⟩
theorem below_cases {r r' : List S25} {h : S25} (e : belowO r h = some r') : ∃ p t, r = p :: t ∧ ((looseB p = true ∧ r' = List.replicate h.f5.length wildS ++ t) ∨ (looseB p = false ∧ sameB p h = true ∧ r' = p.f5 ++ t)) := by
 cases r with
 | nil => simp [belowO] at e
 | cons p t =>
  refine ⟨p, t, rfl, ?_⟩
  unfold belowO at e
  cases hl : looseB p with
  | true => simp only [hl, if_true] at e; cases e; exact .inl ⟨rfl, rfl⟩
  | false =>
   simp only [hl, Bool.false_eq_true, if_false] at e
   split at e
   ·
    next hs => cases e; exact .inr ⟨rfl, hs, rfl⟩
   ·
    cases e
theorem wild_noCon (n : Nat) {x : S25} (h : x ∈ List.replicate n wildS) : isCon x = false := by rw [List.eq_of_mem_replicate h]; rfl
theorem fits_under {cons : List S61} (hG : Good cons) {n : Nat} {rows : List (List S25)} (hr : ∀ r ∈ rows, WF cons (n + 1) r) {c : S61} (hc : c ∈ cons) {v : S40} {vs : List S40} (h : Fits cons rows (v :: vs)) (hcon : ∃ x ∈ colL rows 0, isCon x = true)
 (hn : v.f0.toList = c.f0.toList) (hl : (v.f2.length : Int) = c.f3) (hd : ∃ d, ∀ i (hi : i < v.f2.length), FitV cons d (rpartsL (colL rows 0) c.f0 i) v.f2[i]) : Fits cons (underL rows (headOf c)) (v.f2 ++ vs) := by
 have ha := hG.ar c hc
 have hhl : (headOf c).f5.length = v.f2.length := by show (List.replicate c.f3.toNat wildS).length = _; rw [List.length_replicate]; omega
 have hkid : ∀ p t, p :: t ∈ rows → sameB p (headOf c) = true → p.f0 = 5 ∧ p.f1.toList = c.f0.toList ∧ p.f5.length = v.f2.length := by
  intro p t hp hs
  have hop := (hr _ hp).2 p (List.mem_cons_self ..)
  have := same_kids hop (ok_head hG hc) hs
  have h2 := same_iff.1 hs
  exact ⟨h2.1, h2.2.1, by omega⟩
 intro j hj
 by_cases e : j < v.f2.length
 ·
  rw [List.getElem_append_left e]
  obtain ⟨d, hd⟩ := hd
  refine ⟨d, fit_sub d (hd j e) fun x hx hxc => ?_⟩
  obtain ⟨r', hr', hxj⟩ := col_mem.1 hx
  obtain ⟨r0, hr0, hb⟩ := List.mem_filterMap.1 hr'
  obtain ⟨p, t, rfl, ⟨_, rfl⟩ | ⟨hl0, hs, rfl⟩⟩ := below_cases hb
  ·
   rw [List.getElem?_append_left (by rw [List.length_replicate]; omega)] at hxj
   rw [wild_noCon _ (List.mem_of_getElem? hxj)] at hxc; cases hxc
  ·
   obtain ⟨h5, h1, h2⟩ := hkid p t hr0 hs
   rw [List.getElem?_append_left (by omega)] at hxj
   refine List.mem_filterMap.2 ⟨p, col_mem.2 ⟨p :: t, hr0, rfl⟩, ?_⟩
   unfold rpick
   rw [if_pos (by rw [h5, h1]; simp)]; exact hxj
 ·
  rw [List.getElem_append_right (by omega)]
  have hj2 : j - v.f2.length < vs.length := by rw [List.length_append] at hj; omega
  obtain ⟨d, hd⟩ := h (j - v.f2.length + 1) (by simp; omega)
  refine ⟨d, fit_sub d hd fun x hx hxc => ?_⟩
  obtain ⟨r', hr', hxj⟩ := col_mem.1 hx
  obtain ⟨r0, hr0, hb⟩ := List.mem_filterMap.1 hr'
  refine col_mem.2 ⟨r0, hr0, ?_⟩
  obtain ⟨p, t, rfl, ⟨_, rfl⟩ | ⟨hl0, hs, rfl⟩⟩ := below_cases hb
  ·
   rw [List.getElem?_append_right (by rw [List.length_replicate]; omega), List.length_replicate, hhl] at hxj
   simpa using hxj
  ·
   obtain ⟨_, _, h2⟩ := hkid p t hr0 hs
   rw [List.getElem?_append_right (by omega), h2] at hxj
   simpa using hxj
theorem meansAll_append (a b : List S25) : ∀ (u v : List S40), a.length = u.length → meansAll (a ++ b) (u ++ v) = (meansAll a u && meansAll b v) := by
 induction a with
 | nil =>
  intro u v h
  have : u = [] := List.length_eq_zero_iff.1 h.symm
  subst this
  simp [meansAll]
 | cons p t ih =>
  intro u v h
  cases u with
  | nil => simp at h
  | cons x y =>
   simp only [List.cons_append, meansAll_cons]
   rw [ih y v (by simpa using h), Bool.and_assoc]
theorem con_means {cons : List S61} {p : S25} (h5 : p.f0 = 5) (v : S40) : meansB p v = (v.f0.toList == p.f1.toList && v.f2.length == p.f5.length && meansAll p.f5 v.f2) := by
 rw [meansB_eq]
 have : looseB p = false := by unfold looseB; rw [h5]; rfl
 rw [this]
 simp [h5]
theorem means_sound {cons : List S61} (hG : Good cons) : ∀ (k : Nat) (rows : List (List S25)) (q : List S25) (n : Nat) (vs : List S40), k ≤ 100000 → (∀ r ∈ rows, WF cons n r) → WF cons n q → rows.length ≤ 1000000 → Phi rows q < k →
 (∀ x ∈ q, looseB x = true) → vs.length = n → Fits cons rows vs → meansF cons k rows q = some false → ∃ r ∈ rows, meansAll r vs = true := by
 intro k
 induction k with
 | zero => intro rows q n vs _ _ _ _ h; omega
 | succ k ih =>
  intro rows q n vs hk hr hq hl hp hql hvs hfit hm
  by_cases h0 : rows = []
  ·
   subst h0; rw [meansF_rows cons k q] at hm; cases hm
  ·
   have hlen : 0 < rows.length := List.length_pos_iff.2 h0
   cases q with
   | nil =>
    obtain ⟨r, t, rfl⟩ := List.exists_cons_of_ne_nil h0
    refine ⟨r, List.mem_cons_self .., ?_⟩
    have h1 := (hr r (List.mem_cons_self ..)).1
    have h2 := hq.1
    have : r = [] := List.length_eq_zero_iff.1 (by simp at h2; omega)
    rw [this]; simp [meansAll]
   | cons p t =>
    obtain ⟨n, rfl⟩ : ∃ m, n = m + 1 := ⟨t.length, by rw [← hq.1]; rfl⟩
    have hqn : t.length = n := by have := hq.1; simpa using this
    obtain ⟨v, vt, rfl⟩ : ∃ v vt, vs = v :: vt := by
     cases vs with
     | nil => simp at hvs
     | cons a b => exact ⟨a, b, rfl⟩
    have hvt : vt.length = n := by simpa using hvs
    unfold Phi at hp
    rw [nwL_cons] at hp
    simp only [List.length_cons] at hp
    have hop := hq.2 p (List.mem_cons_self ..)
    have hWt : WF cons n t := ⟨hqn, fun x hx => hq.2 x (List.mem_cons_of_mem _ hx)⟩
    have hlo := hql p (List.mem_cons_self ..)
    have htl : ∀ x ∈ t, looseB x = true := fun x hx => hql x (List.mem_cons_of_mem _ hx)
    rw [means_step hG k hr hq (by omega) hl h0, hlo] at hm
    simp only [if_true] at hm
    have hO := others_wf rows hr
    have hoth : meansF cons k (othersL rows) t = some false → ∃ r ∈ rows, meansAll r (v :: vt) = true := by
     intro h
     obtain ⟨r, hrm, hrv⟩ := ih _ _ n vt (by omega) hO.1 hWt (by omega) (by unfold Phi; omega) htl hvt (fits_others hfit) h
     obtain ⟨r0, hr0, ht⟩ := List.mem_filterMap.1 hrm
     refine ⟨r0, hr0, ?_⟩
     cases r0 with
     | nil => simp [tailOf?] at ht
     | cons a b =>
      unfold tailOf? at ht
      simp only at ht
      split at ht
      ·
       next hla =>
       cases ht
       rw [meansAll_cons, meansB_eq, hla, if_pos rfl, hrv]; rfl
      ·
       cases ht
    cases hc : columnL rows with
    | nil => rw [hc] at hm; exact hoth hm
    | cons h hs =>
     rw [hc] at hm
     simp only at hm
     split at hm
     ·
      next h5 =>
      split at hm
      ·
       exact hoth hm
      ·
       split at hm
       ·
        next hall =>
        have h5' : h.f0 = 5 := by simpa using h5
        have hhm : h ∈ colL rows 0 := by
         have : h ∈ columnL rows := by rw [hc]; exact List.mem_cons_self ..
         obtain ⟨r0, hr0, hx⟩ := List.mem_filterMap.1 this
         refine col_mem.2 ⟨r0, hr0, ?_⟩
         cases r0 with
         | nil => simp [headOf?] at hx
         | cons a b =>
          unfold headOf? at hx
          simp only at hx
          split at hx
          ·
           cases hx
          ·
           cases hx; rfl
        have hhc : isCon h = true := by unfold isCon; simpa using h5'
        obtain ⟨d, hd⟩ := hfit 0 (by simp)
        have hd' : FitV cons d (colL rows 0) v := hd
        cases d with
        | zero => have := hd' h hhm; rw [hhc] at this; cases this
        | succ d =>
         obtain ⟨c, hcc, hty, hn, hvl, hpp⟩ := hd' ⟨h, hhm, hhc⟩
         have hcm : c ∈ cons.filter (ofType (findC cons h.f1).f1) := List.mem_filter.2 ⟨hcc, by unfold ofType; rw [hty h hhm hhc]; simp⟩
         have har := hG.ar c hcc
         have hU := under_wf (ok_head hG hcc) rows hr
         have hst := hU.2.2.1 (by rw [hc]; simp)
         have h1 := List.all_eq_true.1 hall c hcm
         have h2 : ∀ x ∈ cons.filter (ofType (findC cons h.f1).f1), ¬ ((meansF cons k (underL rows (headOf x)) ((belowO (p :: t) (headOf x)).getD [])).getD false) = true := by
          have := Option.some.inj hm
          rw [List.any_eq_false] at this
          exact this
         have h3 := h2 c hcm
         rw [below_head (cons := cons) (n := 0) hlo (headOf c), Option.getD_some] at h1 h3
         rw [Bool.and_eq_true] at h1
         obtain ⟨b, hb⟩ := Option.isSome_iff_exists.1 h1.2
         rw [hb] at h3
         have hbf : b = false := by simpa using h3
         rw [hbf] at hb
         have hhl : (headOf c).f5.length = v.f2.length := by show (List.replicate c.f3.toNat wildS).length = _; rw [List.length_replicate]; omega
         obtain ⟨r, hrm, hrv⟩ := ih (underL rows (headOf c)) (List.replicate (headOf c).f5.length wildS ++ t) ((headOf c).f5.length + n) (v.f2 ++ vt) (by omega) hU.1
          ⟨by simp [hqn], fun x hx => by
           rcases List.mem_append.1 hx with hx | hx
           ·
            exact ok_wilds cons _ x hx
           ·
            exact hWt.2 x hx⟩ (by omega) (by
           unfold Phi
           rw [nwL_append, nw_wilds, List.length_append, List.length_replicate]
           omega) (fun x hx => by
           rcases List.mem_append.1 hx with hx | hx
           ·
            rw [List.eq_of_mem_replicate hx]; rfl
           ·
            exact htl x hx) (by rw [List.length_append]; omega) (fits_under hG hr hcc hfit ⟨h, hhm, hhc⟩ hn hvl ⟨d, hpp⟩) hb
         obtain ⟨r0, hr0, hbl⟩ := List.mem_filterMap.1 hrm
         refine ⟨r0, hr0, ?_⟩
         obtain ⟨a, b', rfl, ⟨hla, rfl⟩ | ⟨hla, hs', rfl⟩⟩ := below_cases hbl
         ·
          rw [meansAll_append _ _ _ _ (by rw [List.length_replicate]; omega), Bool.and_eq_true] at hrv
          rw [meansAll_cons, meansB_eq, hla, if_pos rfl, hrv.2]; rfl
         ·
          have hoa := (hr _ hr0).2 a (List.mem_cons_self ..)
          have hk2 := same_kids hoa (ok_head hG hcc) hs'
          have h4 := same_iff.1 hs'
          rw [meansAll_append _ _ _ _ (by omega), Bool.and_eq_true] at hrv
          rw [meansAll_cons, con_means (cons := cons) h4.1, hrv.1, hrv.2]
          have e1 : (v.f0.toList == a.f1.toList) = true := by rw [h4.2.1, hn]; simp [headOf]
          have e2 : (v.f2.length == a.f5.length) = true := by simp; omega
          rw [e1, e2]; rfl
       ·
        cases hm
     ·
      exact hoth hm
theorem col_sing (l : List S25) : colL (sing l) 0 = l := by
 unfold colL sing
 rw [List.filterMap_map]
 induction l with
 | nil => rfl
 | cons x t ih => simp only [List.filterMap_cons]; simp at ih ⊢; exact ih
theorem meansV_sound {cons : List S61} (hG : Good cons) {l : List S25} (hl : l.length ≤ 20) (hn : ∀ x ∈ l, nodes x ≤ 9) (ho : ∀ x ∈ l, okB cons x = true) {d : Nat} {v : S40} (hv : FitV cons d l v) (hm : meansV cons (sing l) [wildS] = false) :
 l.any (fun p => meansB p v) = true := by
 have hN := NW_sing l hn
 have h2 := nw_le wildS
 rw [nodes_wild] at h2
 have hphi : Phi (sing l) [wildS] < 1000 := by unfold Phi; rw [nwL_cons, nwL_nil]; simp only [List.length_singleton]; omega
 have hq : WF cons 1 [wildS] := ⟨rfl, fun x hx => by rw [List.mem_singleton.1 hx]; exact ok_wild cons⟩
 obtain ⟨b, hb⟩ := means_total hG 1000 (sing l) [wildS] 1 (by omega) (sing_wf ho) hq (by rw [sing_len]; omega) hphi
 have hbf : b = false := by unfold meansV at hm; rw [hb] at hm; exact hm
 rw [hbf] at hb
 obtain ⟨r, hr, hrv⟩ := means_sound hG 1000 (sing l) [wildS] 1 [v] (by omega) (sing_wf ho) hq (by rw [sing_len]; omega) hphi (fun x hx => by rw [List.mem_singleton.1 hx]; rfl) rfl (fun j hj => by
  have : j = 0 := by simp at hj; omega
  subst this
  exact ⟨d, by rw [col_sing]; exact hv⟩) hb
 obtain ⟨p, hp, rfl⟩ := List.mem_map.1 hr
 rw [meansAll_cons, Bool.and_eq_true] at hrv
 exact List.any_eq_true.2 ⟨p, hp, hrv.1⟩
def rightB (cons : List S61) (l : List S25) : Bool := l.all (okB cons) && togV cons l
theorem chkL_s (cons : List S61) (all : List (List S25)) (d i : Nat) : chkL cons all (d + 1) i = if meansV cons (all.take i) (all.getD i []) then chkL cons all d (i + 1) else ((i : Int), 27) := rfl
theorem chkL_z (cons : List S61) (all : List (List S25)) (i : Nat) : chkL cons all 0 i = if meansV cons all [wildS] then (0, 26) else (0, 0) := rfl
theorem chkL_more {l : List S25} (hl : l.length ≤ 5) (hn : ∀ p ∈ l, nodes p ≤ 9) (ho : ∀ x ∈ l, okB consL x = true) :
 ∀ n i, i + n = l.length → chkL consL (sing (l ++ [anyS])) (n + 1) i = if (chkL consL (sing l) n i).2 = 26 then (0, 0) else if (chkL consL (sing l) n i).2 = 0 then ((l.length : Int), 27) else chkL consL (sing l) n i := by
 intro n
 induction n with
 | zero =>
  intro i hi
  have h1 : (sing (l ++ [anyS])).take i = sing l := by rw [sing_take, List.take_left' (by omega)]
  have h2 : (sing (l ++ [anyS])).getD i [] = [wildS] := by
   rw [sing_get _ _ (by simp; omega)]
   have : (l ++ [anyS])[i]'(by simp; omega) = anyS := by rw [List.getElem_append_right (by omega)]; simp
   rw [this]; rfl
  rw [chkL_s, h1, h2]
  have hm := meansV_any goodL (l := l ++ [anyS]) (p := wildS) (by simp; omega) (fun x hx => by
   rcases List.mem_append.1 hx with h | h
   ·
    exact hn x h
   ·
    rw [List.mem_singleton.1 h, any_nodes]; omega) (by rw [nodes_wild]; omega) (fun x hx => by
   rcases List.mem_append.1 hx with h | h
   ·
    exact ho x h
   ·
    rw [List.mem_singleton.1 h]; exact any_ok) (ok_wild _) ⟨anyS, by simp, rfl⟩
  rw [chkL_z, chkL_z, hm]
  cases hb : meansV consL (sing l) [wildS] with
  | true => simp
  | false => simp; omega
 | succ n ih =>
  intro i hi
  have hlt : i < l.length := by omega
  have h1 : (sing (l ++ [anyS])).take i = (sing l).take i := by rw [sing_take, sing_take, List.take_append_of_le_length (by omega)]
  have h2 : (sing (l ++ [anyS])).getD i [] = (sing l).getD i [] := by
   rw [sing_get _ _ (by simp; omega), sing_get _ _ hlt, List.getElem_append_left hlt]
  rw [chkL_s, h1, h2, ih (i + 1) (by omega), chkL_s]
  split
  ·
   rfl
  ·
   simp
def TwoB (n : Nat) (a2 b1 b2 : Int) : Prop := a2 = 0 ∧ b1 = n ∧ b2 = 27 ∨ a2 = 26 ∧ b1 = 0 ∧ b2 = 0 ∨ a2 = 27 ∧ b2 = 27
theorem chk_more {l : List S25} (hl : l.length ≤ 5) (hn : ∀ p ∈ l, nodes p ≤ 9) :
 if rightB consL l then TwoB l.length (chk consL l).2 (chk consL (l ++ [anyS])).1 (chk consL (l ++ [anyS])).2 else (chk consL l).2 = 1 := by
 rw [chk_eq (by omega : l.length ≤ 20), chk_eq (by simp; omega : (l ++ [anyS]).length ≤ 20), List.all_append, List.all_cons, any_ok, List.all_nil, tog_last consL l (by omega), Bool.and_true, Bool.and_true]
 unfold rightB TwoB
 cases hb : l.all (okB consL) && togV consL l with
 | false => simp
 | true =>
  simp only [if_true]
  have hok : ∀ p ∈ l, okB consL p = true := by
   rw [Bool.and_eq_true] at hb
   exact fun p hp => List.all_eq_true.1 hb.1 p hp
  have h := chkL_more hl hn hok l.length 0 (by omega)
  have hlen : (l ++ [anyS]).length = l.length + 1 := by simp
  rw [hlen, h]
  rcases chkL_two consL (sing l) l.length 0 with e | e | e
  ·
   rw [e]; simp
  ·
   rw [e]; simp
  ·
   rw [e]; simp [e]
theorem chkL_zero {cons : List S61} {all : List (List S25)} : ∀ n i, (chkL cons all n i).2 = 0 → meansV cons all [wildS] = false := by
 intro n
 induction n with
 | zero =>
  intro i h
  rw [chkL_z] at h
  split at h
  ·
   simp at h
  ·
   next hh => simpa using hh
 | succ n ih =>
  intro i h
  rw [chkL_s] at h
  split at h
  ·
   exact ih _ h
  ·
   simp at h
theorem first_value {l : List S25} (hl : l.length ≤ 5) (hn : ∀ p ∈ l, nodes p ≤ 9) (hr : rightB consL l = true) (h0 : (chk consL l).2 = 0) {d : Nat} {v : S40} (hv : FitV consL d l v) : l.any (fun p => meansB p v) = true := by
 unfold rightB at hr
 have hok : ∀ p ∈ l, okB consL p = true := by
  rw [Bool.and_eq_true] at hr
  exact fun p hp => List.all_eq_true.1 hr.1 p hp
 rw [chk_eq (by omega), hr, if_pos rfl] at h0
 exact meansV_sound goodL (by omega) hn hok hv (chkL_zero _ _ h0)
end Go.Proofs.Ytikhkcnbabpneaa.P
/- the reference: Right; CoverValue walked -/
namespace Go.Proofs.Ytikhkcnbabpneaa.P
open Go.RowKit Go.Proofs.YtikhkcnbabpneaaW.PrintWords Go.Proofs.YtikhkcnbabpneaaW.PrintLast Go.Proofs.YtikhkcnbabpneaaW.PrintMore
set_option linter.unusedVariables false
set_option linter.unusedSimpArgs false
theorem C_zero {α : Type} (d : Kd α) (w : World) (A : Option Addr) : Kd.C d w A ([] : List α).length ([] : List α) := ⟨rfl, by simp, fun h => absurd h (Nat.lt_irrefl 0)⟩
theorem not_right {l : List S25} {p : S25} (hp : p ∈ l) (h : okB consL p = false) : rightB consL l = false := by
 unfold rightB
 have : l.all (okB consL) = false := by rw [List.all_eq_false]; exact ⟨p, hp, by rw [h]; decide⟩
 rw [this]; rfl
set_option maxHeartbeats 8000000 in
set_option maxRecDepth 100000 in
theorem right_calls (A : Option Addr) (c : Nat) (l : List S25) (A2 : Option Addr) (c2 : Nat) (W : World) (hr : Kd.C k25 W A l.length l) (hC : Kd.C k61 W A2 consL.length consL) (h5 : l.length ≤ 5) (h9 : ∀ p ∈ l, nodes p ≤ 9) :
 Calls Try.prog 13 #[.slice A l.length c, .slice A2 consL.length c2] W fun e w' => e = .returned (.bool (rightB consL l)) ∧ Below W.heap.size W w' := by
 have hso := rsound_calls A2 c2 consL W hC (by decide) soundL
 have HR := Aside0.mk hr
 have HC := Aside0.mk hC
 have H9 := Aside0.mk h9
 clear hr hC h9
 go_enter Try.func13, Try.ntmps13
 go_wp2_with fail
 refine hso.mono ?_; rintro e w1 ⟨rfl, hB1⟩
 have HB1 := Aside0.mk hB1
 have h20 : ¬ (20 : Int) < (l.length : Int) := by omega
 clear hso hB1
 go_wp2_with fail
 clear h20
 go_loopg [6] l.length (fun gg s6 wr => ∃ i : Nat, i ≤ l.length ∧ l.length - i ≤ gg ∧ s6 = .int .i64 i ∧ Aside0 (Below W.heap.size W wr) ∧ Aside0 (∀ p ∈ l.take i, okB consL p = true))
 case atStart => exact ⟨0, Nat.zero_le _, by omega, rfl, HB1, ⟨by simp⟩⟩
 case round =>
  obtain ⟨i, hi, hg, rfl, BW, AA⟩ := hrel
  by_cases hlt : i < l.length
  ·
   have hltz : (i : Int) < (l.length : Int) := by omega
   have hiz : (0 : Int) ≤ (i : Int) := by omega
   obtain ⟨ad, cs, e', hcl, hKq, hcz, hcj⟩ := elem_at (Kd.C_below HR.out BW.out) i hlt
   subst e'
   have hih := rsize_calls goodL A2 c2 l[i] (by have := H9.out _ (List.getElem_mem hlt); omega) _ wr (Kd.C_below HC.out BW.out) hKq
   have HTK := Aside0.mk (List.take_succ_eq_append_getElem hlt)
   have HME := Aside0.mk (List.getElem_mem hlt)
   generalize l[i] = q at hih hKq hcz hcj HTK HME
   obtain ⟨C4, x4, C5, x5, rfl, -, -, -, -⟩ := k25_open hKq
   simp only [show k25.sz = 6 from rfl] at hcz hcj
   have y0 := hcz _ rfl
   have y1 := hcj 1 _ (by decide) rfl
   have y2 := hcj 2 _ (by decide) rfl
   have y3 := hcj 3 _ (by decide) rfl
   have y4 := hcj 4 _ (by decide) rfl
   have y5 := hcj 5 _ (by decide) rfl
   generalize q.f4.length = m4 at hih y4
   generalize q.f5.length = m5 at hih y5
   clear hcl hKq hcz hcj
   go_wp2_with fail
   refine hih.mono ?_; rintro e w4 ⟨⟨m, rfl, hm⟩, hB4⟩
   have HB4 := Aside0.mk (BW.out.trans (hB4.mono BW.out.size))
   have HM := Aside0.mk hm.1
   clear hB4 hih hm y0 y1 y2 y3 y4 y5
   by_cases hz : m = 0
   ·
    have HZ := Aside0.mk (not_right HME.out (HM.out.1 hz))
    subst hz
    go_wp2
    go_ret
    exact ⟨by rw [HZ.out]; rfl, HB4.out⟩
   ·
    have hzb : (m == 0) = false := by simpa using hz
    have HQ := Aside0.mk (show okB consL q = true by
     cases h : okB consL q with
     | true => rfl
     | false => exact absurd (HM.out.2 h) hz)
    clear hz HM
    go_wp2
    go_roundg (l.length - (i + 1))
    case measure => omega
    case rel =>
     refine ⟨i + 1, by omega, by omega, by go_num, HB4, ⟨fun p hp => ?_⟩⟩
     rw [HTK.out] at hp
     rcases List.mem_append.1 hp with hp | hp
     ·
      exact AA.out p hp
     ·
      rw [List.mem_singleton.1 hp]; exact HQ.out
  ·
   have hltz : ¬ (i : Int) < (l.length : Int) := by omega
   have hok : ∀ p ∈ l, okB consL p = true := fun p hp => AA.out p (by rw [List.take_of_length_le (by omega)]; exact hp)
   have htg := rtog_calls goodL 9 A2 c2 A c l wr (Kd.C_below HC.out BW.out) (Kd.C_below HR.out BW.out) ⟨fun p hp => ⟨hok p hp, H9.out p hp⟩, by omega⟩
   have HT := Aside0.mk (togV_iff (cons := consL) (l := l) (by omega) H9.out hok)
   have HRB := Aside0.mk (show rightB consL l = togV consL l by unfold rightB; rw [List.all_eq_true.2 hok]; rfl)
   clear hok
   go_wp2_with fail
   refine htg.mono ?_; rintro e w5 ⟨⟨b, rfl, hb⟩, hB5⟩
   have HBB := Aside0.mk hb
   have HB5 := Aside0.mk (BW.out.trans (hB5.mono BW.out.size))
   clear htg hb hB5
   go_wp2
   go_ret
   refine ⟨?_, HB5.out⟩
   have : b = togV consL l := by rw [Bool.eq_iff_iff, HBB.out, HT.out]
   rw [HRB.out, this]; rfl
set_option maxHeartbeats 8000000 in
set_option maxRecDepth 100000 in
theorem coverValue_calls (A0 : Option Addr) (c0 : Nat) (l0 : List S25) (pick : Int) (w : World) (hr0 : Kd.C k25 w A0 l0.length l0) (hc0 : l0.length ≤ c0) (hp0 : -9223372036854775808 ≤ pick) (hp1 : pick ≤ 9223372036854775807) :
 Calls Try.prog 4 #[.slice A0 l0.length c0, .int .i64 pick] w fun e w' => e = .returned (.bool true) ∧ Below w.heap.size w w' := by
 obtain ⟨rows, ⟨kf, hf⟩, h5, h94⟩ := few_ends4 l0 hr0.2.1
 have h9 : ∀ p ∈ rows, nodes p ≤ 9 := fun p hp => (h94 p hp).1
 obtain ⟨kc, hC⟩ := check_ends goodL rows h9
 obtain ⟨ka, hA⟩ := check_ends goodL (rows ++ [anyS]) (fun p hp => by
  rcases List.mem_append.1 hp with hp | hp
  ·
   exact h9 p hp
  ·
   rw [List.mem_singleton.1 hp, any_nodes]; omega)
 have hk := chk_more h5 h9
 have hcA := fun (P0 : Nat → Prop) (A : Option Addr) (c : Nat) (Ac : Option Addr) (cc : Nat) (W : World) h1 h2 h3 => cover_Check.calls kc P0 A c rows Ac cc consL (chk consL rows).1 (chk consL rows).2 W h1 h2 h3 (hC kc (Nat.le_refl _))
 have hcB := fun (P0 : Nat → Prop) (A : Option Addr) (c : Nat) (Ac : Option Addr) (cc : Nat) (W : World) h1 h2 h3 => cover_Check.calls ka P0 A c (rows ++ [anyS]) Ac cc consL (chk consL (rows ++ [anyS])).1 (chk consL (rows ++ [anyS])).2 W h1 h2 h3 (hA ka (Nat.le_refl _))
 have hfw := selvagelaw09_few.calls kf A0 c0 l0 5 rows w hr0 hc0 (hf kf (Nat.le_refl _))
 have HFV := Aside0.mk (fun hr h0 (d : Nat) (v : S40) hv => first_value h5 h9 hr h0 (d := d) (v := v) hv)
 have HVE := Aside0.mk (fun (hr : rightB consL rows = true) => values_ends fineL 4 9 rows (by omega) ⟨fun p hp => ⟨by
  unfold rightB at hr; rw [Bool.and_eq_true] at hr; exact List.all_eq_true.1 hr.1 p hp, h9 p hp⟩, by omega⟩ (fun p hp => (h94 p hp).2) h5 ((togV_iff (by omega) h9 (by
  unfold rightB at hr; rw [Bool.and_eq_true] at hr; exact List.all_eq_true.1 hr.1)).1 (by
  unfold rightB at hr; rw [Bool.and_eq_true] at hr; exact hr.2)))
 have H9 := Aside0.mk h9
 generalize chk consL rows = a at hcA hk HFV
 generalize hbb : chk consL (rows ++ [anyS]) = b at hcB hk
 have HK := Aside0.mk hk
 have hcl : consL.length = 8 := rfl
 clear hf hC hA hk h9 h94 hr0 hbb
 go_enter Try.func4, Try.ntmps4
 go_wp2_with fail
 refine hfw.mono ?_; rintro e w1 ⟨v1, rfl, hR1, hB1⟩
 clear hfw
 obtain ⟨A1, c1, rfl⟩ := Kd.R_slice hR1
 have HN1 := Aside0.mk (Kd.R_N hR1)
 have HB := Aside0.mk hB1
 clear hR1 hB1
 go_wp2_with fail
 refine (selvageref09_Cons.calls consL w1 consL_f).mono ?_; rintro e w2 ⟨v2, rfl, hR2, hB2⟩
 obtain ⟨A2, c2, rfl⟩ := Kd.R_slice hR2
 have HR2 := Aside0.mk hR2
 have HC2 := Aside0.mk (Kd.R_reads' hR2).2.1
 replace HN1 := Aside0.mk (Kd.N_below HN1.out hB2)
 replace HB := Aside0.mk (HB.out.trans (hB2.mono HB.out.size))
 clear hR2 hB2
 go_wp2_with fail
 refine (hcA (fun k => k < w2.heap.size) A1 c1 A2 c2 w2 (Kd.V_mk (Kd.N_reads' HN1.out).2.1 (Kd.C_F k25_heap (Kd.N_reads' HN1.out).2.2)) (Kd.R_reads' HR2.out).2.2 HC2.out).mono ?_; rintro e w3 ⟨rfl, hB3⟩
 clear hcA
 replace HN1 := Aside0.mk (Kd.N_below HN1.out hB3)
 replace HR2 := Aside0.mk (Kd.R_below HR2.out hB3)
 replace HB := Aside0.mk (HB.out.trans (hB3.mono HB.out.size))
 clear hB3
 go_wp2_with fail
 refine (right_calls A1 c1 rows A2 c2 w3 (Kd.N_reads' HN1.out).2.2 (Kd.R_reads' HR2.out).2.2 h5 H9.out).mono ?_; rintro e w4 ⟨rfl, hB4⟩
 replace HN1 := Aside0.mk (Kd.N_below HN1.out hB4)
 replace HR2 := Aside0.mk (Kd.R_below HR2.out hB4)
 replace HB := Aside0.mk (HB.out.trans (hB4.mono HB.out.size))
 clear hB4
 have hlv := fun W => selvagelaw09_lives.calls true W rfl
 generalize a.1 = a1 at *
 generalize a.2 = a2 at *
 generalize b.1 = b1 at *
 generalize b.2 = b2 at *
 cases hrb : rightB consL rows with
 | false =>
  have hk := HK.out
  rw [hrb] at hk
  simp only [Bool.false_eq_true, if_false] at hk
  subst hk
  clear HK HVE HFV hrb
  go_wp2_with fail
  refine (hlv _).mono ?_; rintro e w8 ⟨rfl, hB8⟩
  go_wp2
  go_ret
  exact ⟨rfl, HB.out.trans (hB8.mono HB.out.size)⟩
 | true =>
  have hk := HK.out
  rw [hrb, if_pos rfl] at hk
  obtain ⟨V, ⟨kv, hV⟩, hne, hlen, hfit⟩ := HVE.out hrb
  have hvl : 0 < V.length := List.length_pos_iff.2 hne
  have HTW := Aside0.mk hk
  have HRB := Aside0.mk hrb
  have HFT := Aside0.mk hfit
  have hvc := selvageref09_Values.calls kv A2 c2 consL (fun k => k < w4.heap.size) A1 c1 rows V w4 (Kd.R_reads' HR2.out).2.2 HC2.out (Kd.V_mk (Kd.N_reads' HN1.out).2.1 (Kd.C_F k25_heap (Kd.N_reads' HN1.out).2.2)) (hV kv (Nat.le_refl _))
  clear hk HK HVE hrb hV hne hfit
  go_wp2_with fail
  refine hvc.mono ?_; rintro e w5 ⟨v5, rfl, hN5, hB5⟩
  clear hvc
  obtain ⟨A5, c5, rfl⟩ := Kd.N_slice hN5
  have HV5 := Aside0.mk (Kd.N_reads' hN5)
  replace HN1 := Aside0.mk (Kd.N_below HN1.out hB5)
  replace HR2 := Aside0.mk (Kd.R_below HR2.out hB5)
  replace HB := Aside0.mk (HB.out.trans (hB5.mono HB.out.size))
  clear hN5 hB5
  go_upto_if 37 with (fail)
  go_cut [1] (fun v1 wc => ∃ pk : Int, 0 ≤ pk ∧ pk ≤ 9223372036854775807 ∧ v1 = .int .i64 pk ∧ w5 = wc)
  case first =>
   by_cases hn : pick < 0
   ·
    have h1 : pick + 1 ≤ 0 := by omega
    have h2 : -9223372036854775807 ≤ pick + 1 := by omega
    go_wp2
    go_meet
    exact ⟨-(pick + 1), by omega, by omega, rfl, rfl⟩
   ·
    go_wp2
    go_meet
    exact ⟨pick, by omega, by omega, rfl, rfl⟩
  case rest =>
   obtain ⟨pk, hq0, hq1, rfl, rfl⟩ := hcut
   have hvz : (0 : Int) < (V.length : Int) := by omega
   have hm0 : 0 ≤ pk % (V.length : Int) := Int.emod_nonneg _ (by omega)
   have hm1 : pk % (V.length : Int) < (V.length : Int) := Int.emod_lt_of_pos _ hvz
   go_upto_region 11 with (fail)
   go_cut [11, 55] (fun v11 v55 wc => v55 = .bool false ∧ Aside0 (Below w5.heap.size w5 wc))
   case first =>
    rcases HTW.out with ⟨ha, hb1, hb2⟩ | ⟨ha, hb1, hb2⟩ | ⟨ha, hb2⟩
    ·
     have HVK := Aside0.mk (HV5.out.2.2)
     have hany := HFV.out HRB.out ha
     subst ha
     clear hb1 hb2 hcB
     obtain ⟨kk, hkk⟩ : ∃ kk : Nat, pk % (V.length : Int) = kk := ⟨(pk % (V.length : Int)).toNat, by omega⟩
     rw [hkk] at hm0 hm1 ⊢
     clear hkk
     have hlt : kk < V.length := by omega
     obtain ⟨ad, cs, e', hcl2, hKy, hdz, hdj⟩ := elem_at HVK.out kk hlt
     subst e'
     have HAN := Aside0.mk (hany 4 V[kk] (HFT.out _ (List.getElem_mem hlt)))
     have hfc := rfirst_calls A1 c1 rows V[kk] cs w5 (Kd.N_reads' HN1.out).2.2 (Kd.N_reads' HN1.out).2.1 (fun p hp => by have := H9.out p hp; omega) hKy
     generalize V[kk] = y at *
     obtain ⟨D2, z2, rfl, -, -⟩ := k40_open hKy
     simp only [show k40.sz = 3 from rfl] at hdz hdj
     have z0 := hdz _ rfl
     have z1 := hdj 1 _ (by decide) rfl
     have z3 := hdj 2 _ (by decide) rfl
     generalize y.f2.length = m6 at hfc z3
     clear hcl2 hKy hdz hdj hany hlv
     go_wp2_with fail
     refine hfc.mono ?_; rintro e w6 ⟨n, rfl, hn, hB6⟩
     have hnn : ¬ n < 0 := fun h => by
      have h2 := hn.1 h
      rw [HAN.out] at h2
      cases h2
     have HNN := Aside0.mk hnn
     clear hn hnn hfc z0 z1 z3
     go_wp2
     go_meet
     exact ⟨congrArg Value.bool (decide_eq_false (by have := HNN.out; omega)), ⟨hB6⟩⟩
    ·
     have ha0 : (a2 == 0) = false := by rw [ha]; rfl
     clear ha hb1 hb2 hcB
     go_wp2
     go_meet
     exact ⟨rfl, ⟨Below.refl _ _⟩⟩
    ·
     have ha0 : (a2 == 0) = false := by rw [ha]; rfl
     clear ha hb2 hcB
     go_wp2
     go_meet
     exact ⟨rfl, ⟨Below.refl _ _⟩⟩
   case rest =>
    obtain ⟨rfl, HB6⟩ := hcut
    replace HN1 := Aside0.mk (Kd.N_below HN1.out HB6.out)
    replace HR2 := Aside0.mk (Kd.R_below HR2.out HB6.out)
    replace HB := Aside0.mk (HB.out.trans (HB6.out.mono HB.out.size))
    clear HB6 HV5 HFT HFV hm0 hm1 hvz hvl
    go_wp2_with fail
    refine (any_calls _).mono ?_; rintro e w7 ⟨P4, p4, Q4, q4, rfl, hK4, hB7⟩
    replace HN1 := Aside0.mk (Kd.N_below HN1.out hB7)
    replace HR2 := Aside0.mk (Kd.R_below HR2.out hB7)
    replace HB := Aside0.mk (HB.out.trans (hB7.mono HB.out.size))
    clear hB7 hK4
    go_wp2_with ((with_reducible refine gate_builtin (b := .append) (xs := #[.tmp 56, .tmp 58]) rfl ?_); at_builtin; refine Kd.N_append k25 (w0 := w) w.heap.size rfl (.tmp 56) (.tmp 58) 22 25 (.agg #[.int .i64 0, .string ⟨#[]⟩, .int .i64 0, .int .i64 0, .slice none 0 0, .slice none 0 0]) 88 rfl Try.underlying22 info25 rfl (by decide) (by omega) (.slice A1 rows.length c1) rows anyS [.int .i64 24, .string ⟨#[]⟩, .int .i64 0, .int .i64 0, .slice P4 0 p4, .slice Q4 0 q4] (fun _ => True) (fun _ => False) rfl rfl ?aP (fun _ hk => hk.elim) (fun _ _ => trivial) ?aO ?aB ?aS ?aL ?_; (case aP => exact k25_mkF _ _ anyS (Nat.zero_le _) (fun W' _ => C_zero _ _ _) (Nat.zero_le _) (fun W' _ => C_zero _ _ _)); (case aO => exact HN1.out); (case aB => exact HB.out); (case aS => exact HB.out.size); (case aL => omega); intro v8 w8 ho hb hg hat; have HN8 := Aside0.mk ho; have HB8 := Aside0.mk hb; have HR8 := Aside0.mk (Kd.R_over' HR2.out (Kd.N_typed HN1.out) (by decide) hg); clear ho hb hg hat; obtain ⟨A8, c8, e8⟩ := Kd.N_slice HN8.out; subst e8)
    have e1 : (rows ++ [anyS]).length = rows.length + 1 := by simp
    have hN8 := Kd.N_reads' HN8.out
    have hV8 : Kd.V k25 25 w8 w8.heap.size (fun k => k < w8.heap.size) (.slice A8 (rows ++ [anyS]).length c8) (rows ++ [anyS]) := Kd.V_mk hN8.2.1 (Kd.C_F k25_heap hN8.2.2)
    have hcC := hcB (fun k => k < w8.heap.size) A8 c8 A2 c2 w8 hV8 (Kd.R_reads' HR8.out).2.2 HC2.out
    rw [e1, hcl] at hcC
    clear hcB hN8 hV8 HN8 HN1 e1
    refine hcC.mono ?_; rintro e w9 ⟨rfl, hB9⟩
    have HB9 := Aside0.mk (HB8.out.trans (hB9.mono HB8.out.size))
    clear hcC hB9
    rcases HTW.out with ⟨rfl, rfl, rfl⟩ | ⟨rfl, rfl, rfl⟩ | ⟨rfl, rfl⟩
    ·
     go_wp2_with fail
     refine (hlv _).mono ?_; rintro e w10 ⟨rfl, hB10⟩
     go_wp2
     go_ret
     exact ⟨rfl, HB9.out.trans (hB10.mono HB9.out.size)⟩
    ·
     go_wp2_with fail
     refine (hlv _).mono ?_; rintro e w10 ⟨rfl, hB10⟩
     go_wp2
     go_ret
     exact ⟨rfl, HB9.out.trans (hB10.mono HB9.out.size)⟩
    ·
     go_wp2_with fail
     refine (hlv _).mono ?_; rintro e w10 ⟨rfl, hB10⟩
     go_wp2
     go_ret
     exact ⟨rfl, HB9.out.trans (hB10.mono HB9.out.size)⟩
end Go.Proofs.Ytikhkcnbabpneaa.P