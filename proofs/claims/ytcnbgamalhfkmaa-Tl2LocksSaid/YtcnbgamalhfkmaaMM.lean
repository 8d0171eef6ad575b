/- tl2: the document's lists of puts against maps: plain laws. tl2: both engines do alike: plain laws. tl2: both engines do alike: Write, Part, Join, Undo. tl2: both engines do alike: Step; what contracts ask. tl2: a deed of both: alike; what the walk asks. -/
import Derived.Test.YtcnbgamalhfkmaaMK
import Derived.Test.YtcnbgamalhfkmaaMB
import Derived.Test.YtcnbgamalhfkmaaME
import Derived.Test.YtcnbgamalhfkmaaMJ
import Derived.Test.YtcnbgamalhfkmaaMI
import Derived.Test.YtcnbgamalhfkmaaML
namespace Go.Proofs.Ytcnbgamalhfkmaa.P
set_option linter.unusedVariables false
set_option linter.unusedSimpArgs false
def lookP (l : List RPut) (n part : Int) : Option Int := (l.find? (hitP n part)).map (·.v)
def Uniq (l : List RPut) : Prop := l.Pairwise fun p q => ¬ (p.n = q.n ∧ p.part = q.part)
theorem hitP_iff {n part : Int} {p : RPut} : hitP n part p = true ↔ p.n = n ∧ p.part = part := by simp [hitP]
theorem hitP_no {n part : Int} {p : RPut} (h : ¬ (p.n = n ∧ p.part = part)) : hitP n part p = false := by
  rw [Bool.eq_false_iff]; exact fun e => h (hitP_iff.1 e)
theorem lookP_cons (p : RPut) (l : List RPut) (n part : Int) : lookP (p :: l) n part = if p.n = n ∧ p.part = part then some p.v else lookP l n part := by
  unfold lookP
  rw [List.find?_cons]
  by_cases h : p.n = n ∧ p.part = part
  · rw [hitP_iff.2 h, if_pos h]; rfl
  · rw [hitP_no h, if_neg h]
theorem lookP_nil (n part : Int) : lookP [] n part = none := rfl
theorem lookP_some {l : List RPut} {n part v : Int} (h : lookP l n part = some v) : ∃ p ∈ l, p.n = n ∧ p.part = part ∧ p.v = v := by
  unfold lookP at h
  cases hf : l.find? (hitP n part) with
  | none => rw [hf] at h; cases h
  | some p =>
    rw [hf] at h
    have h1 := List.find?_some hf
    exact ⟨p, List.mem_of_find?_eq_some hf, (hitP_iff.1 h1).1, (hitP_iff.1 h1).2, Option.some.inj h⟩
theorem lookP_none {l : List RPut} {n part : Int} (h : ∀ p ∈ l, ¬ (p.n = n ∧ p.part = part)) : lookP l n part = none := by
  cases hl : lookP l n part with
  | none => rfl
  | some v => obtain ⟨p, hp, h1, h2, _⟩ := lookP_some hl; exact absurd ⟨h1, h2⟩ (h p hp)
theorem lookP_mem : ∀ {l : List RPut} {p : RPut}, Uniq l → p ∈ l → lookP l p.n p.part = some p.v
  | q :: l, p, hu, hp => by
    have h2 := List.pairwise_cons.1 hu
    rw [lookP_cons]
    rcases List.mem_cons.1 hp with rfl | hp
    · rw [if_pos ⟨rfl, rfl⟩]
    · rw [if_neg (h2.1 p hp), lookP_mem h2.2 hp]
theorem putL_mem {n v part : Int} : ∀ {l : List RPut} {z : RPut}, z ∈ putL n v part l → (z.n = n ∧ z.part = part) ∨ z ∈ l
  | [], z, h => by
    rw [show putL n v part [] = [⟨n, v, part⟩] from rfl, List.mem_singleton] at h
    subst h; exact .inl ⟨rfl, rfl⟩
  | p :: r, z, h => by
    rw [putL_cons] at h
    split at h
    · next hp =>
      rcases List.mem_cons.1 h with rfl | h
      · exact .inl (hitP_iff.1 hp)
      · exact .inr (List.mem_cons_of_mem _ h)
    · rcases List.mem_cons.1 h with rfl | h
      · exact .inr List.mem_cons_self
      · rcases putL_mem h with h | h
        · exact .inl h
        · exact .inr (List.mem_cons_of_mem _ h)
theorem putL_uniq {n v part : Int} : ∀ {l : List RPut}, Uniq l → Uniq (putL n v part l)
  | [], _ => List.pairwise_cons.2 ⟨fun _ h => (by cases h), List.Pairwise.nil⟩
  | p :: r, hu => by
    have h2 := List.pairwise_cons.1 hu
    rw [putL_cons]
    split
    · exact List.pairwise_cons.2 ⟨h2.1, h2.2⟩
    · next hp =>
      refine List.pairwise_cons.2 ⟨fun z hz => ?_, putL_uniq h2.2⟩
      rcases putL_mem hz with h | h
      · exact fun e => hp (hitP_iff.2 ⟨e.1.trans h.1, e.2.trans h.2⟩)
      · exact h2.1 z h
theorem lookP_put (n v part n' part' : Int) : ∀ l : List RPut, lookP (putL n v part l) n' part' = if n = n' ∧ part = part' then some v else lookP l n' part'
  | [] => by rw [show putL n v part [] = [⟨n, v, part⟩] from rfl, lookP_cons, lookP_nil]
  | p :: r => by
    rw [putL_cons]
    split
    · next hp =>
      obtain ⟨h1, h2⟩ := hitP_iff.1 hp
      rw [lookP_cons, lookP_cons, h1, h2]
      by_cases e : n = n' ∧ part = part'
      · rw [if_pos e, if_pos e]
      · rw [if_neg e, if_neg e, if_neg e]
    · next hp =>
      rw [lookP_cons, lookP_cons, lookP_put n v part n' part' r]
      by_cases e : p.n = n' ∧ p.part = part'
      · rw [if_pos e, if_pos e, if_neg]
        exact fun e2 => hp (hitP_iff.2 ⟨e.1.trans e2.1.symm, e.2.trans e2.2.symm⟩)
      · rw [if_neg e, if_neg e]
theorem lookP_filter {l : List RPut} {n part : Int} (f : RPut → Bool) (hf : ∀ p ∈ l, p.part = part → f p = true) : lookP (l.filter f) n part = lookP l n part := by
  induction l with
  | nil => rfl
  | cons p r ih =>
    have ih := ih (fun q hq => hf q (List.mem_cons_of_mem _ hq))
    rw [List.filter_cons, lookP_cons]
    by_cases e : p.n = n ∧ p.part = part
    · rw [if_pos (hf p List.mem_cons_self e.2), lookP_cons, if_pos e, if_pos e]
    · split
      · rw [lookP_cons, if_neg e]
        try rw [if_neg e]
        exact ih
      · try rw [if_neg e]
        exact ih
/-! maps -/
theorem getM_mem {p : Mp} {a b : Int} (h : getM p a = some b) : (a, b) ∈ p := by
  unfold getM at h
  cases hf : p.find? fun q => q.1 == a with
  | none => rw [hf] at h; cases h
  | some q =>
    rw [hf] at h
    have h1 := List.find?_some hf
    have h2 := List.mem_of_find?_eq_some hf
    have e1 : q.1 = a := by simpa using h1
    have e2 : q.2 = b := Option.some.inj h
    have : q = (a, b) := Prod.ext e1 e2
    rw [← this]; exact h2
theorem mem_getM : ∀ {p : Mp} {a b : Int}, Rise p → (a, b) ∈ p → getM p a = some b
  | x :: r, a, b, hr, h => by
    have h2 := List.pairwise_cons.1 hr
    rw [getM_cons]
    rcases List.mem_cons.1 h with e | h
    · rw [← e, if_pos rfl]
    · have := h2.1 _ h
      rw [if_neg (by intro e; simp at this; omega), mem_getM h2.2 h]
theorem filter_least : ∀ {p : Mp} {a b last : Int}, Rise p → (a, b) ∈ p → last < a → (∀ e ∈ p, last < e.1 → a ≤ e.1) → (p.filter fun e => decide (last < e.1)) = (a, b) :: (p.filter fun e => decide (a < e.1))
  | x :: r, a, b, last, hr, hm, hl, hmin => by
    have h2 := List.pairwise_cons.1 hr
    rcases List.mem_cons.1 hm with e | hm
    · subst e
      have k1 : (r.filter fun e => decide (last < e.1)) = r := List.filter_eq_self.2 fun e he => by have := h2.1 e he; simp at this ⊢; omega
      have k2 : (r.filter fun e => decide (a < e.1)) = r := List.filter_eq_self.2 fun e he => by have := h2.1 e he; simp at this ⊢; omega
      rw [List.filter_cons, List.filter_cons, if_pos (by simpa using hl), if_neg (by simp), k1, k2]
    · have hxa : x.1 < a := h2.1 _ hm
      have hnl : ¬ last < x.1 := fun e => by have := hmin x List.mem_cons_self e; omega
      rw [List.filter_cons, List.filter_cons, if_neg (by simpa using hnl), if_neg (by simp; omega)]
      exact filter_least h2.2 hm hl (fun e he => hmin e (List.mem_cons_of_mem _ he))
/-! the least put above last -/
theorem nextP_spec (part last : Int) : ∀ (l : List RPut) (b : Option RPut), (∀ q, b = some q → aboveB part last q = true) →
    (nextP part last b l = none → b = none ∧ ∀ z ∈ l, aboveB part last z = false) ∧ (∀ q, nextP part last b l = some q → (∀ z ∈ l, aboveB part last z = true → q.n ≤ z.n) ∧ ∀ q', b = some q' → q.n ≤ q'.n)
  | [], b, hb => ⟨fun h => ⟨h, fun z hz => (by cases hz)⟩, fun q h => ⟨fun z hz => (by cases hz), fun q' hq' => by rw [show nextP part last b [] = b from rfl, hq'] at h; injection h with h; rw [h]; exact Int.le_refl _⟩⟩
  | p :: r, b, hb => by
    have hstep : nextP part last b (p :: r) = nextP part last (if lessP part last b p then some p else b) r := rfl
    rw [hstep]
    by_cases hl : lessP part last b p = true
    · have hab : aboveB part last p = true := by
        unfold lessP at hl
        unfold aboveB
        simp only [Bool.and_eq_true] at hl ⊢
        exact hl.1
      rw [if_pos hl]
      obtain ⟨i1, i2⟩ := nextP_spec part last r (some p) (fun q hq => by injection hq with hq; subst hq; exact hab)
      refine ⟨fun h => (by cases (i1 h).1), fun q hq => ⟨fun z hz hz2 => ?_, fun q' hq' => ?_⟩⟩
      · rcases List.mem_cons.1 hz with rfl | hz
        · exact (i2 q hq).2 _ rfl
        · exact (i2 q hq).1 z hz hz2
      · have h1 := (i2 q hq).2 p rfl
        subst hq'
        unfold lessP at hl
        simp at hl
        omega
    · rw [if_neg hl]
      obtain ⟨i1, i2⟩ := nextP_spec part last r b hb
      have hno : ∀ q', b = some q' → aboveB part last p = true → q'.n ≤ p.n := fun q' hq' hab => by
        subst hq'
        unfold lessP at hl
        unfold aboveB at hab
        simp at hl hab
        exact hl hab.1 hab.2
      refine ⟨fun h => ⟨(i1 h).1, fun z hz => ?_⟩, fun q hq => ⟨fun z hz hz2 => ?_, (i2 q hq).2⟩⟩
      · rcases List.mem_cons.1 hz with rfl | hz
        · have hbn := (i1 h).1
          subst hbn
          rw [Bool.eq_false_iff]
          intro hab
          apply hl
          unfold lessP
          unfold aboveB at hab
          rw [hab]; rfl
        · exact (i1 h).2 z hz
      · rcases List.mem_cons.1 hz with rfl | hz
        · cases hbb : b with
          | none =>
            subst hbb
            exact absurd (by unfold lessP; unfold aboveB at hz2; rw [hz2]; rfl) hl
          | some q' => have := hno q' hbb hz2; have := (i2 q hq).2 q' hbb; omega
        · exact (i2 q hq).1 z hz hz2
theorem sortedF_eq {l : List RPut} {part : Int} (hu : Uniq l) {p : Mp} (hr : Rise p) (h : ∀ n, getM p n = lookP l n part) : ∀ (k : Nat) (last : Int), above l part last < k → sortedF l part k last = (p.filter fun e => decide (last < e.1)).map fun e => ⟨e.1, e.2, part⟩
  | 0, _, hk => absurd hk (Nat.not_lt_zero _)
  | k + 1, last, hk => by
    obtain ⟨i1, i2⟩ := nextP_spec part last l none (fun q hq => by cases hq)
    unfold sortedF
    cases hn : nextP part last none l with
    | none =>
      have h0 := (i1 hn).2
      have : (p.filter fun e => decide (last < e.1)) = [] := List.filter_eq_nil_iff.2 fun e he hle => by
        have h1 := mem_getM (a := e.1) (b := e.2) hr he
        rw [h] at h1
        obtain ⟨z, hz, z1, z2, _⟩ := lookP_some h1
        have := h0 z hz
        unfold aboveB at this
        simp at this hle
        have := this z2
        omega
      rw [this]; rfl
    | some q =>
      obtain ⟨hq, hab⟩ := nextP_above hn
      have hmin := (i2 q hn).1
      have hab2 : q.part = part ∧ last < q.n := by unfold aboveB at hab; simpa using hab
      have hm : (q.n, q.v) ∈ p := getM_mem (by rw [h, ← hab2.1]; exact lookP_mem hu hq)
      have hf := filter_least hr hm hab2.2 (fun e he hle => by
        have h1 := mem_getM (a := e.1) (b := e.2) hr he
        rw [h] at h1
        obtain ⟨z, hz, z1, z2, _⟩ := lookP_some h1
        rw [← z1]
        exact hmin z hz (by unfold aboveB; simp; exact ⟨z2, by omega⟩))
      rw [hf, List.map_cons]
      show q :: sortedF l part k q.n = _
      rw [sortedF_eq hu hr h k q.n (by have := above_less hn; omega)]
      congr 1
      obtain ⟨qn, qv, qp⟩ := q
      simp at hab2 ⊢
      exact hab2.1
theorem sortedR_eq {l : List RPut} {part : Int} (hu : Uniq l) {p : Mp} (hr : Rise p) (h : ∀ n, getM p n = lookP l n part) (h0 : ∀ e ∈ p, 0 ≤ e.1) : sortedR l part = p.map fun e => ⟨e.1, e.2, part⟩ := by
  unfold sortedR
  rw [sortedF_eq hu hr h _ _ (Nat.lt_succ_of_le (above_le _ _ _))]
  rw [List.filter_eq_self.2 fun e he => by have := h0 e he; simp; omega]
/-! the put that counts -/
theorem bestP_spec (n : Int) : ∀ (l : List RPut) (b : Option RPut), (∀ q, b = some q → q.n = n) →
    (bestP n b l = none → b = none ∧ ∀ z ∈ l, z.n ≠ n) ∧ (∀ q, bestP n b l = some q → q.n = n ∧ (q ∈ l ∨ b = some q) ∧ (∀ z ∈ l, z.n = n → z.part ≤ q.part) ∧ ∀ q', b = some q' → q'.part ≤ q.part)
  | [], b, hb => ⟨fun h => ⟨h, fun z hz => (by cases hz)⟩, fun q h => ⟨hb q h, .inr h, fun z hz => (by cases hz), fun q' hq' => by rw [show bestP n b [] = b from rfl, hq'] at h; injection h with h; rw [h]; exact Int.le_refl _⟩⟩
  | p :: r, b, hb => by
    have hstep : bestP n b (p :: r) = bestP n (if betterP n b p then some p else b) r := rfl
    rw [hstep]
    by_cases hl : betterP n b p = true
    · have hpn : p.n = n := by unfold betterP at hl; simp at hl; exact hl.1
      rw [if_pos hl]
      obtain ⟨i1, i2⟩ := bestP_spec n r (some p) (fun q hq => by injection hq with hq; subst hq; exact hpn)
      refine ⟨fun h => (by cases (i1 h).1), fun q hq => ⟨(i2 q hq).1, .inl ?_, fun z hz hz2 => ?_, fun q' hq' => ?_⟩⟩
      · rcases (i2 q hq).2.1 with h | h
        · exact List.mem_cons_of_mem _ h
        · injection h with h; rw [← h]; exact List.mem_cons_self
      · rcases List.mem_cons.1 hz with rfl | hz
        · exact (i2 q hq).2.2.2 _ rfl
        · exact (i2 q hq).2.2.1 z hz hz2
      · have h1 := (i2 q hq).2.2.2 p rfl
        subst hq'
        unfold betterP at hl
        simp at hl
        omega
    · rw [if_neg hl]
      obtain ⟨i1, i2⟩ := bestP_spec n r b hb
      refine ⟨fun h => ⟨(i1 h).1, fun z hz => ?_⟩, fun q hq => ⟨(i2 q hq).1, ?_, fun z hz hz2 => ?_, (i2 q hq).2.2.2⟩⟩
      · rcases List.mem_cons.1 hz with rfl | hz
        · have hbn := (i1 h).1
          subst hbn
          intro e
          apply hl
          unfold betterP
          simp [e]
        · exact (i1 h).2 z hz
      · rcases (i2 q hq).2.1 with h | h
        · exact .inl (List.mem_cons_of_mem _ h)
        · exact .inr h
      · rcases List.mem_cons.1 hz with rfl | hz
        · cases hbb : b with
          | none =>
            subst hbb
            exact absurd (by unfold betterP; simp [hz2]) hl
          | some q' =>
            have h1 := (i2 q hq).2.2.2 q' hbb
            subst hbb
            unfold betterP at hl
            simp [hz2] at hl
            omega
        · exact (i2 q hq).2.2.1 z hz hz2
theorem hitM_none {parts : List Mp} {n : Int} (h : ∀ p ∈ parts, getM p n = none) : hitM parts n = none := by
  unfold hitM
  rw [List.findSome?_eq_none_iff]
  intro p hp
  exact h p (List.mem_reverse.1 hp)
theorem hitM_at {parts : List Mp} {n v : Int} {k : Nat} (hk : k < parts.length) (h : getM parts[k] n = some v) (hl : ∀ (j : Nat) (hj : j < parts.length), k < j → getM parts[j] n = none) : hitM parts n = some v := by
  have e : parts = parts.take k ++ (parts[k] :: parts.drop (k + 1)) := by rw [← List.drop_eq_getElem_cons hk, List.take_append_drop]
  unfold hitM
  rw [e, List.reverse_append, List.reverse_cons, List.append_assoc, List.findSome?_append]
  have h0 : (parts.drop (k + 1)).reverse.findSome? (fun p => getM p n) = none := by
    rw [List.findSome?_eq_none_iff]
    intro p hp
    obtain ⟨i, hi, e2⟩ := List.mem_iff_getElem.1 (List.mem_reverse.1 hp)
    rw [← e2, List.getElem_drop]
    rw [List.length_drop] at hi
    exact hl _ (by omega) (by omega)
  rw [h0]
  simp [h]
theorem hit_best {parts : List Mp} {l : List RPut} (hu : Uniq l) (hrng : ∀ p ∈ l, 1 ≤ p.part ∧ p.part ≤ parts.length) (h : ∀ (k : Nat) (hk : k < parts.length) (n : Int), getM parts[k] n = lookP l n ((k : Int) + 1)) (n : Int) : hitM parts n = (bestP n none l).map (·.v) := by
  obtain ⟨i1, i2⟩ := bestP_spec n l none (fun q hq => by cases hq)
  cases hb : bestP n none l with
  | none =>
    refine hitM_none fun p hp => ?_
    obtain ⟨k, hk, e⟩ := List.mem_iff_getElem.1 hp
    rw [← e, h]
    exact lookP_none fun z hz e => (i1 hb).2 z hz e.1
  | some q =>
    obtain ⟨hqn, hql, hmax, _⟩ := i2 q hb
    have hql : q ∈ l := by
      rcases hql with h | h
      · exact h
      · cases h
    have hr := hrng q hql
    obtain ⟨k, hk⟩ : ∃ k : Nat, q.part = (k : Int) + 1 := ⟨(q.part - 1).toNat, by omega⟩
    have hkl : k < parts.length := by omega
    refine hitM_at hkl ?_ (fun j hj hkj => ?_)
    · rw [h, ← hk, ← hqn]; exact lookP_mem hu hql
    · rw [h]
      refine lookP_none fun z hz e => ?_
      have := hmax z hz e.1
      omega
end Go.Proofs.Ytcnbgamalhfkmaa.P
namespace Go.Proofs.Ytcnbgamalhfkmaa.P
set_option linter.unusedVariables false
set_option linter.unusedSimpArgs false
/-- How much a transaction's maps hold. -/
def load : List Mp → Nat
  | [] => 0
  | p :: r => p.length + load r
theorem load_append (a b : List Mp) : load (a ++ b) = load a + load b := by
  induction a with
  | nil => simp [load]
  | cons p r ih => simp [load, ih]; omega
theorem load_mem {l : List Mp} {p : Mp} (h : p ∈ l) : p.length ≤ load l := by
  induction l with
  | nil => cases h
  | cons q r ih =>
    rcases List.mem_cons.1 h with rfl | h
    · simp [load]
    · have := ih h; simp [load]; omega
structure TxSim (nv : Nat) (m : Nat) (x : PTx) (y : RTx) : Prop where
  is : y.is = true
  start : y.start = x.start
  reads : y.reads = x.reads
  rin : ∀ n ∈ x.reads, 0 ≤ n ∧ n < nv
  rlen : x.reads.length ≤ m
  commits : y.commits = x.commits
  one : x.parts ≠ []
  parts : y.parts = x.parts.length
  plen : x.parts.length ≤ m + 1
  rise : ∀ p ∈ x.parts, Rise p
  load : load x.parts ≤ m
  look : ∀ (k : Nat) (hk : k < x.parts.length) (n : Int), getM x.parts[k] n = lookP y.puts n ((k : Int) + 1)
  rng : ∀ p ∈ y.puts, 1 ≤ p.part ∧ p.part ≤ x.parts.length
  uniq : Uniq y.puts
  keys : ∀ p ∈ y.puts, 0 ≤ p.n ∧ p.n < nv
  pulen : y.puts.length ≤ m
  pointed : x.pointed = decide (0 < y.stamp)
  stamp : y.stamp = x.stamp
  left : x.pointed = true → x.commits = true ∧ x.parts.length = 1 ∧ 0 ≤ y.done ∧ y.done < ((x.parts.getD 0 []).map (·.1)).length ∧ x.left = ((x.parts.getD 0 []).map (·.1)).drop y.done.toNat
  done : x.pointed = false → y.done = 0
def OptSim (nv m : Nat) (o : Option PTx) (y : RTx) : Prop := match o with | none => y = zR | some x => TxSim nv m x y
structure Sim (m : Nat) (s : PEng) (r : REng) : Prop where
  clock : r.clock = s.clock
  ck : 0 ≤ s.clock ∧ s.clock ≤ m
  vars : r.vars = s.vars
  vl : s.vars.length ≤ 4000
  lock : ∀ v ∈ s.vars, v.lock = -1 ∨ (0 ≤ v.lock ∧ v.lock < 8)
  lenE : s.txs.length = 8
  lenR : r.txs.length = 8
  txs : ∀ t, t < 8 → OptSim s.vars.length m (s.txs.getD t none) (r.txs.getD t zR)
theorem TxSim.mono {nv nv' m m' : Nat} {x : PTx} {y : RTx} (h : TxSim nv m x y) (hn : nv ≤ nv') (hm : m ≤ m') : TxSim nv' m' x y :=
  ⟨h.is, h.start, h.reads, fun n hn' => ⟨(h.rin n hn').1, by have := (h.rin n hn').2; omega⟩, Nat.le_trans h.rlen hm, h.commits, h.one, h.parts, by have := h.plen; omega, h.rise, Nat.le_trans h.load hm, h.look, h.rng, h.uniq, fun p hp => ⟨(h.keys p hp).1, by have := (h.keys p hp).2; omega⟩, Nat.le_trans h.pulen hm, h.pointed, h.stamp, h.left, h.done⟩
theorem OptSim.mono {nv nv' m m' : Nat} {o : Option PTx} {y : RTx} (h : OptSim nv m o y) (hn : nv ≤ nv') (hm : m ≤ m') : OptSim nv' m' o y := by
  cases o with
  | none => exact h
  | some x => exact TxSim.mono h hn hm
theorem Sim.mono {m m' : Nat} {s : PEng} {r : REng} (h : Sim m s r) (hm : m ≤ m') : Sim m' s r :=
  ⟨h.clock, ⟨h.ck.1, by have := h.ck.2; omega⟩, h.vars, h.vl, h.lock, h.lenE, h.lenR, fun t ht => (h.txs t ht).mono (Nat.le_refl _) hm⟩
section
variable {m : Nat} {s : PEng} {r : REng}
theorem inT_nat {t : Nat} (ht : t < 8) : inT (t : Int) = true := inT_iff.2 (by omega)
theorem ofE_nat {t : Nat} (ht : t < 8) : ofE s (t : Int) = s.txs.getD t none := by unfold ofE; rw [if_pos (inT_nat ht)]; rfl
theorem ofE_off {t : Int} (h : inT t = false) : ofE s t = none := by unfold ofE; rw [h]; rfl
theorem hasR_nat {t : Nat} (ht : t < 8) : hasR r (t : Int) = (r.txs.getD t zR).is := by unfold hasR; rw [inT_nat ht]; rfl
theorem hasR_off {t : Int} (h : inT t = false) : hasR r t = false := by unfold hasR; rw [h]; rfl
theorem nat_of_inT {t : Int} (h : inT t = true) : ∃ n : Nat, t = n ∧ n < 8 := by
  have := inT_iff.1 h
  exact ⟨t.toNat, by omega, by omega⟩
/-- A thread's transactions. -/
theorem Sim.of (h : Sim m s r) (t : Int) : (ofE s t = none ∧ hasR r t = false) ∨ ∃ (tn : Nat) (x : PTx), t = tn ∧ tn < 8 ∧ ofE s t = some x ∧ hasR r t = true ∧ TxSim s.vars.length m x (txR r t) := by
  cases hi : inT t with
  | false => exact .inl ⟨ofE_off hi, hasR_off hi⟩
  | true =>
    obtain ⟨tn, rfl, ht⟩ := nat_of_inT hi
    have hs := h.txs tn ht
    rw [ofE_nat ht, hasR_nat ht]
    cases ho : s.txs.getD tn none with
    | none =>
      rw [ho] at hs
      have hs : r.txs.getD tn zR = zR := hs
      exact .inl ⟨rfl, by rw [hs]; rfl⟩
    | some x =>
      rw [ho] at hs
      have hs : TxSim s.vars.length m x (r.txs.getD tn zR) := hs
      exact .inr ⟨tn, x, rfl, ht, rfl, hs.is, hs⟩
theorem Sim.open_ (h : Sim m s r) (t : Int) : (openE s t = none ∧ openR r t = false) ∨ ∃ (tn : Nat) (x : PTx), t = tn ∧ tn < 8 ∧ ofE s t = some x ∧ openE s t = some x ∧ openR r t = true ∧ x.commits = false ∧ TxSim s.vars.length m x (txR r t) := by
  rcases h.of t with ⟨h1, h2⟩ | ⟨tn, x, e, ht, h1, h2, hx⟩
  · exact .inl ⟨by unfold openE; rw [h1]; rfl, by unfold openR; rw [h2]; rfl⟩
  · cases hc : x.commits with
    | true => exact .inl ⟨by unfold openE; rw [h1]; simp [hc], by unfold openR; rw [h2, hx.commits, hc]; rfl⟩
    | false => exact .inr ⟨tn, x, e, ht, h1, by unfold openE; rw [h1]; simp [hc], by unfold openR; rw [h2, hx.commits, hc]; rfl, hc, hx⟩
theorem Sim.is_eq (h : Sim m s r) (n : Int) : isR r n = isE s n := by unfold isR isE; rw [h.vars]
theorem Sim.var_eq (h : Sim m s r) (n : Int) : varR r n = varE s n := by unfold varR varE; rw [h.vars]
theorem Sim.lock_at (h : Sim m s r) (n : Int) : (varE s n).lock = -1 ∨ (0 ≤ (varE s n).lock ∧ (varE s n).lock < 8) := by
  unfold varE
  rw [List.getD_eq_getElem?_getD]
  cases hg : s.vars[n.toNat]? with
  | none => exact .inr ⟨by decide, by decide⟩
  | some v => exact h.lock v (List.mem_of_getElem? hg)
theorem Sim.look_eq (h : Sim m s r) {t : Int} {st : Int} (hst : (txR r t).start = st) (n : Int) : lookR r t n = lookE s t st n := by
  unfold lookR lookE
  rw [h.var_eq, hst]
  have hl := h.lock_at n
  have : (decide (0 ≤ (varE s n).lock) && (varE s n).lock != t) = ((varE s n).lock != -1 && (varE s n).lock != t) := by
    rcases hl with e | e
    · rw [e]; simp
    · rw [decide_eq_true e.1]
      have : ((varE s n).lock != -1) = true := by simp; omega
      rw [this]
  simp only [this]
theorem Sim.valid_eq (h : Sim m s r) {t : Int} {st : Int} (hst : (txR r t).start = st) : ∀ l, validRL r t l = validL s t st l
  | [] => rfl
  | n :: l => by
    show (if lookR r t n != 0 then lookR r t n else validRL r t l) = (if lookE s t st n != 0 then lookE s t st n else validL s t st l)
    rw [h.look_eq hst, h.valid_eq hst l]
/-- A transaction of both turned. -/
theorem Sim.setTx (h : Sim m s r) {t : Nat} (ht : t < 8) {o : Option PTx} {y : RTx} {m' : Nat} (hm : m ≤ m') (hx : OptSim s.vars.length m' o y) : Sim m' (setTx s (t : Int) o) (setTR r (t : Int) y) := by
  refine ⟨h.clock, ⟨h.ck.1, by have := h.ck.2; show s.clock ≤ m'; omega⟩, h.vars, h.vl, h.lock, by simp [P.setTx, h.lenE], by simp [setTR, h.lenR], fun t' ht' => ?_⟩
  by_cases e : t' = t
  · subst e
    have e1 : (P.setTx s (t' : Int) o).txs.getD t' none = o := by simp [P.setTx, List.getD_eq_getElem?_getD, h.lenE, ht]
    have e2 : (setTR r (t' : Int) y).txs.getD t' zR = y := by simp [setTR, List.getD_eq_getElem?_getD, h.lenR, ht]
    rw [e1, e2]; exact hx
  · have e1 : (P.setTx s (t : Int) o).txs.getD t' none = s.txs.getD t' none := by
      simp only [P.setTx, List.getD_eq_getElem?_getD, Int.toNat_natCast]
      rw [List.getElem?_set_ne (Ne.symm e)]
    have e2 : (setTR r (t : Int) y).txs.getD t' zR = r.txs.getD t' zR := by
      simp only [setTR, List.getD_eq_getElem?_getD, Int.toNat_natCast]
      rw [List.getElem?_set_ne (Ne.symm e)]
    rw [e1, e2]; exact (h.txs t' ht').mono (Nat.le_refl _) hm
/-- The vars of both turned. -/
theorem Sim.setVars (h : Sim m s r) {vs : List PVar} (hl : s.vars.length ≤ vs.length) (hl2 : vs.length ≤ 4000) (hv : ∀ v ∈ vs, v.lock = -1 ∨ (0 ≤ v.lock ∧ v.lock < 8)) : Sim m { s with vars := vs } { r with vars := vs } :=
  ⟨h.clock, h.ck, rfl, hl2, hv, h.lenE, h.lenR, fun t ht => (h.txs t ht).mono hl (Nat.le_refl _)⟩
theorem Sim.make (h : Sim m s r) (v : Int) : (makeR r v).1 = (makeE s v).1 ∧ (makeR r v).2.1 = (makeE s v).2.1 ∧ Sim m (makeE s v).2.2 (makeR r v).2.2 := by
  have hl := h.vl
  unfold makeR makeE
  rw [h.vars]
  by_cases e : s.vars.length = 4000
  · rw [if_pos e, if_pos (by omega)]; exact ⟨rfl, rfl, h⟩
  · rw [if_neg e, if_neg (by omega)]
    refine ⟨rfl, rfl, h.setVars (by simp) (by simp; omega) (fun w hw => ?_)⟩
    rcases List.mem_append.1 hw with hw | hw
    · exact h.lock w hw
    · rw [List.mem_singleton.1 hw]; exact .inl rfl
theorem Sim.begin (h : Sim m s r) (t : Int) : (beginR r t).1 = (beginE s t).1 ∧ Sim m (beginE s t).2 (beginR r t).2 := by
  unfold beginR beginE
  cases hi : inT t with
  | false => exact ⟨rfl, h⟩
  | true =>
    obtain ⟨tn, rfl, ht⟩ := nat_of_inT hi
    rcases h.of tn with ⟨h1, h2⟩ | ⟨tn', x, e, ht', h1, h2, hx⟩
    · have h3 : (txR r (tn : Int)).is = false := by rw [hasR_nat ht] at h2; exact h2
      rw [h1, h3]
      refine ⟨rfl, ?_⟩
      show Sim m (P.setTx s tn _) (setTR r tn _)
      refine h.setTx ht (Nat.le_refl _) ?_
      rw [h.clock]
      exact { is := rfl, start := rfl, reads := rfl, rin := fun n hn => (by cases hn), rlen := Nat.zero_le _, commits := rfl, one := by simp, parts := rfl, plen := by simp, rise := fun p hp => by rw [List.mem_singleton.1 hp]; exact List.Pairwise.nil, load := Nat.zero_le _, look := fun k hk n => by
                have : k = 0 := by simpa using hk
                subst this; rfl, rng := fun p hp => (by cases hp), uniq := List.Pairwise.nil, keys := fun p hp => (by cases hp), pulen := Nat.zero_le _, pointed := rfl, stamp := rfl, left := fun e => (by cases e), done := fun _ => rfl }
    · have h3 : (txR r (tn : Int)).is = true := hx.is
      rw [h1, h3]
      exact ⟨rfl, h⟩
theorem Sim.valid (h : Sim m s r) (t : Int) : validR r t = validE s t := by
  unfold validR validE
  rcases h.open_ t with ⟨h1, h2⟩ | ⟨tn, x, e, ht, h0, h1, h2, hc, hx⟩
  · rw [h1, h2]; rfl
  · rw [h1, h2]
    show validRL r t (txR r t).reads = validL s t x.start x.reads
    rw [hx.reads, h.valid_eq hx.start]
theorem Sim.abort (h : Sim m s r) (t : Int) : (abortR r t).1 = (abortE s t).1 ∧ Sim m (abortE s t).2 (abortR r t).2 := by
  unfold abortR abortE
  rcases h.of t with ⟨h1, h2⟩ | ⟨tn, x, e, ht, h1, h2, hx⟩
  · rw [h1, h2]; exact ⟨rfl, h⟩
  · rw [h1, h2, ← hx.pointed]
    cases hp : x.pointed with
    | true =>
      simp only [hp, Bool.not_true, Bool.or_true, if_true]
      exact ⟨trivial, h⟩
    | false =>
      simp only [hp, Bool.not_true, Bool.or_false, Bool.false_eq_true, if_false]
      refine ⟨trivial, ?_⟩
      rw [h.vars]
      subst e
      have h4 := h.setVars (vs := s.vars.map fun v => if v.lock == (tn : Int) then { v with lock := -1 } else v) (by simp) (by simpa using h.vl) (fun v hv => by
        obtain ⟨w, hw, e⟩ := List.mem_map.1 hv
        rw [← e]
        split
        · exact .inl rfl
        · exact h.lock w hw)
      exact h4.setTx ht (Nat.le_refl _) rfl
theorem Sim.read (h : Sim m s r) (t n : Int) : (readR r t n).1 = (readE s t n).1 ∧ (readR r t n).2.1 = (readE s t n).2.1 ∧ Sim (m + 1) (readE s t n).2.2 (readR r t n).2.2 := by
  have hm := h.mono (Nat.le_succ m)
  rcases h.open_ t with ⟨h1, h2⟩ | ⟨tn, x, e, ht, h0, h1, h2, hc, hx⟩
  · rw [readR_shut (.inl h2)]
    unfold readE; rw [h1]; exact ⟨rfl, rfl, hm⟩
  · cases hi : isE s n with
    | false =>
      rw [readR_shut (.inr (by rw [h.is_eq]; exact hi))]
      unfold readE; rw [h1, hi]; exact ⟨rfl, rfl, hm⟩
    | true =>
      have hb := hit_best hx.uniq hx.rng hx.look n
      unfold readE
      rw [h1, hi]
      cases hbb : bestP n none (txR r t).puts with
      | some p =>
        rw [readR_hit h2 (by rw [h.is_eq]; exact hi) hbb]
        rw [hbb] at hb
        simp only [Bool.not_true, Bool.false_eq_true, if_false, hb, Option.map_some]
        exact ⟨trivial, trivial, hm⟩
      | none =>
        rw [readR_miss h2 (by rw [h.is_eq]; exact hi) hbb]
        rw [hbb] at hb
        simp only [Bool.not_true, Bool.false_eq_true, if_false, hb, Option.map_none]
        rw [h.look_eq hx.start, h.var_eq, hx.reads]
        by_cases hf : (lookE s t x.start n != 0) = true
        · rw [if_pos hf, if_pos hf]; exact ⟨rfl, rfl, hm⟩
        · rw [if_neg hf, if_neg hf]
          refine ⟨rfl, rfl, ?_⟩
          by_cases hct : x.reads.contains n = true
          · simp only [hct, if_true]; exact hm
          · simp only [hct, if_false, Bool.false_eq_true]
            subst e
            refine h.setTx ht (Nat.le_succ m) ?_
            have hin := isE_iff.1 hi
            exact { hx with
              reads := by show x.reads ++ [n] = _; rfl
              rin := fun k hk => by
                rcases List.mem_append.1 hk with hk | hk
                · exact hx.rin k hk
                · rw [List.mem_singleton.1 hk]; exact ⟨hin.1, by omega⟩
              rlen := by show (x.reads ++ [n]).length ≤ _; rw [List.length_append, List.length_singleton]; have := hx.rlen; omega
              plen := by have := hx.plen; show x.parts.length ≤ _; omega
              load := by have := hx.load; show P.load x.parts ≤ _; omega
              pulen := by have := hx.pulen; show (txR r (tn : Int)).puts.length ≤ _; omega }
end
end Go.Proofs.Ytcnbgamalhfkmaa.P
namespace Go.Proofs.Ytcnbgamalhfkmaa.P
set_option linter.unusedVariables false
set_option linter.unusedSimpArgs false
theorem load_one (p : Mp) : load [p] = p.length := by simp [load]
theorem copyM_len : ∀ (q p : Mp), (copyM p q).length ≤ p.length + q.length
  | [], p => Nat.le_refl _
  | e :: q, p => by
    have h1 := copyM_len q (putM p e.1 e.2)
    have h2 := putM_len p e.1 e.2
    show (copyM (putM p e.1 e.2) q).length ≤ p.length + (q.length + 1)
    omega
theorem foldP_mem {k : Int} : ∀ (own rest : List RPut) (z : RPut), z ∈ own.foldl (fun r p => putL p.n p.v k r) rest → (z.part = k ∧ ∃ q ∈ own, z.n = q.n) ∨ z ∈ rest
  | [], rest, z, h => .inr h
  | p :: o, rest, z, h => by
    rcases foldP_mem o (putL p.n p.v k rest) z h with ⟨h1, q, hq, h2⟩ | h1
    · exact .inl ⟨h1, q, List.mem_cons_of_mem _ hq, h2⟩
    · rcases putL_mem h1 with ⟨h2, h3⟩ | h2
      · exact .inl ⟨h3, p, List.mem_cons_self, h2⟩
      · exact .inr h2
theorem foldP_uniq {k : Int} : ∀ (own rest : List RPut), Uniq rest → Uniq (own.foldl (fun r p => putL p.n p.v k r) rest)
  | [], rest, h => h
  | p :: o, rest, h => foldP_uniq o _ (putL_uniq h)
theorem foldP_len {k : Int} : ∀ (own rest : List RPut), (own.foldl (fun r p => putL p.n p.v k r) rest).length ≤ rest.length + own.length
  | [], rest => Nat.le_refl _
  | p :: o, rest => by
    have h1 := foldP_len (k := k) o (putL p.n p.v k rest)
    have h2 := putL_len p.n p.v k rest
    show (o.foldl (fun r p => putL p.n p.v k r) (putL p.n p.v k rest)).length ≤ rest.length + (o.length + 1)
    omega
theorem lookP_fold {k k0 : Int} : ∀ (own rest : List RPut) (n part : Int), Uniq own → (∀ p ∈ own, p.part = k0) → lookP (own.foldl (fun r p => putL p.n p.v k r) rest) n part = if part = k then (lookP own n k0).or (lookP rest n part) else lookP rest n part
  | [], rest, n, part, _, _ => by simp [lookP]
  | p :: o, rest, n, part, hu, hk => by
    have h2 := List.pairwise_cons.1 hu
    show lookP (o.foldl (fun r p => putL p.n p.v k r) (putL p.n p.v k rest)) n part = _
    rw [lookP_fold o _ n part h2.2 (fun q hq => hk q (List.mem_cons_of_mem _ hq)), lookP_put, lookP_cons]
    have hpk := hk p List.mem_cons_self
    by_cases e : part = k
    · rw [if_pos e, if_pos e]
      by_cases en : p.n = n
      · rw [if_pos ⟨en, e.symm⟩, if_pos ⟨en, hpk⟩, lookP_none (fun q hq e2 => h2.1 q hq ⟨en.trans e2.1.symm, hpk.trans e2.2.symm⟩)]
        rfl
      · rw [if_neg (fun e2 => en e2.1), if_neg (fun e2 => en e2.1)]
    · rw [if_neg e, if_neg e, if_neg (fun e2 => e e2.2.symm)]
theorem filter_split {α : Type} (f : α → Bool) : ∀ l : List α, (l.filter fun p => !(f p)).length + (l.filter f).length = l.length
  | [] => rfl
  | p :: r => by
    have h := filter_split f r
    rw [List.filter_cons, List.filter_cons]
    cases f p <;> simp <;> omega
theorem split_last {l : List Mp} (h : l ≠ []) : ∃ A b, l = A ++ [b] := ⟨l.dropLast, l.getLast h, (List.dropLast_concat_getLast h).symm⟩
section
variable {m nv : Nat} {s : PEng} {r : REng} {x : PTx} {y : RTx}
theorem TxSim.unpointed (h : TxSim nv m x y) (hc : x.commits = false) : x.pointed = false := by
  cases hp : x.pointed with
  | false => rfl
  | true => have := (h.left hp).1; rw [hc] at this; cases this
theorem TxSim.write (h : TxSim nv m x y) (hc : x.commits = false) {n v : Int} (hn : 0 ≤ n ∧ n < nv) : TxSim nv (m + 1) { x with parts := x.parts.dropLast ++ [putM (x.parts.getLastD []) n v] } { y with puts := putL n v y.parts y.puts } := by
  obtain ⟨A, b, e⟩ := split_last h.one
  have hpf := h.unpointed hc
  have hl : x.parts.length = A.length + 1 := by rw [e]; simp
  have e1 : x.parts.dropLast = A := by rw [e]; simp
  have e2 : x.parts.getLastD [] = b := by rw [e, List.getLastD_concat]
  rw [e1, e2]
  have hlb : ∀ k, getM b k = lookP y.puts k ((A.length : Int) + 1) := fun k => by
    have := h.look A.length (by omega) k
    simpa [e] using this
  have hla : ∀ (j : Nat) (hj : j < A.length) k, getM A[j] k = lookP y.puts k ((j : Int) + 1) := fun j hj k => by
    have := h.look j (by omega) k
    simpa [e, List.getElem_append_left hj] using this
  exact { h with
    rlen := by have := h.rlen; show x.reads.length ≤ _; omega
    one := by simp
    parts := by show y.parts = ((A ++ [putM b n v]).length : Nat); rw [h.parts, hl]; simp
    plen := by show (A ++ [putM b n v]).length ≤ _; have := h.plen; simp; omega
    rise := fun p hp => by
      rcases List.mem_append.1 hp with hp | hp
      · exact h.rise p (by rw [e]; exact List.mem_append_left _ hp)
      · rw [List.mem_singleton.1 hp]; exact putM_rise (h.rise b (by rw [e]; simp)) n v
    load := by
      have h1 := h.load
      have h2 := putM_len b n v
      rw [e, load_append, load_one] at h1
      show P.load (A ++ [putM b n v]) ≤ _
      rw [load_append, load_one]; omega
    look := fun k hk z => by
      have hk : k < (A ++ [putM b n v]).length := hk
      show getM ((A ++ [putM b n v])[k]) z = lookP (putL n v y.parts y.puts) z _
      rw [lookP_put, h.parts, hl]
      by_cases hka : k < A.length
      · rw [List.getElem_append_left hka, if_neg (by omega)]; exact hla k hka z
      · have hke : k = A.length := by simp at hk; omega
        subst hke
        rw [List.getElem_append_right (Nat.le_refl _)]
        simp only [Nat.sub_self, List.getElem_cons_zero]
        rw [getM_put, hlb]
        by_cases ez : n = z
        · rw [if_pos ez, if_pos ⟨ez, by push_cast; rfl⟩]
        · rw [if_neg ez, if_neg (fun e3 => ez e3.1)]
    rng := fun p hp => by
      show 1 ≤ p.part ∧ p.part ≤ ((A ++ [putM b n v]).length : Nat)
      rw [List.length_append, List.length_singleton]
      rcases putL_mem hp with ⟨_, h2⟩ | h2
      · rw [h2, h.parts, hl]; omega
      · have := h.rng p h2; omega
    uniq := putL_uniq h.uniq
    keys := fun p hp => by
      rcases putL_mem hp with ⟨h2, _⟩ | h2
      · rw [h2]; exact hn
      · exact h.keys p h2
    pulen := by show (putL n v y.parts y.puts).length ≤ _; have := putL_len n v y.parts y.puts; have := h.pulen; omega
    left := fun hp => by rw [hpf] at hp; cases hp }
theorem TxSim.part (h : TxSim nv m x y) (hc : x.commits = false) : TxSim nv (m + 1) { x with parts := x.parts ++ [[]] } { y with parts := y.parts + 1 } := by
  have hpf := h.unpointed hc
  exact { h with
    rlen := by have := h.rlen; show x.reads.length ≤ _; omega
    one := by simp
    parts := by show y.parts + 1 = ((x.parts ++ [[]]).length : Nat); rw [h.parts]; simp
    plen := by show (x.parts ++ [[]]).length ≤ _; have := h.plen; simp; omega
    rise := fun p hp => by
      rcases List.mem_append.1 hp with hp | hp
      · exact h.rise p hp
      · rw [List.mem_singleton.1 hp]; exact List.Pairwise.nil
    load := by
      have h1 := h.load
      show P.load (x.parts ++ [[]]) ≤ _
      rw [load_append, load_one]; simp; omega
    look := fun k hk z => by
      have hk : k < (x.parts ++ [[]]).length := hk
      show getM ((x.parts ++ [[]])[k]) z = lookP y.puts z _
      by_cases hka : k < x.parts.length
      · rw [List.getElem_append_left hka]; exact h.look k hka z
      · have hke : k = x.parts.length := by simp at hk; omega
        subst hke
        rw [List.getElem_append_right (Nat.le_refl _)]
        simp only [Nat.sub_self, List.getElem_cons_zero]
        rw [lookP_none (fun p hp e => by have := (h.rng p hp).2; omega)]
        rfl
    rng := fun p hp => by
      show 1 ≤ p.part ∧ p.part ≤ ((x.parts ++ [[]]).length : Nat)
      have := h.rng p hp
      rw [List.length_append, List.length_singleton]; omega
    pulen := by show y.puts.length ≤ _; have := h.pulen; omega
    left := fun hp => by rw [hpf] at hp; cases hp }
theorem TxSim.shut (h : TxSim nv m x y) (hc : x.commits = false) (h2 : ¬ x.parts.length < 2) (keep : Bool) :
    TxSim nv m { x with parts := if keep then x.parts.dropLast.dropLast ++ [copyM (x.parts.dropLast.getLastD []) (x.parts.getLastD [])] else x.parts.dropLast }
      { y with puts := if keep then (y.puts.filter fun p => p.part == y.parts).foldl (fun r p => putL p.n p.v (y.parts - 1) r) (y.puts.filter fun p => !(p.part == y.parts)) else y.puts.filter fun p => !(p.part == y.parts), parts := y.parts - 1 } := by
  obtain ⟨A', c, e'⟩ := split_last h.one
  have hA' : A' ≠ [] := fun e => by rw [e', e] at h2; simp at h2
  obtain ⟨A, b, e''⟩ := split_last hA'
  have e : x.parts = A ++ [b] ++ [c] := by rw [e', e'']
  have hpf := h.unpointed hc
  have hl : x.parts.length = A.length + 2 := by rw [e]; simp
  have e1 : x.parts.dropLast = A ++ [b] := by rw [e]; simp
  have e2 : x.parts.getLastD [] = c := by rw [e, List.getLastD_concat]
  have e3 : (A ++ [b]).dropLast = A := by simp
  have e4 : (A ++ [b]).getLastD [] = b := by rw [List.getLastD_concat]
  rw [e2, e1, e3, e4]
  have hyp : y.parts = (A.length : Int) + 2 := by rw [h.parts, hl]; push_cast; rfl
  have hlc : ∀ k, getM c k = lookP y.puts k ((A.length : Int) + 2) := fun k => by
    have := h.look (A.length + 1) (by omega) k
    have e5 : x.parts[A.length + 1]'(by omega) = c := by simp [e]
    rw [e5] at this
    rw [this]; congr 1
  have hlb : ∀ k, getM b k = lookP y.puts k ((A.length : Int) + 1) := fun k => by
    have := h.look A.length (by omega) k
    have e5 : x.parts[A.length]'(by omega) = b := by simp [e]
    rw [e5] at this
    exact this
  have hla : ∀ (j : Nat) (hj : j < A.length) k, getM A[j] k = lookP y.puts k ((j : Int) + 1) := fun j hj k => by
    have := h.look j (by omega) k
    have e5 : x.parts[j]'(by omega) = A[j] := by simp [e, List.getElem_append_left hj]
    rw [e5] at this
    exact this
  have hrise : ∀ p, p ∈ A ∨ p = b ∨ p = c → Rise p := fun p hp => h.rise p (by rw [e]; simp; rcases hp with hp | hp | hp <;> simp [hp])
  have hload := h.load
  rw [e, load_append, load_append, load_one, load_one] at hload
  rw [hyp]
  have hk1 : ((A.length : Int) + 2 - 1) = (A.length : Int) + 1 := by omega
  rw [hk1]
  have hrest : ∀ n part, part ≠ (A.length : Int) + 2 → lookP (y.puts.filter fun p => !(p.part == (A.length : Int) + 2)) n part = lookP y.puts n part := fun n part hp => lookP_filter _ (fun p hp1 hp2 => by rw [hp2]; simpa using hp)
  have hown : ∀ n, lookP (y.puts.filter fun p => p.part == (A.length : Int) + 2) n ((A.length : Int) + 2) = lookP y.puts n ((A.length : Int) + 2) := fun n => lookP_filter _ (fun p hp1 hp2 => by rw [hp2]; simp)
  have hrm : ∀ p, p ∈ (y.puts.filter fun p => !(p.part == (A.length : Int) + 2)) → p ∈ y.puts ∧ 1 ≤ p.part ∧ p.part ≤ (A.length : Int) + 1 := fun p hp => by
    have h1 := List.mem_filter.1 hp
    have h3 := h.rng p h1.1
    have h4 : p.part ≠ (A.length : Int) + 2 := by simpa using h1.2
    exact ⟨h1.1, h3.1, by omega⟩
  cases keep with
  | false =>
    simp only [Bool.false_eq_true, if_false]
    exact { h with
      one := by simp
      parts := by show (A.length : Int) + 1 = ((A ++ [b]).length : Nat); simp
      plen := by show (A ++ [b]).length ≤ _; have := h.plen; simp; omega
      rise := fun p hp => hrise p (by
        rcases List.mem_append.1 hp with hp | hp
        · exact .inl hp
        · exact .inr (.inl (List.mem_singleton.1 hp)))
      load := by show P.load (A ++ [b]) ≤ _; rw [load_append, load_one]; omega
      look := fun k hk z => by
        have hk : k < (A ++ [b]).length := hk
        show getM ((A ++ [b])[k]) z = lookP (y.puts.filter fun p => !(p.part == (A.length : Int) + 2)) z _
        rw [hrest _ _ (by simp at hk; omega)]
        by_cases hka : k < A.length
        · rw [List.getElem_append_left hka]; exact hla k hka z
        · have hke : k = A.length := by simp at hk; omega
          subst hke
          rw [List.getElem_append_right (Nat.le_refl _)]
          simp only [Nat.sub_self, List.getElem_cons_zero]
          exact hlb z
      rng := fun p hp => by
        show 1 ≤ p.part ∧ p.part ≤ ((A ++ [b]).length : Nat)
        have := hrm p hp
        rw [List.length_append, List.length_singleton]; omega
      uniq := List.Pairwise.filter _ h.uniq
      keys := fun p hp => h.keys p (hrm p hp).1
      pulen := Nat.le_trans (List.length_filter_le _ _) h.pulen
      left := fun hp => by rw [hpf] at hp; cases hp }
  | true =>
    simp only [if_true]
    have hou : Uniq (y.puts.filter fun p => p.part == (A.length : Int) + 2) := List.Pairwise.filter _ h.uniq
    have hop : ∀ p ∈ (y.puts.filter fun p => p.part == (A.length : Int) + 2), p.part = (A.length : Int) + 2 := fun p hp => by simpa using (List.mem_filter.1 hp).2
    exact { h with
      one := by simp
      parts := by show (A.length : Int) + 1 = ((A ++ [copyM b c]).length : Nat); simp
      plen := by show (A ++ [copyM b c]).length ≤ _; have := h.plen; simp; omega
      rise := fun p hp => by
        rcases List.mem_append.1 hp with hp | hp
        · exact hrise p (.inl hp)
        · rw [List.mem_singleton.1 hp]; exact copyM_rise c b (hrise b (.inr (.inl rfl)))
      load := by show P.load (A ++ [copyM b c]) ≤ _; rw [load_append, load_one]; have := copyM_len c b; omega
      look := fun k hk z => by
        have hk : k < (A ++ [copyM b c]).length := hk
        show getM ((A ++ [copyM b c])[k]) z = lookP ((y.puts.filter fun p => p.part == (A.length : Int) + 2).foldl (fun r p => putL p.n p.v ((A.length : Int) + 1) r) (y.puts.filter fun p => !(p.part == (A.length : Int) + 2))) z _
        rw [lookP_fold _ _ _ _ hou hop]
        by_cases hka : k < A.length
        · rw [List.getElem_append_left hka, if_neg (by omega), hrest _ _ (by omega)]; exact hla k hka z
        · have hke : k = A.length := by simp at hk; omega
          subst hke
          rw [List.getElem_append_right (Nat.le_refl _)]
          simp only [Nat.sub_self, List.getElem_cons_zero]
          rw [if_pos trivial, hown, hrest _ _ (by omega), getM_copy c b z (hrise c (.inr (.inr rfl))), hlb, hlc]
      rng := fun p hp => by
        show 1 ≤ p.part ∧ p.part ≤ ((A ++ [copyM b c]).length : Nat)
        rw [List.length_append, List.length_singleton]
        rcases foldP_mem _ _ p hp with ⟨h3, _⟩ | h3
        · rw [h3]; omega
        · have := hrm p h3; omega
      uniq := foldP_uniq _ _ (List.Pairwise.filter _ h.uniq)
      keys := fun p hp => by
        rcases foldP_mem _ _ p hp with ⟨_, q, hq, h3⟩ | h3
        · rw [h3]; exact h.keys q (List.mem_filter.1 hq).1
        · exact h.keys p (hrm p h3).1
      pulen := by
        have h3 := foldP_len (k := (A.length : Int) + 1) (y.puts.filter fun p => p.part == (A.length : Int) + 2) (y.puts.filter fun p => !(p.part == (A.length : Int) + 2))
        have h4 : (y.puts.filter fun p => !(p.part == (A.length : Int) + 2)).length + (y.puts.filter fun p => p.part == (A.length : Int) + 2).length = y.puts.length := by
          exact filter_split (fun p : RPut => p.part == (A.length : Int) + 2) y.puts
        have := h.pulen
        exact Nat.le_trans h3 (by omega)
      left := fun hp => by rw [hpf] at hp; cases hp }
theorem Sim.write (h : Sim m s r) (t n v : Int) : (writeR r t n v).1 = (writeE s t n v).1 ∧ Sim (m + 1) (writeE s t n v).2 (writeR r t n v).2 := by
  have hm := h.mono (Nat.le_succ m)
  unfold writeR writeE
  rcases h.open_ t with ⟨h1, h2⟩ | ⟨tn, x, e, ht, h0, h1, h2, hc, hx⟩
  · rw [h1, h2]; exact ⟨rfl, hm⟩
  · rw [h1, h2, h.is_eq]
    cases hi : isE s n with
    | false => exact ⟨rfl, hm⟩
    | true =>
      have hin := isE_iff.1 hi
      subst e
      exact ⟨rfl, h.setTx ht (Nat.le_succ m) (hx.write hc ⟨hin.1, by omega⟩)⟩
theorem Sim.part (h : Sim m s r) (t : Int) : (partR r t).1 = (partE s t).1 ∧ Sim (m + 1) (partE s t).2 (partR r t).2 := by
  have hm := h.mono (Nat.le_succ m)
  unfold partR partE
  rcases h.open_ t with ⟨h1, h2⟩ | ⟨tn, x, e, ht, h0, h1, h2, hc, hx⟩
  · rw [h1, h2]; exact ⟨rfl, hm⟩
  · rw [h1, h2]
    subst e
    exact ⟨rfl, h.setTx ht (Nat.le_succ m) (hx.part hc)⟩
theorem Sim.shut (h : Sim m s r) (t : Int) (keep : Bool) : (shutR r t keep).1 = (shutE s t keep).1 ∧ Sim m (shutE s t keep).2 (shutR r t keep).2 := by
  unfold shutR shutE
  rcases h.open_ t with ⟨h1, h2⟩ | ⟨tn, x, e, ht, h0, h1, h2, hc, hx⟩
  · rw [h1, h2]; exact ⟨rfl, h⟩
  · rw [h1, h2]
    subst e
    by_cases hl : x.parts.length < 2
    · have hl1 : x.parts.length = 1 := by have := List.length_pos_iff.2 hx.one; omega
      have hp1 : ((txR r (tn : Int)).parts == 1) = true := by rw [hx.parts, hl1]; rfl
      rw [hp1]
      simp only [hl, if_true]
      exact ⟨rfl, h⟩
    · have hp1 : ((txR r (tn : Int)).parts == 1) = false := by rw [hx.parts, beq_eq_false_iff_ne]; omega
      rw [hp1]
      simp only [hl, if_false]
      exact ⟨rfl, h.setTx ht (Nat.le_refl _) (hx.shut hc hl keep)⟩
end
end Go.Proofs.Ytcnbgamalhfkmaa.P
namespace Go.Proofs.Ytcnbgamalhfkmaa.P
set_option linter.unusedVariables false
set_option linter.unusedSimpArgs false
section
variable {m nv : Nat} {s : PEng} {r : REng} {x : PTx} {y : RTx}
/-- The one part's map, and the puts sorted. -/
theorem TxSim.sorted (h : TxSim nv m x y) (h1 : x.parts.length = 1) : sortedR y.puts 1 = (x.parts.getD 0 []).map (fun e => ⟨e.1, e.2, 1⟩) ∧ Rise (x.parts.getD 0 []) ∧ ∀ e ∈ x.parts.getD 0 [], 0 ≤ e.1 ∧ e.1 < nv := by
  obtain ⟨p, hp⟩ : ∃ p, x.parts = [p] := by
    match hx : x.parts, h1 with
    | [p], _ => exact ⟨p, rfl⟩
  have e0 : x.parts.getD 0 [] = p := by rw [hp]; rfl
  rw [e0]
  have hr : Rise p := h.rise p (by rw [hp]; simp)
  have hl : ∀ n, getM p n = lookP y.puts n 1 := fun n => by
    have := h.look 0 (by omega) n
    have e5 : x.parts[0]'(by omega) = p := by simp [hp]
    rw [e5] at this
    exact this
  have hk : ∀ e ∈ p, 0 ≤ e.1 ∧ e.1 < nv := fun e he => by
    have h2 := mem_getM (a := e.1) (b := e.2) hr he
    rw [hl] at h2
    obtain ⟨z, hz, z1, _⟩ := lookP_some h2
    rw [← z1]; exact h.keys z hz
  exact ⟨sortedR_eq h.uniq hr hl (fun e he => (hk e he).1), hr, hk⟩
theorem Sim.lock_eq (h : Sim m s r) (t : Int) : ∀ p : Mp, lockRL r t (p.map fun e => ⟨e.1, e.2, 1⟩) = lockL s t (p.map (·.1))
  | [] => rfl
  | e :: p => by
    show (if (varR r e.1).lock == t then lockRL r t (p.map fun e => ⟨e.1, e.2, 1⟩) else some e.1) = (if (varE s e.1).lock == t then lockL s t (p.map (·.1)) else some e.1)
    rw [h.var_eq, h.lock_eq t p]
theorem lockL_mem {t n : Int} : ∀ {l : List Int}, lockL s t l = some n → n ∈ l ∧ (varE s n).lock ≠ t
  | k :: l, h => by
    unfold lockL at h
    by_cases e : ((varE s k).lock == t) = true
    · rw [if_pos e] at h
      obtain ⟨h1, h2⟩ := lockL_mem h
      exact ⟨List.mem_cons_of_mem _ h1, h2⟩
    · rw [if_neg e] at h
      injection h with h
      subst h
      exact ⟨List.mem_cons_self, by simpa using e⟩
theorem setVar_vars (s : PEng) {n : Int} (v : PVar) (hv : v.lock = -1 ∨ (0 ≤ v.lock ∧ v.lock < 8)) (hl : ∀ w ∈ s.vars, w.lock = -1 ∨ (0 ≤ w.lock ∧ w.lock < 8)) : ∀ w ∈ (setVar s n v).vars, w.lock = -1 ∨ (0 ≤ w.lock ∧ w.lock < 8) := fun w hw => by
  rcases List.mem_or_eq_of_mem_set (show w ∈ s.vars.set n.toNat v from hw) with h | h
  · exact hl w h
  · rw [h]; exact hv
theorem Sim.setVar (h : Sim m s r) (n : Int) (v : PVar) (hv : v.lock = -1 ∨ (0 ≤ v.lock ∧ v.lock < 8)) : Sim m (setVar s n v) (setVR r n v) := by
  have h1 := h.setVars (vs := s.vars.set n.toNat v) (by simp) (by simpa using h.vl) (setVar_vars s v hv h.lock)
  have : setVR r n v = { r with vars := s.vars.set n.toNat v } := by unfold setVR; rw [h.vars]
  rw [this]; exact h1
theorem Sim.tick (h : Sim m s r) (c : Int) (hc : 0 ≤ c ∧ c ≤ m + 1) : Sim (m + 1) { s with clock := c } { r with clock := c } :=
  ⟨rfl, ⟨hc.1, by have := hc.2; push_cast; omega⟩, h.vars, h.vl, h.lock, h.lenE, h.lenR, fun t ht => (h.txs t ht).mono (Nat.le_refl _) (Nat.le_succ m)⟩
theorem stepE_none {t : Int} (h : ofE s t = none) : stepE s t = (0, 1, s) := by unfold stepE; rw [h]
theorem stepE_left {t n : Int} {l : List Int} (h : ofE s t = some x) (h1 : ¬ 1 < x.parts.length) (h2 : x.pointed = true) (h3 : x.left = n :: l) :
    stepE s t = if l.isEmpty then (4, 0, setTx (setVar (setTx s t (some { x with commits := true })) n ⟨(getM (x.parts.getD 0 []) n).getD 0, x.stamp, -1⟩) t none) else (3, 0, setTx (setVar (setTx s t (some { x with commits := true })) n ⟨(getM (x.parts.getD 0 []) n).getD 0, x.stamp, -1⟩) t (some { x with commits := true, left := l })) := by
  unfold stepE
  rw [h]
  simp only [h1, if_false, h2, if_true, h3]
theorem Sim.step (h : Sim m s r) (t : Int) : (stepR r t).1 = (stepE s t).1 ∧ (stepR r t).2.1 = (stepE s t).2.1 ∧ Sim (m + 1) (stepE s t).2.2 (stepR r t).2.2 := by
  have hm := h.mono (Nat.le_succ m)
  rcases h.of t with ⟨h1, h2⟩ | ⟨tn, x, e, ht, h1, h2, hx⟩
  · rw [stepE_none h1, stepR_no (.inl h2)]; exact ⟨rfl, rfl, hm⟩
  · by_cases hl : 1 < x.parts.length
    · rw [stepE_many h1 hl, stepR_no (.inr (by rw [hx.parts]; omega))]; exact ⟨rfl, rfl, hm⟩
    · have hl1 : x.parts.length = 1 := by have := List.length_pos_iff.2 hx.one; omega
      have hlR : ¬ 1 < (txR r t).parts := by rw [hx.parts]; omega
      obtain ⟨hso, hri, hke⟩ := hx.sorted hl1
      obtain ⟨p, hp⟩ : ∃ p, x.parts.getD 0 [] = p := ⟨_, rfl⟩
      rw [hp] at hso hri hke
      subst e
      have hx1 : TxSim s.vars.length (m + 1) { x with commits := true } { txR r (tn : Int) with commits := true } := by
        have hx2 := hx.mono (Nat.le_refl _) (Nat.le_succ m)
        exact { hx2 with commits := rfl, left := fun e => ⟨rfl, (hx2.left e).2⟩ }
      obtain ⟨y1, hy1⟩ : ∃ y1, { txR r (tn : Int) with commits := true } = y1 := ⟨_, rfl⟩
      have hyf : y1.puts = (txR r (tn : Int)).puts ∧ y1.stamp = (txR r (tn : Int)).stamp ∧ y1.done = (txR r (tn : Int)).done ∧ y1.reads = (txR r (tn : Int)).reads := by rw [← hy1]; exact ⟨rfl, rfl, rfl, rfl⟩
      rw [hy1] at hx1
      have hs1 : Sim (m + 1) (P.setTx s (tn : Int) (some { x with commits := true })) (setTR r (tn : Int) y1) := h.setTx ht (Nat.le_succ m) hx1
      have htl : tn < r.txs.length := by rw [h.lenR]; exact ht
      cases hpt : x.pointed with
      | true =>
        have hst : 0 < (txR r (tn : Int)).stamp := by have := hx.pointed; rw [hpt] at this; exact of_decide_eq_true this.symm
        obtain ⟨hcm, _, hd0, hd1, hle⟩ := hx.left hpt
        rw [hp] at hd1 hle
        obtain ⟨d, hd⟩ : ∃ d : Nat, (txR r (tn : Int)).done = d := ⟨(txR r (tn : Int)).done.toNat, by omega⟩
        rw [hd] at hd1 hle
        rw [Int.toNat_natCast] at hle
        have hdl : d < p.length := by simpa using hd1
        have hdr : (p.map (·.1)).drop d = (p[d]).1 :: (p.map (·.1)).drop (d + 1) := by
          rw [List.drop_eq_getElem_cons (by simpa using hdl)]; simp
        rw [hdr] at hle
        have hgm : getM p (p[d]).1 = some (p[d]).2 := mem_getM hri (List.getElem_mem hdl)
        have hgd : (sortedR y1.puts 1).getD y1.done.toNat zP = ⟨(p[d]).1, (p[d]).2, 1⟩ := by
          rw [hyf.1, hyf.2.2.1, hso, hd, Int.toNat_natCast, List.getD_eq_getElem?_getD, List.getElem?_map, List.getElem?_eq_getElem hdl]; rfl
        rw [stepE_left h1 hl hpt hle, hp, hgm, stepR_point3 (d := (d : Int)) h2 hlR (by rw [hyf.2.1]; exact hst) hy1 rfl rfl hgd rfl rfl (by rw [hyf.2.2.1]; exact hd)]
        have hlen : (sortedR y1.puts 1).length = p.length := by
          rw [hyf.1, hso, List.length_map]
        rw [hlen]
        simp only [Option.getD_some]
        have hs2 := hs1.setVar (p[d]).1 ⟨(p[d]).2, x.stamp, -1⟩ (.inl rfl)
        have hvv : (⟨(p[d]).2, y1.stamp, -1⟩ : PVar) = ⟨(p[d]).2, x.stamp, -1⟩ := by rw [hyf.2.1, hx.stamp]
        rw [hvv]
        by_cases hlast : d + 1 < p.length
        · rw [if_pos (by simpa using (by omega : (d : Int) + 1 < (p.length : Int))), if_neg (by simp; omega)]
          refine ⟨rfl, rfl, ?_⟩
          refine hs2.setTx ht (Nat.le_refl _) (show OptSim _ _ (some _) _ from ?_)
          have hx3 := hx1.mono (nv' := (P.setVar (P.setTx s (tn : Int) (some { x with commits := true })) (p[d]).1 ⟨(p[d]).2, x.stamp, -1⟩).vars.length) (by simp [P.setVar, P.setTx]) (Nat.le_refl _)
          exact { hx3 with
            left := fun e => ⟨rfl, hl1, by show (0 : Int) ≤ (d : Int) + 1; omega, by
              show (d : Int) + 1 < ((x.parts.getD 0 []).map (·.1)).length
              rw [hp, List.length_map]; omega, by
              show (p.map (·.1)).drop (d + 1) = ((x.parts.getD 0 []).map (·.1)).drop ((d : Int) + 1).toNat
              rw [hp, show ((d : Int) + 1).toNat = d + 1 by omega]⟩
            done := fun e => by have e : x.pointed = false := e; rw [hpt] at e; cases e }
        · rw [if_neg (by simpa using (by omega : ¬ (d : Int) + 1 < (p.length : Int))), if_pos (by
            rw [List.drop_eq_nil_of_le (by rw [List.length_map]; omega)]; rfl)]
          exact ⟨rfl, rfl, hs2.setTx ht (Nat.le_refl _) (show OptSim _ _ none zR from rfl)⟩
      | false =>
        have hst : ¬ 0 < (txR r (tn : Int)).stamp := by have := hx.pointed; rw [hpt] at this; exact of_decide_eq_false this.symm
        have hsR : sortedR y1.puts 1 = p.map (fun e => ⟨e.1, e.2, 1⟩) := by rw [hyf.1]; exact hso
        have hst1 : ¬ 0 < y1.stamp := by rw [hyf.2.1]; exact hst
        have hkp : keysM (x.parts.getD 0 []) = p.map (·.1) := by rw [hp]; rfl
        have hle := h.lock_eq (tn : Int) p
        cases hlk : lockL s (tn : Int) (p.map (·.1)) with
        | some n =>
          rw [hlk] at hle
          rw [stepE_lock h1 hl hpt (by rw [hkp]; exact hlk), stepR_locked2 h2 hlR hst1 hy1 rfl hsR hle, h.var_eq]
          obtain ⟨_, hne⟩ := lockL_mem hlk
          rcases h.lock_at n with hv | hv
          · rw [hv]
            rw [if_neg (by decide), if_pos (by decide)]
            exact ⟨rfl, rfl, hs1.setVar n _ (.inr ⟨by show (0 : Int) ≤ (tn : Int); omega, by show (tn : Int) < 8; omega⟩)⟩
          · rw [if_pos (decide_eq_true hv.1), if_neg (by simp; omega)]
            exact ⟨rfl, rfl, hs1⟩
        | none =>
          rw [hlk] at hle
          rw [stepE_rest h1 hl hpt (by rw [hkp]; exact hlk), stepR_free2 h2 hlR hst1 hy1 rfl hsR hle, hkp]
          have hv : validRL r (tn : Int) y1.reads = validL s (tn : Int) x.start x.reads := by
            rw [hyf.2.2.2, hx.reads, h.valid_eq hx.start]
          rw [hv]
          by_cases hf : (validL s (tn : Int) x.start x.reads != 0) = true
          · rw [if_pos hf, if_pos hf]; exact ⟨rfl, rfl, hs1⟩
          · rw [if_neg hf, if_neg hf]
            by_cases hem : p = []
            · subst hem
              exact ⟨rfl, rfl, hs1.setTx ht (Nat.le_refl _) (show OptSim _ _ none zR from rfl)⟩
            · have hpl := List.length_pos_iff.2 hem
              rw [if_neg (by simp [hem]), if_neg (by simp [hem])]
              refine ⟨rfl, rfl, ?_⟩
              have hck := h.ck
              have hnd := hx.done hpt
              have hx4 : TxSim s.vars.length (m + 1) { x with commits := true, pointed := true, stamp := s.clock + 1, left := p.map (·.1) } { y1 with stamp := r.clock + 1 } := by
                exact { hx1 with
                  pointed := by show true = decide (0 < r.clock + 1); rw [h.clock]; simp; omega
                  stamp := by show r.clock + 1 = s.clock + 1; rw [h.clock]
                  left := fun _ => ⟨rfl, hl1, by show (0 : Int) ≤ y1.done; rw [hyf.2.2.1]; omega, by
                    show y1.done < ((x.parts.getD 0 []).map (·.1)).length
                    rw [hp, List.length_map, hyf.2.2.1, hnd]; omega, by
                    show p.map (·.1) = ((x.parts.getD 0 []).map (·.1)).drop y1.done.toNat
                    rw [hp, hyf.2.2.1, hnd]; rfl⟩
                  done := fun e => by cases e }
              have hs5 := (h.setTx ht (Nat.le_succ m) (o := some { x with commits := true, pointed := true, stamp := s.clock + 1, left := p.map (·.1) }) hx4)
              rw [setTR_twice2, h.clock]
              rw [h.clock] at hs5
              refine ⟨rfl, ⟨by show 0 ≤ s.clock + 1; omega, by show s.clock + 1 ≤ ((m + 1 : Nat) : Int); push_cast; omega⟩, hs5.vars, hs5.vl, hs5.lock, hs5.lenE, hs5.lenR, hs5.txs⟩
end
end Go.Proofs.Ytcnbgamalhfkmaa.P
namespace Go.Proofs.Ytcnbgamalhfkmaa.P
set_option linter.unusedVariables false
set_option linter.unusedSimpArgs false
section
variable {m nv : Nat} {s : PEng} {r : REng} {x : PTx} {y : RTx}
theorem TxSim.key0 (h : TxSim nv m x y) : ∀ n ∈ keysM (x.parts.getD 0 []), 0 ≤ n ∧ n < nv := fun n hn => by
  have hl := List.length_pos_iff.2 h.one
  have e0 : x.parts.getD 0 [] = x.parts[0] := by rw [List.getD_eq_getElem?_getD, List.getElem?_eq_getElem hl]; rfl
  rw [e0] at hn
  obtain ⟨e, he, e1⟩ := List.mem_map.1 hn
  have h2 := mem_getM (a := e.1) (b := e.2) (h.rise _ (List.getElem_mem hl)) he
  rw [h.look 0 hl] at h2
  obtain ⟨z, hz, z1, _⟩ := lookP_some h2
  rw [← e1, ← z1]; exact h.keys z hz
theorem Sim.isE_of (h : Sim m s r) {n : Int} (hn : 0 ≤ n ∧ n < s.vars.length) : isE s n = true ∧ in64 n := ⟨isE_iff.2 hn, by have := h.vl; unfold in64; omega⟩
theorem Sim.stepOK (h : Sim m s r) (hm : m ≤ 900) (hx : TxSim s.vars.length m x y) : StepOK s x where
  one := hx.one
  few := by have := hx.plen; omega
  small := by
    have hl := List.length_pos_iff.2 hx.one
    have e0 : x.parts.getD 0 [] = x.parts[0] := by rw [List.getD_eq_getElem?_getD, List.getElem?_eq_getElem hl]; rfl
    rw [e0]
    have := load_mem (List.getElem_mem hl)
    have := hx.load
    omega
  keys := fun n hn => h.isE_of (hx.key0 n hn)
  reads := fun n hn => (h.isE_of (hx.rin n hn)).1
  short := by have := hx.rlen; omega
  left := fun hp => by
    obtain ⟨_, h1, h2, h3, h4⟩ := hx.left hp
    obtain ⟨d, hd⟩ : ∃ d : Nat, y.done = d := ⟨y.done.toNat, by omega⟩
    rw [hd] at h3 h4
    rw [Int.toNat_natCast] at h4
    have hdl : d < ((x.parts.getD 0 []).map (·.1)).length := by omega
    rw [List.drop_eq_getElem_cons hdl] at h4
    have hk := h.isE_of (hx.key0 _ (List.getElem_mem hdl))
    refine ⟨_, _, h4, hk.1, hk.2, ?_⟩
    have hl := List.length_pos_iff.2 hx.one
    have e0 : x.parts.getD 0 [] = x.parts[0] := by rw [List.getD_eq_getElem?_getD, List.getElem?_eq_getElem hl]; rfl
    have h5 := load_mem (List.getElem_mem hl)
    have h6 := hx.load
    rw [List.length_drop, List.length_map, e0]
    omega
  clock := by have := h.ck; omega
theorem Sim.rstepOK (h : Sim m s r) (hm : m ≤ 900) (hx : TxSim s.vars.length m x y) : RStepOK r y where
  few := by have := hx.pulen; omega
  vars := fun p hp => by rw [h.is_eq]; exact (h.isE_of (hx.keys p hp)).1
  reads := fun n hn => by rw [hx.reads] at hn; rw [h.is_eq]; exact (h.isE_of (hx.rin n hn)).1
  short := by rw [hx.reads]; have := hx.rlen; omega
  done := fun hst => by
    have hp : x.pointed = true := by rw [hx.pointed]; exact decide_eq_true hst
    obtain ⟨_, h1, h2, h3, h4⟩ := hx.left hp
    rw [(hx.sorted h1).1, List.length_map]
    rw [List.length_map] at h3
    exact ⟨h2, h3⟩
  clock := by rw [h.clock]; have := h.ck; omega
theorem Sim.doOK (h : Sim m s r) (hm : m ≤ 900) (d : PDeed) (hd : d.ok) : DoOK s r d where
  ok := hd
  vl := h.vl
  eo := fun x ho => by
    rcases h.open_ d.t with ⟨h1, _⟩ | ⟨tn, x', e, ht, h0, h1, h2, hc, hx⟩
    · rw [h1] at ho; cases ho
    · rw [h1] at ho
      injection ho with ho
      subst ho
      exact ⟨hx.one, by have := hx.plen; omega, fun p hp => by have := load_mem hp; have := hx.load; omega, by have := hx.rlen; omega, fun n hn => (h.isE_of (hx.rin n hn)).1⟩
  es := fun x ho => by
    rcases h.of d.t with ⟨h1, _⟩ | ⟨tn, x', e, ht, h1, h2, hx⟩
    · rw [h1] at ho; cases ho
    · rw [h1] at ho
      injection ho with ho
      subst ho
      exact h.stepOK hm hx
  rl := by rw [h.vars]; exact h.vl
  ro := fun ho => by
    rcases h.open_ d.t with ⟨_, h2⟩ | ⟨tn, x', e, ht, h0, h1, h2, hc, hx⟩
    · rw [h2] at ho; cases ho
    · refine ⟨by have := hx.pulen; omega, ?_, ?_, by rw [hx.reads]; have := hx.rlen; omega, fun n hn => by rw [hx.reads] at hn; rw [h.is_eq]; exact (h.isE_of (hx.rin n hn)).1⟩
      · rw [hx.parts]; have := List.length_pos_iff.2 hx.one; omega
      · rw [hx.parts]; have := hx.plen; omega
  rs := fun ho => by
    rcases h.of d.t with ⟨_, h2⟩ | ⟨tn, x', e, ht, h1, h2, hx⟩
    · rw [h2] at ho; cases ho
    · exact h.rstepOK hm hx
theorem Sim.does (h : Sim m s r) (d : PDeed) : (doR r d).1 = (doE s d).1 ∧ (doR r d).2.1 = (doE s d).2.1 ∧ Sim (m + 1) (doE s d).2.2 (doR r d).2.2 := by
  obtain ⟨k, t, n, v⟩ := d
  have hm := h.mono (Nat.le_succ m)
  unfold doR doE
  dsimp only
  by_cases h0 : k = 0
  · rw [if_pos h0, if_pos h0]; obtain ⟨a, b⟩ := h.begin t; exact ⟨rfl, a, b.mono (Nat.le_succ m)⟩
  rw [if_neg h0, if_neg h0]
  by_cases h1 : k = 1
  · rw [if_pos h1, if_pos h1]; exact h.read t n
  rw [if_neg h1, if_neg h1]
  by_cases h2 : k = 2
  · rw [if_pos h2, if_pos h2]; obtain ⟨a, b⟩ := h.write t n v; exact ⟨rfl, a, b⟩
  rw [if_neg h2, if_neg h2]
  by_cases h3 : k = 3
  · rw [if_pos h3, if_pos h3]; exact h.step t
  rw [if_neg h3, if_neg h3]
  by_cases h4 : k = 4
  · rw [if_pos h4, if_pos h4]; obtain ⟨a, b⟩ := h.part t; exact ⟨rfl, a, b⟩
  rw [if_neg h4, if_neg h4]
  by_cases h5 : k = 5
  · rw [if_pos h5, if_pos h5]; obtain ⟨a, b⟩ := h.shut t true; exact ⟨rfl, a, b.mono (Nat.le_succ m)⟩
  rw [if_neg h5, if_neg h5]
  by_cases h6 : k = 6
  · rw [if_pos h6, if_pos h6]; obtain ⟨a, b⟩ := h.shut t false; exact ⟨rfl, a, b.mono (Nat.le_succ m)⟩
  rw [if_neg h6, if_neg h6]
  by_cases h7 : k = 7
  · rw [if_pos h7, if_pos h7]; obtain ⟨a, b⟩ := h.abort t; exact ⟨rfl, a, b.mono (Nat.le_succ m)⟩
  rw [if_neg h7, if_neg h7]
  by_cases h8 : k = 8
  · rw [if_pos h8, if_pos h8]; obtain ⟨a, b, c⟩ := h.make v; exact ⟨a, b, c.mono (Nat.le_succ m)⟩
  rw [if_neg h8, if_neg h8]
  by_cases h9 : k = 9
  · rw [if_pos h9, if_pos h9]; exact ⟨rfl, h.valid t, hm⟩
  rw [if_neg h9, if_neg h9]
  exact ⟨rfl, rfl, hm⟩
theorem sim_beg : Sim 0 (begE 4) (begR 4) where
  clock := rfl
  ck := ⟨by decide, by decide⟩
  vars := rfl
  vl := by decide
  lock := fun v hv => by
    have : (begE 4).vars = [⟨10, 0, -1⟩, ⟨11, 0, -1⟩, ⟨12, 0, -1⟩, ⟨13, 0, -1⟩] := rfl
    rw [this] at hv
    simp at hv
    rcases hv with rfl | rfl | rfl | rfl <;> exact .inl rfl
  lenE := rfl
  lenR := rfl
  txs := fun t ht => by
    match t, ht with
    | 0, _ => rfl | 1, _ => rfl | 2, _ => rfl | 3, _ => rfl | 4, _ => rfl | 5, _ => rfl | 6, _ => rfl | 7, _ => rfl
end
end Go.Proofs.Ytcnbgamalhfkmaa.P
