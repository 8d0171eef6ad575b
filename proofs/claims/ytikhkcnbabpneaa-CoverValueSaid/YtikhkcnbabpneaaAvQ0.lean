/- Plain laws: what few, Cut and count tell. -/
import Derived.Test.YtikhkcnbabpneaaAvHB
import Derived.Test.YtikhkcnbabpneaaAvPx36
import Derived.Test.YtikhkcnbabpneaaAvPx37
import Derived.Test.YtikhkcnbabpneaaAvPx38
namespace Go.Proofs.Ytikhkcnbabpneaa.P
open Go.RowKit Go.Proofs.YtikhkcnbabpneaaW.PrintWords Go.Proofs.YtikhkcnbabpneaaW.PrintLast Go.Proofs.YtikhkcnbabpneaaW.PrintMore
set_option linter.unusedVariables false
set_option linter.unusedSimpArgs false
def Ends {α : Type} (f : Nat → Option α) (v : α) : Prop := ∃ n, ∀ k, n ≤ k → f k = some v
theorem Ends.step {α : Type} {f g : Nat → Option α} {v : α} (h : Ends g v) (he : ∀ k, f (k + 1) = g k) : Ends f v := by
 obtain ⟨n, hn⟩ := h
 refine ⟨n + 1, fun k hk => ?_⟩
 obtain ⟨k, rfl⟩ : ∃ j, k = j + 1 := ⟨k - 1, by omega⟩
 rw [he]; exact hn k (by omega)
theorem Ends.bind {α β : Type} {f : Nat → Option α} {g : Nat → α → Option β} {v : α} {u : β} (h : Ends f v) (hg : Ends (fun k => g k v) u) : Ends (fun k => (f k).bind (g k)) u := by
 obtain ⟨n, hn⟩ := h
 obtain ⟨m, hm⟩ := hg
 exact ⟨max n m, fun k hk => by
  show (f k).bind (g k) = some u
  rw [hn k (by omega)]; exact hm k (by omega)⟩
theorem Ends.const {α : Type} {f : Nat → Option α} {v : α} (h : ∀ k, f k = some v) : Ends f v := ⟨0, fun k _ => h k⟩
theorem Ends.congr {α : Type} {f g : Nat → Option α} {v : α} (h : Ends g v) (he : ∀ k, f k = g k) : Ends f v := by
 have : f = g := funext he
 rw [this]; exact h
mutual
def nodes : S25 → Nat
 | ⟨_, _, _, _, _, l⟩ => 1 + nodesL l
def nodesL : List S25 → Nat
 | [] => 0
 | p :: t => nodes p + nodesL t
end
mutual
def dep : S25 → Nat
 | ⟨_, _, _, _, _, l⟩ => 1 + depL l
def depL : List S25 → Nat
 | [] => 0
 | p :: t => max (dep p) (depL t)
end
theorem dep_eq (p : S25) : dep p = 1 + depL p.f5 := by cases p; simp [dep]
theorem depL_mem {p : S25} {l : List S25} (h : p ∈ l) : dep p ≤ depL l := by
 induction l with
 | nil => cases h
 | cons q t ih =>
  simp only [depL]
  rcases List.mem_cons.1 h with e | h
  ·
   subst e; omega
  ·
   have := ih h; omega
theorem depL_append (l : List S25) (s : S25) : depL (l ++ [s]) = max (depL l) (dep s) := by
 induction l with
 | nil => simp [depL]
 | cons p t ih => simp only [List.cons_append, depL, ih]; omega
theorem nodes_eq (p : S25) : nodes p = 1 + nodesL p.f5 := by cases p; simp [nodes]
theorem nodesL_cons (p : S25) (t : List S25) : nodesL (p :: t) = nodes p + nodesL t := by simp [nodesL]
theorem nodesL_nil : nodesL [] = 0 := by simp [nodesL]
theorem nodesL_append (l m : List S25) : nodesL (l ++ m) = nodesL l + nodesL m := by
 induction l with
 | nil => simp [nodesL_nil]
 | cons p t ih => simp only [List.cons_append, nodesL_cons, ih]; omega
theorem nodes_mem {p : S25} {l : List S25} (h : p ∈ l) : nodes p ≤ nodesL l := by
 induction l with
 | nil => cases h
 | cons q t ih =>
  rw [nodesL_cons]
  rcases List.mem_cons.1 h with e | h
  ·
   subst e; omega
  ·
   have := ih h; omega
theorem nodes_pos (p : S25) : 1 ≤ nodes p := by rw [nodes_eq]; omega
theorem length_nodes (l : List S25) : l.length ≤ nodesL l := by
 induction l with
 | nil => simp
 | cons p t ih => rw [nodesL_cons]; have := nodes_pos p; simp; omega
theorem node_ind {P : S25 → Prop} (h : ∀ p, (∀ q ∈ p.f5, P q) → P p) : ∀ p, P p := by
 have : ∀ n p, nodes p ≤ n → P p := by
  intro n
  induction n with
  | zero => intro p hp; have := nodes_pos p; omega
  | succ n ih =>
   intro p hp
   refine h p fun q hq => ih q ?_
   have := nodes_mem hq
   rw [nodes_eq] at hp
   omega
 exact fun p => this _ p (Nat.le_refl _)
theorem eta25 (s : S25) : (⟨s.f0, s.f1, s.f2, s.f3, s.f4, s.f5⟩ : S25) = s := by cases s; rfl
theorem wrap_small {x : Int} (h0 : -4611686018427387904 ≤ x) (h1 : x ≤ 4611686018427387904) : wrap64 x = x := by unfold wrap64; omega
theorem count_loop (p : S25) (hk : ∀ q ∈ p.f5, Ends (fun k => selvagelaw09_count.f k q.f0 q.f1 q.f2 q.f3 q.f4 q.f5) (nodes q : Int)) : ∀ (d i : Nat) (acc : Int), i + d = p.f5.length → p.f5.length ≤ 1000000 → 0 ≤ acc → acc + nodesL (p.f5.drop i) ≤ 2000000 →
 Ends (fun k => selvagelaw09_count.l0 k acc (i : Int) p.f0 p.f1 p.f2 p.f3 p.f4 p.f5) (acc + nodesL (p.f5.drop i)) := by
 intro d
 induction d with
 | zero =>
  intro i acc hi hl h0 h1
  rw [List.drop_of_length_le (by omega), nodesL_nil]
  refine Ends.step (g := fun _ => some acc) (by simpa using Ends.const (fun _ => rfl)) fun k => ?_
  simp only [selvagelaw09_count.l0]
  rw [if_neg (by omega)]
 | succ d ih =>
  intro i acc hi hl h0 h1
  have hlt : i < p.f5.length := by omega
  have hd : p.f5.drop i = p.f5[i] :: p.f5.drop (i + 1) := List.drop_eq_getElem_cons hlt
  rw [hd, nodesL_cons] at h1 ⊢
  have hq := hk p.f5[i] (List.getElem_mem _)
  have hih := ih (i + 1) (acc + nodes p.f5[i]) (by omega) hl (by omega) (by omega)
  have he : acc + ((nodes p.f5[i] + nodesL (p.f5.drop (i + 1)) : Nat) : Int) = acc + nodes p.f5[i] + nodesL (p.f5.drop (i + 1)) := by omega
  rw [he]
  refine Ends.step (Ends.bind hq (g := fun k t => selvagelaw09_count.l0 k (wrap64 (acc + t)) (wrap64 ((i : Int) + 1)) p.f0 p.f1 p.f2 p.f3 p.f4 p.f5) ?_) fun k => ?_
  ·
   show Ends (fun k => selvagelaw09_count.l0 k (wrap64 (acc + (nodes p.f5[i] : Int))) (wrap64 ((i : Int) + 1)) p.f0 p.f1 p.f2 p.f3 p.f4 p.f5) _
   rw [wrap_succ (by omega), wrap_small (by omega) (by omega)]
   exact hih
  ·
   show selvagelaw09_count.l0 (k + 1) acc (i : Int) p.f0 p.f1 p.f2 p.f3 p.f4 p.f5 = _
   rw [selvagelaw09_count.l0, if_pos (by omega), if_pos (by omega), rdT_at p.f5 i hlt]
theorem count_ends : ∀ p : S25, nodes p ≤ 1000000 → Ends (fun k => selvagelaw09_count.f k p.f0 p.f1 p.f2 p.f3 p.f4 p.f5) (nodes p : Int) := by
 refine node_ind fun p ih hp => ?_
 rw [nodes_eq] at hp ⊢
 have hk : ∀ q ∈ p.f5, Ends (fun k => selvagelaw09_count.f k q.f0 q.f1 q.f2 q.f3 q.f4 q.f5) (nodes q : Int) := fun q hq => ih q hq (by have := nodes_mem hq; omega)
 have := count_loop p hk p.f5.length 0 1 (by omega) (by have := length_nodes p.f5; omega) (by omega) (by simp; omega)
 rw [List.drop_zero] at this
 refine Ends.step (g := fun k => selvagelaw09_count.l0 k 1 0 p.f0 p.f1 p.f2 p.f3 p.f4 p.f5) ?_ fun k => ?_
 ·
  have he : (((1 + nodesL p.f5 : Nat)) : Int) = 1 + (nodesL p.f5 : Int) := by omega
  rw [he]; exact this
 ·
  simp only [selvagelaw09_count.f]
def Nd : Nat → Nat
 | 0 => 1
 | d + 1 => 1 + 5 * Nd d
def tup (s : S25) : Int × ByteArray × Int × Int × List ByteArray × List S25 := (s.f0, s.f1, s.f2, s.f3, s.f4, s.f5)
theorem cut_loop (p : S25) (dp : Nat) (hdp : dp ≤ 3) (M : Nat) (hk : ∀ q ∈ p.f5, ∃ s, Ends (fun k => selvageref09_Cut.f k q.f0 q.f1 q.f2 q.f3 q.f4 q.f5 (dp : Int)) (tup s) ∧ nodes s ≤ M ∧ dep s ≤ dp + 1) (y0 : Int) (y1 : ByteArray) (y2 y3 : Int) :
 ∀ (d i : Nat) (acc : List S25), i + d = 5 → acc.length ≤ i → ∃ out, Ends (fun k => selvageref09_Cut.l0 k ((dp + 1 : Nat) : Int) (i : Int) p.f0 p.f1 p.f2 p.f3 p.f4 p.f5 y0 y1 y2 y3 acc) (y0, y1, y2, y3, [], out) ∧ nodesL out ≤ nodesL acc + d * M ∧ depL out ≤ max (depL acc) (dp + 1) := by
 intro d
 induction d with
 | zero =>
  intro i acc hi ha
  refine ⟨acc, Ends.step (g := fun _ => some (y0, y1, y2, y3, [], acc)) (Ends.const fun _ => rfl) fun k => ?_, by omega, by omega⟩
  rw [selvageref09_Cut.l0]
  split
  ·
   rw [if_neg (by omega)]
  ·
   rfl
 | succ d ih =>
  intro i acc hi ha
  by_cases hlt : i < p.f5.length
  ·
   obtain ⟨s, hs, hM, hD⟩ := hk p.f5[i] (List.getElem_mem _)
   obtain ⟨out, ho, hn, hd⟩ := ih (i + 1) (acc ++ [s]) (by omega) (by simp; omega)
   rw [depL_append] at hd
   refine ⟨out, ?_, ?_, by omega⟩
   ·
    refine Ends.step (Ends.bind hs (g := fun k bt => if acc.length < 1599289640401 then (selvageref09_Cut.l0 k ((dp + 1 : Nat) : Int) (wrap64 ((i : Int) + 1)) p.f0 p.f1 p.f2 p.f3 p.f4 p.f5 y0 y1 y2 y3 (acc ++ [(⟨bt.1, bt.2.1, bt.2.2.1, bt.2.2.2.1, bt.2.2.2.2.1, bt.2.2.2.2.2⟩ : S25)])) else none) ?_) fun k => ?_
    ·
     refine Ends.congr ho fun k => ?_
     show (if acc.length < 1599289640401 then (selvageref09_Cut.l0 k ((dp + 1 : Nat) : Int) (wrap64 ((i : Int) + 1)) p.f0 p.f1 p.f2 p.f3 p.f4 p.f5 y0 y1 y2 y3 (acc ++ [(⟨s.f0, s.f1, s.f2, s.f3, s.f4, s.f5⟩ : S25)])) else none) = _
     rw [if_pos (by omega), wrap_succ (by omega), eta25]
    ·
     show selvageref09_Cut.l0 (k + 1) ((dp + 1 : Nat) : Int) (i : Int) p.f0 p.f1 p.f2 p.f3 p.f4 p.f5 y0 y1 y2 y3 acc = _
     rw [selvageref09_Cut.l0, if_pos (by omega), if_pos (by omega), if_pos (by omega), if_pos (by omega), rdT_at p.f5 i hlt]
     have hw : wrap64 (((dp + 1 : Nat) : Int) - 1) = (dp : Int) := by rw [wrap_small (by omega) (by omega)]; omega
     rw [hw]
   ·
    rw [nodesL_append, nodesL_cons, nodesL_nil] at hn
    rw [Nat.add_mul]
    omega
  ·
   refine ⟨acc, Ends.step (g := fun _ => some (y0, y1, y2, y3, [], acc)) (Ends.const fun _ => rfl) fun k => ?_, by omega, by omega⟩
   rw [selvageref09_Cut.l0, if_neg (by omega)]
def cutT (p : S25) : ByteArray := if (p.f1.size : Int) > 8 then p.f1.extract 0 8 else p.f1
theorem cut_f (p : S25) (d : Int) {v : List S25} (h : Ends (fun k => selvageref09_Cut.l0 k d 0 p.f0 p.f1 p.f2 p.f3 p.f4 p.f5 p.f0 (cutT p) p.f2 0 []) (p.f0, cutT p, p.f2, 0, [], v)) :
 Ends (fun k => selvageref09_Cut.f k p.f0 p.f1 p.f2 p.f3 p.f4 p.f5 d) (p.f0, cutT p, p.f2, 0, [], v) := by
 have hj : Ends (fun k => selvageref09_Cut.j0 k d p.f0 p.f1 p.f2 p.f3 p.f4 p.f5 p.f0 (cutT p) p.f2 0) (p.f0, cutT p, p.f2, 0, [], v) :=
  h.step fun k => by simp only [selvageref09_Cut.j0]
 refine hj.step fun k => ?_
 simp only [selvageref09_Cut.f]
 unfold cutT
 by_cases h8 : (p.f1.size : Int) > 8
 ·
  rw [if_pos h8, if_pos (by decide), if_pos (by omega), if_pos h8]
 ·
  rw [if_neg h8, if_neg h8]
theorem cut_ends : ∀ d : Nat, d ≤ 3 → ∀ p : S25, ∃ s, Ends (fun k => selvageref09_Cut.f k p.f0 p.f1 p.f2 p.f3 p.f4 p.f5 (d : Int)) (tup s) ∧ nodes s ≤ Nd d ∧ dep s ≤ d + 1 := by
 intro d
 induction d with
 | zero =>
  intro _ p
  refine ⟨⟨p.f0, cutT p, p.f2, 0, [], []⟩, cut_f p ((0 : Nat) : Int) ?_, by rw [nodes_eq]; simp [nodesL_nil, Nd], by rw [dep_eq]; simp [depL]⟩
  refine Ends.step (g := fun _ => some (p.f0, cutT p, p.f2, 0, [], [])) (Ends.const fun _ => rfl) fun k => ?_
  rw [selvageref09_Cut.l0]
  split
  ·
   rw [if_pos (by decide), if_neg (by decide)]
  ·
   rfl
 | succ d ih =>
  intro hd p
  have hk : ∀ q ∈ p.f5, ∃ s, Ends (fun k => selvageref09_Cut.f k q.f0 q.f1 q.f2 q.f3 q.f4 q.f5 (d : Int)) (tup s) ∧ nodes s ≤ Nd d ∧ dep s ≤ d + 1 := fun q _ => ih (by omega) q
  obtain ⟨out, ho, hn, hdd⟩ := cut_loop p d (by omega) (Nd d) hk p.f0 (cutT p) p.f2 0 5 0 [] (by omega) (by simp)
  exact ⟨⟨p.f0, cutT p, p.f2, 0, [], out⟩, cut_f p ((d + 1 : Nat) : Int) ho, by rw [nodes_eq]; simp only [Nd]; rw [nodesL_nil] at hn; omega, by rw [dep_eq]; simp only [depL] at hdd ⊢; omega⟩
theorem few_loop (l : List S25) (hl : l.length ≤ 9223372036854775807) : ∀ (d i : Nat) (acc : List S25), i + d = l.length → acc.length ≤ 5 → (∀ p ∈ acc, nodes p ≤ 9 ∧ dep p ≤ 4) →
 ∃ rows, Ends (fun k => selvagelaw09_few.l0 k l 5 acc (i : Int)) rows ∧ rows.length ≤ 5 ∧ ∀ p ∈ rows, nodes p ≤ 9 ∧ dep p ≤ 4 := by
 intro d
 induction d with
 | zero =>
  intro i acc hi ha hp
  refine ⟨acc, Ends.step (g := fun k => selvagelaw09_few.j1 k l 5 acc (i : Int) false) ?_ fun k => ?_, ha, hp⟩
  ·
   refine Ends.step (g := fun _ => some acc) (Ends.const fun _ => rfl) fun k => ?_
   rw [selvagelaw09_few.j1, if_neg (by decide)]
  ·
   rw [selvagelaw09_few.l0, if_neg (by omega)]
 | succ d ih =>
  intro i acc hi ha hp
  have hlt : i < l.length := by omega
  by_cases h5 : acc.length < 5
  ·
   obtain ⟨s, hs, hM, hD⟩ := cut_ends 3 (by omega) l[i]
   have hN : Nd 3 = 156 := rfl
   rw [hN] at hM
   have hcnt := count_ends s (by omega)
   have hw : wrap64 ((i : Int) + 1) = ((i + 1 : Nat) : Int) := by unfold wrap64; omega
   have hgo : ∀ rows (acc2 : List S25), (acc2 = if (nodes s : Int) ≤ 9 then acc ++ [s] else acc) → Ends (fun k => selvagelaw09_few.l0 k l 5 acc2 ((i + 1 : Nat) : Int)) rows → Ends (fun k => selvagelaw09_few.l0 k l 5 acc (i : Int)) rows := by
    intro rows acc2 hacc h
    refine Ends.step (g := fun k => selvagelaw09_few.j1 k l 5 acc (i : Int) true) ?_ fun k => ?_
    ·
     refine Ends.step (Ends.bind hs (g := fun k bt => (selvagelaw09_count.f k bt.1 bt.2.1 bt.2.2.1 bt.2.2.2.1 bt.2.2.2.2.1 bt.2.2.2.2.2).bind fun t => (if t ≤ 9 then (if acc.length < 1599289640401 then (selvagelaw09_few.l0 k l 5 (acc ++ [(⟨bt.1, bt.2.1, bt.2.2.1, bt.2.2.2.1, bt.2.2.2.2.1, bt.2.2.2.2.2⟩ : S25)]) (wrap64 ((i : Int) + 1))) else (none)) else (selvagelaw09_few.l0 k l 5 acc (wrap64 ((i : Int) + 1))))) ?_) fun k => ?_
     ·
      refine Ends.bind hcnt (g := fun k t => (if t ≤ 9 then (if acc.length < 1599289640401 then (selvagelaw09_few.l0 k l 5 (acc ++ [(⟨s.f0, s.f1, s.f2, s.f3, s.f4, s.f5⟩ : S25)]) (wrap64 ((i : Int) + 1))) else (none)) else (selvagelaw09_few.l0 k l 5 acc (wrap64 ((i : Int) + 1))))) ?_
      refine Ends.congr h fun k => ?_
      show (if (nodes s : Int) ≤ 9 then _ else _) = _
      rw [hw, eta25, hacc]
      split
      ·
       rw [if_pos (by omega)]
      ·
       rfl
     ·
      show selvagelaw09_few.j1 (k + 1) l 5 acc (i : Int) true = _
      rw [selvagelaw09_few.j1, if_pos rfl, if_pos (by omega), if_pos (by omega), rdT_at l i hlt]
      rfl
    ·
     rw [selvagelaw09_few.l0, if_pos (by omega)]
     have hd : decide ((acc.length : Int) < 5) = true := by simpa using (by omega : (acc.length : Int) < 5)
     rw [hd]
   by_cases h9 : (nodes s : Int) ≤ 9
   ·
    obtain ⟨rows, hr, hr5, hr9⟩ := ih (i + 1) (acc ++ [s]) (by omega) (by simp; omega) (fun p hp' => by
     rcases List.mem_append.1 hp' with h | h
     ·
      exact hp p h
     ·
      rw [List.mem_singleton.1 h]; exact ⟨by omega, hD⟩)
    exact ⟨rows, hgo rows _ (by rw [if_pos h9]) hr, hr5, hr9⟩
   ·
    obtain ⟨rows, hr, hr5, hr9⟩ := ih (i + 1) acc (by omega) ha hp
    exact ⟨rows, hgo rows _ (by rw [if_neg h9]) hr, hr5, hr9⟩
  ·
   refine ⟨acc, Ends.step (g := fun k => selvagelaw09_few.j1 k l 5 acc (i : Int) false) ?_ fun k => ?_, ha, hp⟩
   ·
    refine Ends.step (g := fun _ => some acc) (Ends.const fun _ => rfl) fun k => ?_
    rw [selvagelaw09_few.j1, if_neg (by decide)]
   ·
    rw [selvagelaw09_few.l0, if_pos (by omega)]
    have hd : decide ((acc.length : Int) < 5) = false := by simpa using (by omega : (5 : Int) ≤ (acc.length : Int))
    rw [hd]
theorem few_ends4 (l : List S25) (hl : l.length ≤ 9223372036854775807) : ∃ rows, Ends (fun k => selvagelaw09_few.f k l 5) rows ∧ rows.length ≤ 5 ∧ ∀ p ∈ rows, nodes p ≤ 9 ∧ dep p ≤ 4 := by
 obtain ⟨rows, h, h5, h9⟩ := few_loop l hl l.length 0 [] (by omega) (by simp) (by simp)
 exact ⟨rows, h.congr fun k => by unfold selvagelaw09_few.f; rfl, h5, h9⟩
end Go.Proofs.Ytikhkcnbabpneaa.P