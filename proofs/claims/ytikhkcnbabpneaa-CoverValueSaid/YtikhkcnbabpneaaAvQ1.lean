/- Plain laws: what size tells of a pattern. -/
import Derived.Test.YtikhkcnbabpneaaAvQ0
import Derived.Test.YtikhkcnbabpneaaAvPx9
import Derived.Test.YtikhkcnbabpneaaAvHB
namespace Go.Proofs.Ytikhkcnbabpneaa.P
open Go.RowKit Go.Proofs.YtikhkcnbabpneaaW.PrintWords Go.Proofs.YtikhkcnbabpneaaW.PrintLast Go.Proofs.YtikhkcnbabpneaaW.PrintMore
set_option linter.unusedVariables false
set_option linter.unusedSimpArgs false
theorem plain_f (f0 : Int) (f1 : ByteArray) (f2 f3 : Int) (f4 : List ByteArray) (f5 : List S25) : cover_plain.f f0 f1 f2 f3 f4 f5 = some (plainB f0 f1 f2 f4 f5) := rfl
mutual
def okB (cons : List S61) : S25 → Bool
 | ⟨f0, f1, f2, _, f4, f5⟩ => plainB f0 f1 f2 f4 f5 && (if f0 = 24 ∨ f0 = 4 then true else if f0 = 1 then decide (0 ≤ f2) else if f0 = 5 then cons.any (isName f1) && decide ((findC cons f1).f3 = f5.length) && okL cons f5 else false)
def okL (cons : List S61) : List S25 → Bool
 | [] => true
 | p :: t => okB cons p && okL cons t
end
theorem okB_eq (cons : List S61) (p : S25) : okB cons p = (plainB p.f0 p.f1 p.f2 p.f4 p.f5 && (if p.f0 = 24 ∨ p.f0 = 4 then true else if p.f0 = 1 then decide (0 ≤ p.f2) else if p.f0 = 5 then cons.any (isName p.f1) && decide ((findC cons p.f1).f3 = p.f5.length) && okL cons p.f5 else false)) := by
 cases p; simp only [okB]
theorem okL_all (cons : List S61) (l : List S25) : okL cons l = l.all (okB cons) := by
 induction l with
 | nil => simp [okL]
 | cons p t ih => simp [okL, ih]
theorem okL_cons (cons : List S61) (p : S25) (t : List S25) : okL cons (p :: t) = (okB cons p && okL cons t) := by simp [okL]
theorem size_loop (cons : List S61) (l : List S25) (hk : ∀ q ∈ l, ∃ n : Int, Ends (fun k => cover_book_size.f k cons q.f0 q.f1 q.f2 q.f3 q.f4 q.f5) (n, okB cons q) ∧ 0 ≤ n ∧ n ≤ nodes q) (hl : l.length ≤ 1000000) :
 ∀ (d i : Nat) (acc : Int), i + d = l.length → 0 ≤ acc → acc + nodesL (l.drop i) ≤ 30 → ∃ n : Int, Ends (fun k => cover_book_size.l0 k cons acc l (l.length : Int) (i : Int)) (n, okL cons (l.drop i)) ∧ 0 ≤ n ∧ n ≤ acc + nodesL (l.drop i) := by
 intro d
 induction d with
 | zero =>
  intro i acc hi h0 h1
  rw [List.drop_of_length_le (by omega), nodesL_nil]
  refine ⟨acc, Ends.step (g := fun _ => some (acc, true)) (Ends.const fun _ => rfl) fun k => ?_, h0, by omega⟩
  simp only [cover_book_size.l0]
  rw [if_neg (by omega)]
 | succ d ih =>
  intro i acc hi h0 h1
  have hlt : i < l.length := by omega
  have hd : l.drop i = l[i] :: l.drop (i + 1) := List.drop_eq_getElem_cons hlt
  rw [hd, nodesL_cons] at h1
  rw [hd, nodesL_cons, okL_cons]
  obtain ⟨m, hm, hm0, hm1⟩ := hk l[i] (List.getElem_mem _)
  have hw : wrap64 (acc + m) = acc + m := wrap_small (by omega) (by omega)
  have hstep : ∀ {v}, Ends (fun k => if okB cons l[i] = true then (if acc + m > 30 then some (acc + m, false) else cover_book_size.l0 k cons (acc + m) l (l.length : Int) (((i + 1 : Nat)) : Int)) else some (acc + m, false)) v →
   Ends (fun k => cover_book_size.l0 k cons acc l (l.length : Int) (i : Int)) v := by
   intro v h
   refine Ends.step (Ends.bind hm (g := fun k bt => if bt.2 = true then (if wrap64 (acc + bt.1) > 30 then some (wrap64 (acc + bt.1), false) else cover_book_size.l0 k cons (wrap64 (acc + bt.1)) l (l.length : Int) (wrap64 ((i : Int) + 1))) else some (wrap64 (acc + bt.1), false)) ?_) fun k => ?_
   ·
    refine Ends.congr h fun k => ?_
    show (if okB cons l[i] = true then (if wrap64 (acc + m) > 30 then some (wrap64 (acc + m), false) else cover_book_size.l0 k cons (wrap64 (acc + m)) l (l.length : Int) (wrap64 ((i : Int) + 1))) else some (wrap64 (acc + m), false)) = _
    rw [hw, wrap_succ (by omega)]
   ·
    show cover_book_size.l0 (k + 1) cons acc l (l.length : Int) (i : Int) = _
    rw [cover_book_size.l0, if_pos (by omega), if_pos (by omega), if_pos (by omega), rdT_at l i hlt]
  cases hok : okB cons l[i] with
  | false =>
   rw [hok] at hstep
   exact ⟨acc + m, hstep (Ends.const fun _ => by simp), by omega, by omega⟩
  | true =>
   rw [hok] at hstep
   obtain ⟨n, hn, hn0, hn1⟩ := ih (i + 1) (acc + m) (by omega) (by omega) (by omega)
   refine ⟨n, hstep (Ends.congr hn fun k => ?_), hn0, by omega⟩
   rw [if_pos rfl, if_neg (by omega)]
theorem size_ends (cons : List S61) : ∀ p : S25, nodes p ≤ 30 → ∃ n : Int, Ends (fun k => cover_book_size.f k cons p.f0 p.f1 p.f2 p.f3 p.f4 p.f5) (n, okB cons p) ∧ 0 ≤ n ∧ n ≤ nodes p := by
 refine node_ind fun p ih hp => ?_
 have hnp := nodes_pos p
 rw [nodes_eq] at hp
 have hk : ∀ q ∈ p.f5, ∃ n : Int, Ends (fun k => cover_book_size.f k cons q.f0 q.f1 q.f2 q.f3 q.f4 q.f5) (n, okB cons q) ∧ 0 ≤ n ∧ n ≤ nodes q := fun q hq => ih q hq (by have := nodes_mem hq; omega)
 have hl := length_nodes p.f5
 obtain ⟨n, hn, hn0, hn1⟩ := size_loop cons p.f5 hk (by omega) p.f5.length 0 1 (by omega) (by omega) (by simp; omega)
 rw [List.drop_zero] at hn hn1
 rw [okB_eq]
 cases hpl : plainB p.f0 p.f1 p.f2 p.f4 p.f5 with
 | false =>
  refine ⟨0, Ends.step (g := fun _ => some (0, false)) (by simpa using Ends.const (fun _ => rfl)) fun k => ?_, by omega, by omega⟩
  show cover_book_size.f (k + 1) cons p.f0 p.f1 p.f2 p.f3 p.f4 p.f5 = _
  rw [cover_book_size.f, plain_f, hpl]
  rfl
 | true =>
  rw [Bool.true_and]
  have hstep : ∀ {v}, Ends (fun k => cover_book_size.j0 k cons p.f0 (decide (p.f0 = 24 ∨ p.f0 = 4)) p.f0 p.f1 p.f2 p.f3 p.f4 p.f5) v → Ends (fun k => cover_book_size.f k cons p.f0 p.f1 p.f2 p.f3 p.f4 p.f5) v := by
   intro v h
   refine Ends.step h fun k => ?_
   show cover_book_size.f (k + 1) cons p.f0 p.f1 p.f2 p.f3 p.f4 p.f5 = _
   rw [cover_book_size.f, plain_f, hpl]
   simp only [Option.bind_some, if_true]
   by_cases h24 : p.f0 = 24
   ·
    simp [h24]
   ·
    rw [if_neg h24]
    have : (p.f0 == 4) = decide (p.f0 = 24 ∨ p.f0 = 4) := by
     by_cases h4 : p.f0 = 4 <;> simp [h24, h4]
    rw [this]
  by_cases ha : p.f0 = 24 ∨ p.f0 = 4
  ·
   rw [if_pos ha]
   refine ⟨1, hstep (Ends.step (g := fun _ => some (1, true)) (Ends.const fun _ => rfl) fun k => ?_), by omega, by omega⟩
   rw [cover_book_size.j0, if_pos (by simpa using ha)]
  ·
   rw [if_neg ha]
   have hd : decide (p.f0 = 24 ∨ p.f0 = 4) = false := by simpa using ha
   rw [hd] at hstep
   by_cases h1 : p.f0 = 1
   ·
    rw [if_pos h1]
    refine ⟨1, hstep (Ends.step (g := fun _ => some (1, decide (0 ≤ p.f2))) (Ends.const fun _ => rfl) fun k => ?_), by omega, by omega⟩
    rw [cover_book_size.j0, if_neg (by decide), if_pos h1]
   ·
    rw [if_neg h1]
    by_cases h5 : p.f0 = 5
    ·
     rw [if_pos h5]
     have hj : ∀ {v} (b : Bool), b = (!(cons.any (isName p.f1)) || decide ((findC cons p.f1).f3 ≠ p.f5.length)) → Ends (fun k => cover_book_size.j1 k cons b p.f0 p.f1 p.f2 p.f3 p.f4 p.f5) v → Ends (fun k => cover_book_size.f k cons p.f0 p.f1 p.f2 p.f3 p.f4 p.f5) v := by
      intro v b hb h
      refine hstep (Ends.step h fun k => ?_)
      rw [cover_book_size.j0, if_neg (by decide), if_neg h1, if_pos h5]
      unfold cover_book_find.f
      simp only [Option.bind_some]
      cases hany : cons.any (isName p.f1) with
      | false =>
       rw [if_neg (by decide), hb, hany]
       rfl
      | true =>
       rw [if_pos rfl, hb, hany]
       have : ((findC cons p.f1).f3 != (p.f5.length : Int)) = (!true || decide ((findC cons p.f1).f3 ≠ p.f5.length)) := by
        by_cases h : (findC cons p.f1).f3 = (p.f5.length : Int) <;> simp [h]
       rw [← this]
       rfl
     cases hb : (!(cons.any (isName p.f1)) || decide ((findC cons p.f1).f3 ≠ p.f5.length)) with
     | true =>
      have hf : (cons.any (isName p.f1) && decide ((findC cons p.f1).f3 = p.f5.length) && okL cons p.f5) = false := by
       cases h7 : cons.any (isName p.f1) <;> simp_all
      rw [hf]
      refine ⟨0, hj true hb.symm (Ends.step (g := fun _ => some (0, false)) (Ends.const fun _ => rfl) fun k => ?_), by omega, by omega⟩
      rw [cover_book_size.j1, if_pos rfl]
     | false =>
      have hf : (cons.any (isName p.f1) && decide ((findC cons p.f1).f3 = p.f5.length) && okL cons p.f5) = okL cons p.f5 := by
       cases h7 : cons.any (isName p.f1) <;> simp_all
      rw [hf]
      refine ⟨n, hj false hb.symm (Ends.step hn fun k => ?_), hn0, ?_⟩
      ·
       rw [cover_book_size.j1, if_neg (by decide)]
       rfl
      ·
       rw [nodes_eq]; omega
    ·
     rw [if_neg h5]
     refine ⟨0, hstep (Ends.step (g := fun _ => some (0, false)) (Ends.const fun _ => rfl) fun k => ?_), by omega, by omega⟩
     rw [cover_book_size.j0, if_neg (by decide), if_neg h1, if_neg h5]
end Go.Proofs.Ytikhkcnbabpneaa.P
/- Plain laws: what together tells; it does not hang on the order of the patterns. -/
namespace Go.Proofs.Ytikhkcnbabpneaa.P
open Go.RowKit Go.Proofs.YtikhkcnbabpneaaW.PrintWords Go.Proofs.YtikhkcnbabpneaaW.PrintLast Go.Proofs.YtikhkcnbabpneaaW.PrintMore
set_option linter.unusedVariables false
set_option linter.unusedSimpArgs false
theorem same_iff {x y : S25} : sameB x y = true ↔ x.f0 = y.f0 ∧ x.f1.toList = y.f1.toList ∧ x.f2 = y.f2 := by
 unfold sameB; simp
theorem same_trans_r {x p o : S25} (h : sameB o p = true) : sameB x o = sameB x p := by
 obtain ⟨h0, h1, h2⟩ := same_iff.1 h
 unfold sameB; rw [h0, h1, h2]
theorem findC_congr (cons : List S61) {a b : ByteArray} (h : a.toList = b.toList) : findC cons a = findC cons b := by
 have : isName a = isName b := by funext c; unfold isName; rw [h]
 unfold findC; rw [this]
theorem ok_kids {cons : List S61} {p : S25} (h : okB cons p = true) : p.f5 = [] ∨ (p.f0 = 5 ∧ (findC cons p.f1).f3 = p.f5.length ∧ cons.any (isName p.f1) = true ∧ ∀ q ∈ p.f5, okB cons q = true) := by
 rw [okB_eq] at h
 by_cases h5 : p.f5 = []
 ·
  exact .inl h5
 ·
  right
  have hl : p.f5.length ≠ 0 := by simpa using h5
  rw [Bool.and_eq_true] at h
  have h0 : p.f0 = 5 := by
   have := h.1
   unfold plainB at this
   simp only [Bool.and_eq_true, Bool.or_eq_true, decide_eq_true_eq, beq_iff_eq] at this
   rcases this.2 with e | e
   ·
    exact absurd e hl
   ·
    exact e
  have h2 := h.2
  rw [h0] at h2
  simp only [show ¬ ((5 : Int) = 24 ∨ (5 : Int) = 4) by decide, if_false, show ¬ (5 : Int) = 1 by decide, if_true, Bool.and_eq_true, decide_eq_true_eq] at h2
  refine ⟨h0, h2.1.2, h2.1.1, ?_⟩
  rw [okL_all] at h2
  exact fun q hq => List.all_eq_true.1 h2.2 q hq
theorem ok_con {cons : List S61} {p : S25} (h : okB cons p = true) (h5 : p.f0 = 5) : (findC cons p.f1).f3 = p.f5.length ∧ cons.any (isName p.f1) = true ∧ p.f2 = 0 := by
 rw [okB_eq] at h
 rw [Bool.and_eq_true] at h
 have h2 := h.2
 rw [h5] at h2
 simp only [show ¬ ((5 : Int) = 24 ∨ (5 : Int) = 4) by decide, if_false, show ¬ (5 : Int) = 1 by decide, if_true, Bool.and_eq_true, decide_eq_true_eq] at h2
 refine ⟨h2.1.2, h2.1.1, ?_⟩
 have := h.1
 unfold plainB at this
 simp only [Bool.and_eq_true, Bool.or_eq_true, decide_eq_true_eq, beq_iff_eq] at this
 rcases this.1.2 with e | e
 ·
  exact e
 ·
  rw [h5] at e; exact absurd e (by decide)
theorem same_kids {cons : List S61} {x p : S25} (hx : okB cons x = true) (hp : okB cons p = true) (h : sameB x p = true) : x.f5.length = p.f5.length := by
 obtain ⟨h0, h1, h2⟩ := same_iff.1 h
 by_cases h5 : p.f0 = 5
 ·
  have a := (ok_con hx (h0.trans h5)).1
  have b := (ok_con hp h5).1
  rw [findC_congr cons h1] at a
  omega
 ·
  have a := ok_kids hx
  have b := ok_kids hp
  rcases a with a | a
  ·
   rcases b with b | b
   ·
    rw [a, b]
   ·
    exact absurd b.1 h5
  ·
   exact absurd (h0.symm.trans a.1) h5
theorem parts_ok {cons : List S61} {l : List S25} {p : S25} (hl : ∀ x ∈ l, okB cons x = true) (hp : okB cons p = true) {q : Nat} (hq : q < p.f5.length) : partsOk l p q = true := by
 unfold partsOk
 rw [List.all_eq_true]
 intro x hx
 cases hs : sameB x p with
 | false => rfl
 | true =>
  have := same_kids (hl x hx) hp hs
  simp only [Bool.not_true, Bool.false_or, decide_eq_true_eq]
  omega
theorem parts_mem {l : List S25} {p : S25} {q : Nat} {y : S25} (h : y ∈ partsL l p q) : ∃ x ∈ l, sameB x p = true ∧ x.f5[q]? = some y := by
 unfold partsL at h
 obtain ⟨x, hx, hy⟩ := List.mem_filterMap.1 h
 split at hy
 ·
  next hs => exact ⟨x, hx, hs, hy⟩
 ·
  cases hy
theorem parts_len (l : List S25) (p : S25) (q : Nat) : (partsL l p q).length ≤ l.length := List.length_filterMap_le _ _
def Pats (cons : List S61) (m : Nat) (l : List S25) : Prop := (∀ p ∈ l, okB cons p = true ∧ nodes p ≤ m) ∧ l.length ≤ 1000000
theorem pats_parts {cons : List S61} {m : Nat} {l : List S25} {p : S25} (h : Pats cons (m + 1) l) (q : Nat) : Pats cons m (partsL l p q) := by
 refine ⟨fun y hy => ?_, Nat.le_trans (parts_len l p q) h.2⟩
 obtain ⟨x, hx, hs, hxy⟩ := parts_mem hy
 have hmem : y ∈ x.f5 := List.mem_of_getElem? hxy
 obtain ⟨ho, hn⟩ := h.1 x hx
 have := nodes_mem hmem
 rw [nodes_eq] at hn
 refine ⟨?_, by omega⟩
 rcases ok_kids ho with e | e
 ·
  rw [e] at hmem; cases hmem
 ·
  exact e.2.2.2 y hmem
theorem pats_filter {cons : List S61} {m : Nat} {l : List S25} (h : Pats cons m l) (f : S25 → Bool) : Pats cons m (l.filter f) :=
 ⟨fun p hp => h.1 p (List.mem_filter.1 hp).1, Nat.le_trans (List.length_filter_le _ _) h.2⟩
def TogP (cons : List S61) : Nat → List S25 → Prop
 | 0, _ => True
 | m + 1, l => (∀ x ∈ l, ∀ y ∈ l, looseB x = false → looseB y = false → unlike cons x y = false) ∧ ∀ p ∈ l, looseB p = false → ∀ q, q < p.f5.length → TogP cons m (partsL l p q)
theorem unlike_iff {cons : List S61} {x y : S25} : unlike cons x y = false ↔ y.f0 = x.f0 ∧ (findC cons y.f1).f1.toList = (findC cons x.f1).f1.toList := by
 unfold unlike; simp
theorem kids_iff (T : List S25 → Prop) (rec_ : List S25 → Option Bool) (l : List S25) (p : S25) (h : ∀ q, q < p.f5.length → partsOk l p q = true ∧ ∃ b, rec_ (partsL l p q) = some b ∧ (b = true ↔ T (partsL l p q))) :
 ∀ d q, q + d = p.f5.length → ∃ b, kidsF rec_ l p d q = some b ∧ (b = true ↔ ∀ j, q ≤ j → j < p.f5.length → T (partsL l p j)) := by
 intro d
 induction d with
 | zero => intro q hq; exact ⟨true, rfl, by simp; omega⟩
 | succ d ih =>
  intro q hq
  obtain ⟨hok, b, hb, hbt⟩ := h q (by omega)
  obtain ⟨b', hb', hbt'⟩ := ih (q + 1) (by omega)
  cases b with
  | false =>
   refine ⟨false, by rw [kidsF, if_pos hok, hb], ⟨fun e => (by cases e), fun e => ?_⟩⟩
   exact hbt.2 (e q (Nat.le_refl _) (by omega))
  | true =>
   refine ⟨b', by rw [kidsF, if_pos hok, hb]; exact hb', hbt'.trans ⟨fun e j h1 h2 => ?_, fun e j h1 h2 => e j (by omega) h2⟩⟩
   by_cases hj : j = q
   ·
    subst hj; exact hbt.1 rfl
   ·
    exact e j (by omega) h2
theorem rows_iff (T : List S25 → Prop) (rec_ : List S25 → Option Bool) (l : List S25) (hlen : ∀ p ∈ l, p.f5.length ≤ 1000000)
 (h : ∀ p ∈ l, ∀ q, q < p.f5.length → partsOk l p q = true ∧ ∃ b, rec_ (partsL l p q) = some b ∧ (b = true ↔ T (partsL l p q)))
 (hs : ∀ x ∈ l, ∀ y ∈ l, sameB x y = true → x.f5.length = y.f5.length) :
 ∀ d i, i + d = l.length → (∀ p ∈ l.take i, ∀ q, q < p.f5.length → T (partsL l p q)) → ∃ b, rowsF rec_ l (l.drop i) i = some b ∧ (b = true ↔ ∀ p ∈ l.drop i, ∀ q, q < p.f5.length → T (partsL l p q)) := by
 intro d
 induction d with
 | zero => intro i hi _; rw [List.drop_of_length_le (by omega)]; exact ⟨true, rfl, by simp⟩
 | succ d ih =>
  intro i hi hg
  have hlt : i < l.length := by omega
  have hd : l.drop i = l[i] :: l.drop (i + 1) := List.drop_eq_getElem_cons hlt
  have hm : l[i] ∈ l := List.getElem_mem _
  have htk : l.take (i + 1) = l.take i ++ [l[i]] := List.take_succ_eq_append_getElem hlt
  rw [hd, rowsF]
  cases hdup : (l.take i).any (fun o => sameB o l[i]) with
  | true =>
   rw [if_pos rfl]
   have hgi : ∀ q, q < l[i].f5.length → T (partsL l l[i] q) := by
    obtain ⟨o, ho, hso⟩ := List.any_eq_true.1 hdup
    have hol := List.mem_of_mem_take ho
    intro q hq
    have hll := hs o hol l[i] hm hso
    have := hg o ho q (by omega)
    have hp : partsL l o q = partsL l l[i] q := by
     unfold partsL
     have : (fun x : S25 => if sameB x o = true then x.f5[q]? else none) = (fun x : S25 => if sameB x l[i] = true then x.f5[q]? else none) := by
      funext x; rw [same_trans_r hso]
     rw [this]
    rw [← hp]; exact this
   obtain ⟨b, hb, hbt⟩ := ih (i + 1) (by omega) (by
    intro p hp
    rw [htk] at hp
    rcases List.mem_append.1 hp with hp | hp
    ·
     exact hg p hp
    ·
     rw [List.mem_singleton.1 hp]; exact hgi)
   refine ⟨b, hb, hbt.trans ⟨fun e p hp => ?_, fun e p hp => e p (List.mem_cons_of_mem _ hp)⟩⟩
   rcases List.mem_cons.1 hp with rfl | hp
   ·
    exact hgi
   ·
    exact e p hp
  | false =>
   rw [if_neg (by decide), if_pos (hlen _ hm)]
   obtain ⟨b, hb, hbt⟩ := kids_iff T rec_ l l[i] (h _ hm) l[i].f5.length 0 (by omega)
   rw [hb]
   cases b with
   | false =>
    refine ⟨false, rfl, ⟨fun e => (by cases e), fun e => ?_⟩⟩
    exact hbt.2 fun j _ hj => e l[i] (List.mem_cons_self ..) j hj
   | true =>
    have hgi : ∀ q, q < l[i].f5.length → T (partsL l l[i] q) := fun q hq => hbt.1 rfl q (Nat.zero_le _) hq
    obtain ⟨b, hb, hbt⟩ := ih (i + 1) (by omega) (by
     intro p hp
     rw [htk] at hp
     rcases List.mem_append.1 hp with hp | hp
     ·
      exact hg p hp
     ·
      rw [List.mem_singleton.1 hp]; exact hgi)
    refine ⟨b, hb, hbt.trans ⟨fun e p hp => ?_, fun e p hp => e p (List.mem_cons_of_mem _ hp)⟩⟩
    rcases List.mem_cons.1 hp with rfl | hp
    ·
     exact hgi
    ·
     exact e p hp
theorem parts_filter (l : List S25) {p : S25} (hp : looseB p = false) (q : Nat) : partsL (l.filter fun x => !looseB x) p q = partsL l p q := by
 unfold partsL
 induction l with
 | nil => rfl
 | cons x t ih =>
  rw [List.filter_cons]
  cases hx : looseB x with
  | false => simp [List.filterMap_cons, ih]
  | true =>
   have hs : sameB x p = false := by
    cases h : sameB x p with
    | false => rfl
    | true =>
     obtain ⟨h0, _, _⟩ := same_iff.1 h
     unfold looseB at hp hx
     rw [h0] at hx
     rw [hx] at hp
     cases hp
   simp [List.filterMap_cons, ih, hs]
theorem unlike_all (cons : List S61) (h : S25) (t : List S25) : (h :: t).any (unlike cons h) = false ↔ ∀ x ∈ h :: t, ∀ y ∈ h :: t, unlike cons x y = false := by
 rw [List.any_eq_false]
 constructor
 ·
  intro e x hx y hy
  have ex : unlike cons h x = false := by have := e x hx; simpa using this
  have ey : unlike cons h y = false := by have := e y hy; simpa using this
  rw [unlike_iff] at ex ey ⊢
  exact ⟨ey.1.trans ex.1.symm, ey.2.trans ex.2.symm⟩
 ·
  intro e x hx
  have := e h (List.mem_cons_self ..) x hx
  simp [this]
theorem tog_iff (cons : List S61) : ∀ (m k : Nat) (l : List S25), m ≤ 1000000 → Pats cons m l → m < k → ∃ b, togF cons k l = some b ∧ (b = true ↔ TogP cons m l) := by
 intro m
 induction m with
 | zero =>
  intro k l _ h hk
  obtain ⟨k, rfl⟩ : ∃ j, k = j + 1 := ⟨k - 1, by omega⟩
  have hl : l = [] := by
   cases l with
   | nil => rfl
   | cons p t =>
    have := (h.1 p (List.mem_cons_self ..)).2
    have := nodes_pos p
    omega
  subst hl
  exact ⟨true, by simp [togF], by simp [TogP]⟩
 | succ m ih =>
  intro k l hm hP hk
  obtain ⟨k, rfl⟩ : ∃ j, k = j + 1 := ⟨k - 1, by omega⟩
  rw [togF, if_pos hP.2]
  have hF := pats_filter hP (fun x => !looseB x)
  have hmem : ∀ x, x ∈ l.filter (fun x => !looseB x) ↔ x ∈ l ∧ looseB x = false := fun x => by rw [List.mem_filter]; simp
  have hparts : ∀ p, looseB p = false → ∀ q, partsL (l.filter fun x => !looseB x) p q = partsL l p q := fun p hp q => parts_filter l hp q
  generalize hls : l.filter (fun x => !looseB x) = ls at hF hmem hparts ⊢
  cases ls with
  | nil =>
   refine ⟨true, rfl, ⟨fun _ => ⟨fun x hx y hy lx => ?_, fun p hp lp => ?_⟩, fun _ => rfl⟩⟩
   ·
    have := (hmem x).2 ⟨hx, lx⟩; cases this
   ·
    have := (hmem p).2 ⟨hp, lp⟩; cases this
  | cons h t =>
   simp only
   cases hu : (h :: t).any (unlike cons h) with
   | true =>
    refine ⟨false, rfl, ⟨fun e => (by cases e), fun e => ?_⟩⟩
    have : (h :: t).any (unlike cons h) = false := (unlike_all cons h t).2 fun x hx y hy => e.1 x ((hmem x).1 hx).1 y ((hmem y).1 hy).1 ((hmem x).1 hx).2 ((hmem y).1 hy).2
    rw [hu] at this; exact this.symm
   | false =>
    rw [if_neg (by decide)]
    have hun := (unlike_all cons h t).1 hu
    have hok : ∀ x ∈ h :: t, okB cons x = true := fun x hx => (hF.1 x hx).1
    obtain ⟨b, hb, hbt⟩ := rows_iff (TogP cons m) (togF cons k) (h :: t) (fun p hp => by
     have := (hF.1 p hp).2
     have h2 := length_nodes p.f5
     rw [nodes_eq] at this; omega)
     (fun p hp q hq => ⟨parts_ok hok (hok p hp) hq, ih k (partsL (h :: t) p q) (by omega) (pats_parts hF q) (by omega)⟩)
     (fun x hx y hy hxy => same_kids (hok x hx) (hok y hy) hxy) (h :: t).length 0 (by omega) (by simp)
    rw [List.drop_zero] at hb hbt
    refine ⟨b, hb, hbt.trans ⟨fun e => ⟨fun x hx y hy lx ly => hun x ((hmem x).2 ⟨hx, lx⟩) y ((hmem y).2 ⟨hy, ly⟩), fun p hp lp q hq => ?_⟩, fun e p hp q hq => ?_⟩⟩
    ·
     rw [← hparts p lp q]; exact e p ((hmem p).2 ⟨hp, lp⟩) q hq
    ·
     have hp' := (hmem p).1 hp
     rw [hparts p hp'.2 q]; exact e.2 p hp'.1 hp'.2 q hq
end Go.Proofs.Ytikhkcnbabpneaa.P
/- Plain laws: means always ends; a row that means any leaves nothing. -/
namespace Go.Proofs.Ytikhkcnbabpneaa.P
open Go.RowKit Go.Proofs.YtikhkcnbabpneaaW.PrintWords Go.Proofs.YtikhkcnbabpneaaW.PrintLast Go.Proofs.YtikhkcnbabpneaaW.PrintMore
set_option linter.unusedVariables false
set_option linter.unusedSimpArgs false
mutual
def nw : S25 → Nat
 | ⟨f0, _, _, _, _, l⟩ => if f0 == 24 || f0 == 4 then 0 else 1 + nwL l
def nwL : List S25 → Nat
 | [] => 0
 | p :: t => nw p + nwL t
end
theorem nw_eq (p : S25) : nw p = if looseB p then 0 else 1 + nwL p.f5 := by cases p; simp only [nw, looseB]; rfl
theorem nwL_cons (p : S25) (t : List S25) : nwL (p :: t) = nw p + nwL t := by simp only [nwL]
theorem nwL_nil : nwL [] = 0 := by simp only [nwL]
theorem nwL_append (l m : List S25) : nwL (l ++ m) = nwL l + nwL m := by
 induction l with
 | nil => simp [nwL_nil]
 | cons p t ih => simp only [List.cons_append, nwL_cons, ih]; omega
theorem nw_wilds (n : Nat) : nwL (List.replicate n wildS) = 0 := by
 induction n with
 | zero => simp [nwL_nil]
 | succ n ih => rw [List.replicate_succ, nwL_cons, ih]; rfl
theorem nwL_le (l : List S25) (h : ∀ q ∈ l, nw q ≤ nodes q) : nwL l ≤ nodesL l := by
 induction l with
 | nil => simp [nwL_nil, nodesL_nil]
 | cons p t ih =>
  rw [nwL_cons, nodesL_cons]
  have := h p (List.mem_cons_self ..)
  have := ih fun q hq => h q (List.mem_cons_of_mem _ hq)
  omega
theorem nw_le : ∀ p : S25, nw p ≤ nodes p := by
 refine node_ind fun p ih => ?_
 rw [nw_eq, nodes_eq]
 have := nwL_le p.f5 ih
 split <;> omega
def NW : List (List S25) → Nat
 | [] => 0
 | r :: t => nwL r + NW t
structure Good (cons : List S61) : Prop where
 ar : ∀ c ∈ cons, 0 ≤ c.f3 ∧ c.f3 ≤ 2
 fd : ∀ c ∈ cons, findC cons c.f0 = c
 len : cons.length ≤ 100000
def WF (cons : List S61) (n : Nat) (r : List S25) : Prop := r.length = n ∧ ∀ p ∈ r, okB cons p = true
theorem findC_mem {cons : List S61} {a : ByteArray} (h : cons.any (isName a) = true) : findC cons a ∈ cons ∧ isName a (findC cons a) = true := by
 unfold findC
 cases hf : cons.find? (isName a) with
 | none =>
  rw [List.find?_eq_none] at hf
  obtain ⟨x, hx, hy⟩ := List.any_eq_true.1 h
  exact absurd hy (hf x hx)
 | some c => exact ⟨List.mem_of_find?_eq_some hf, List.find?_some hf⟩
theorem ok_two {cons : List S61} (hG : Good cons) {p : S25} (h : okB cons p = true) : p.f5.length ≤ 2 := by
 rcases ok_kids h with e | e
 ·
  rw [e]; simp
 ·
  have := hG.ar _ (findC_mem e.2.2.1).1
  omega
theorem ok_wild (cons : List S61) : okB cons wildS = true := by rw [okB_eq]; simp [wildS, plainB]
theorem ok_wilds (cons : List S61) (n : Nat) : ∀ p ∈ List.replicate n wildS, okB cons p = true := fun p hp => by rw [List.eq_of_mem_replicate hp]; exact ok_wild cons
theorem ok_head {cons : List S61} (hG : Good cons) {c : S61} (hc : c ∈ cons) : okB cons (headOf c) = true := by
 have ha := hG.ar c hc
 have hany : cons.any (isName c.f0) = true := List.any_eq_true.2 ⟨c, hc, by simp [isName]⟩
 rw [okB_eq]
 have h1 : plainB (headOf c).f0 (headOf c).f1 (headOf c).f2 (headOf c).f4 (headOf c).f5 = true := by simp [plainB, headOf]
 have h2 : okL cons (headOf c).f5 = true := by rw [okL_all, List.all_eq_true]; exact ok_wilds cons _
 have h3 : (findC cons c.f0).f3 = ((headOf c).f5.length : Int) := by
  rw [hG.fd c hc]
  show c.f3 = ((List.replicate c.f3.toNat wildS).length : Int)
  rw [List.length_replicate]; omega
 rw [h1, h2, Bool.true_and, if_neg (by show ¬ ((5 : Int) = 24 ∨ (5 : Int) = 4); decide), if_neg (by show ¬ (5 : Int) = 1; decide), if_pos (by show (5 : Int) = 5; rfl)]
 show (cons.any (isName c.f0) && decide ((findC cons c.f0).f3 = ((headOf c).f5.length : Int)) && true) = true
 rw [hany, h3]; simp
theorem below_wf {cons : List S61} {n : Nat} {r r' : List S25} {h : S25} (hr : WF cons (n + 1) r) (hh : okB cons h = true) (e : belowO r h = some r') :
 WF cons (h.f5.length + n) r' ∧ nwL r' ≤ nwL r ∧ (headOf? r ≠ none → nwL r' + 1 ≤ nwL r) := by
 obtain ⟨hl, ho⟩ := hr
 cases r with
 | nil => simp at hl
 | cons p t =>
  have ht : t.length = n := by simpa using hl
  have hot : ∀ x ∈ t, okB cons x = true := fun x hx => ho x (List.mem_cons_of_mem _ hx)
  have hop := ho p (List.mem_cons_self ..)
  unfold belowO at e
  cases hlo : looseB p with
  | true =>
   simp only [hlo, if_true] at e
   obtain rfl := Option.some.inj e
   refine ⟨⟨by simp [ht], fun x hx => ?_⟩, ?_, fun hn => ?_⟩
   ·
    rcases List.mem_append.1 hx with hx | hx
    ·
     exact ok_wilds cons _ x hx
    ·
     exact hot x hx
   ·
    rw [nwL_append, nw_wilds, nwL_cons]; omega
   ·
    simp [headOf?, hlo] at hn
  | false =>
   simp only [hlo, Bool.false_eq_true, if_false] at e
   split at e
   ·
    next hs =>
    obtain rfl := Option.some.inj e
    have hk := same_kids hop hh hs
    refine ⟨⟨by simp [ht, hk], fun x hx => ?_⟩, ?_, fun _ => ?_⟩
    ·
     rcases List.mem_append.1 hx with hx | hx
     ·
      rcases ok_kids hop with e | e
      ·
       rw [e] at hx; cases hx
      ·
       exact e.2.2.2 x hx
     ·
      exact hot x hx
    ·
     rw [nwL_append, nwL_cons, nw_eq p, hlo]; simp only [Bool.false_eq_true, if_false]; omega
    ·
     rw [nwL_append, nwL_cons, nw_eq p, hlo]; simp only [Bool.false_eq_true, if_false]; omega
   ·
    cases e
theorem under_wf {cons : List S61} {n : Nat} {h : S25} (hh : okB cons h = true) : ∀ rows : List (List S25), (∀ r ∈ rows, WF cons (n + 1) r) →
 (∀ r ∈ underL rows h, WF cons (h.f5.length + n) r) ∧ NW (underL rows h) ≤ NW rows ∧ (columnL rows ≠ [] → NW (underL rows h) + 1 ≤ NW rows) ∧ (underL rows h).length ≤ rows.length
 | [], _ => ⟨by simp [underL], by simp [underL, NW], by simp [columnL], by simp [underL]⟩
 | r :: rows, hr => by
  obtain ⟨a, b, c, d⟩ := under_wf hh rows (fun x hx => hr x (List.mem_cons_of_mem _ hx))
  have hr0 := hr r (List.mem_cons_self ..)
  cases hb : belowO r h with
  | none =>
   have hu : underL (r :: rows) h = underL rows h := by simp [underL, hb]
   rw [hu]
   have hnw : 1 ≤ nwL r := by
    cases r with
    | nil => have := hr0.1; simp at this
    | cons p t =>
     have hlo : looseB p = false := by
      cases hl : looseB p with
      | false => rfl
      | true => simp [belowO, hl] at hb
     rw [nwL_cons, nw_eq p, hlo]; simp only [Bool.false_eq_true, if_false]; omega
   refine ⟨a, by simp only [NW]; omega, fun _ => by simp only [NW]; omega, by simp; omega⟩
  | some x =>
   have hu : underL (r :: rows) h = x :: underL rows h := by simp [underL, hb]
   rw [hu]
   obtain ⟨hw, hle, hlt⟩ := below_wf hr0 hh hb
   refine ⟨fun y hy => ?_, by simp only [NW]; omega, fun hc => ?_, by simp; omega⟩
   ·
    rcases List.mem_cons.1 hy with rfl | hy
    ·
     exact hw
    ·
     exact a y hy
   ·
    simp only [NW]
    by_cases h0 : headOf? r = none
    ·
     have : columnL (r :: rows) = columnL rows := by simp [columnL, h0]
     rw [this] at hc
     have := c hc
     omega
    ·
     have := hlt h0
     omega
theorem others_wf {cons : List S61} {n : Nat} : ∀ rows : List (List S25), (∀ r ∈ rows, WF cons (n + 1) r) → (∀ r ∈ othersL rows, WF cons n r) ∧ NW (othersL rows) ≤ NW rows ∧ (othersL rows).length ≤ rows.length
 | [], _ => ⟨by simp [othersL], by simp [othersL, NW], by simp [othersL]⟩
 | r :: rows, hr => by
  obtain ⟨a, b, c⟩ := others_wf rows (fun x hx => hr x (List.mem_cons_of_mem _ hx))
  have hr0 := hr r (List.mem_cons_self ..)
  cases r with
  | nil => have := hr0.1; simp at this
  | cons p t =>
   cases hl : looseB p with
   | false =>
    have hu : othersL ((p :: t) :: rows) = othersL rows := by simp [othersL, tailOf?, hl]
    rw [hu]
    exact ⟨a, by simp only [NW]; omega, by simp; omega⟩
   | true =>
    have hu : othersL ((p :: t) :: rows) = t :: othersL rows := by simp [othersL, tailOf?, hl]
    rw [hu]
    refine ⟨fun y hy => ?_, ?_, by simp; omega⟩
    ·
     rcases List.mem_cons.1 hy with rfl | hy
     ·
      exact ⟨by have := hr0.1; simpa using this, fun x hx => hr0.2 x (List.mem_cons_of_mem _ hx)⟩
     ·
      exact a y hy
    ·
     simp only [NW, nwL_cons]; omega
def Phi (rows : List (List S25)) (q : List S25) : Nat := 3 * (NW rows + nwL q) + q.length
theorem fit_of_wf {cons : List S61} (hG : Good cons) {n : Nat} {rows : List (List S25)} {q : List S25} (hr : ∀ r ∈ rows, WF cons (n + 1) r) (hq : WF cons (n + 1) q) (hn : n + 1 ≤ 1000000) (hl : rows.length ≤ 1000000) : fitB rows q = true := by
 unfold fitB
 simp only [Bool.and_eq_true, decide_eq_true_eq, List.all_eq_true]
 refine ⟨⟨⟨⟨hl, fun r h => ⟨⟨?_, ?_⟩, fun p hp => ok_two hG ((hr r h).2 p hp)⟩⟩, ?_⟩, ?_⟩, fun p hp => ok_two hG (hq.2 p hp)⟩
 ·
  rw [(hr r h).1]; omega
 ·
  rw [(hr r h).1]; exact hn
 ·
  rw [hq.1]; omega
 ·
  rw [hq.1]; exact hn
theorem below_head {cons : List S61} {n : Nat} {p : S25} {t : List S25} (hl : looseB p = true) (h : S25) : belowO (p :: t) h = some (List.replicate h.f5.length wildS ++ t) := by simp [belowO, hl]
theorem below_self {p : S25} {t : List S25} (hl : looseB p = false) : belowO (p :: t) p = some (p.f5 ++ t) := by
 have : sameB p p = true := same_iff.2 ⟨rfl, rfl, rfl⟩
 simp [belowO, hl, this]
theorem means_step {cons : List S61} (hG : Good cons) (k : Nat) {n : Nat} {rows : List (List S25)} {p : S25} {t : List S25} (hr : ∀ r ∈ rows, WF cons (n + 1) r) (hq : WF cons (n + 1) (p :: t)) (hn : n + 1 ≤ 1000000) (hl : rows.length ≤ 1000000) (h0 : rows ≠ []) :
 meansF cons (k + 1) rows (p :: t) =
  if looseB p then
   match columnL rows with
   | [] => meansF cons k (othersL rows) t
   | h :: hs =>
    if h.f0 == 5 then
     let all := cons.filter (ofType (findC cons h.f1).f1)
     if all.any (lacks (h :: hs)) then meansF cons k (othersL rows) t
     else if all.all (fun c => decide (0 ≤ c.f3) && decide (c.f3 ≤ 2) && (meansF cons k (underL rows (headOf c)) ((belowO (p :: t) (headOf c)).getD [])).isSome) then
      some (all.any fun c => (meansF cons k (underL rows (headOf c)) ((belowO (p :: t) (headOf c)).getD [])).getD false)
     else none
    else meansF cons k (othersL rows) t
  else meansF cons k (underL rows p) ((belowO (p :: t) p).getD []) := by
 have hf := fit_of_wf hG hr hq hn hl
 have he : rows.isEmpty = false := by simpa using h0
 conv => lhs; unfold meansF
 rw [he, hf]
 simp only [Bool.false_eq_true, if_false, if_true, List.isEmpty_cons]
 rfl
theorem means_total {cons : List S61} (hG : Good cons) : ∀ (k : Nat) (rows : List (List S25)) (q : List S25) (n : Nat), k ≤ 100000 → (∀ r ∈ rows, WF cons n r) → WF cons n q → rows.length ≤ 1000000 → Phi rows q < k → ∃ b, meansF cons k rows q = some b := by
 intro k
 induction k with
 | zero => intro rows q n _ _ _ _ h; omega
 | succ k ih =>
  intro rows q n hk hr hq hl hp
  by_cases h0 : rows = []
  ·
   subst h0; exact ⟨true, meansF_rows cons k q⟩
  ·
   have hlen : 0 < rows.length := List.length_pos_iff.2 h0
   cases q with
   | nil => exact ⟨false, meansF_q cons k rows hlen⟩
   | cons p t =>
    obtain ⟨n, rfl⟩ : ∃ m, n = m + 1 := ⟨t.length, by rw [← hq.1]; rfl⟩
    have hqn : t.length = n := by have := hq.1; simpa using this
    unfold Phi at hp
    rw [nwL_cons] at hp
    simp only [List.length_cons] at hp
    have hop := hq.2 p (List.mem_cons_self ..)
    have hWt : WF cons n t := ⟨hqn, fun x hx => hq.2 x (List.mem_cons_of_mem _ hx)⟩
    rw [means_step hG k hr hq (by omega) hl h0]
    have hO := others_wf rows hr
    have hoth : ∃ b, meansF cons k (othersL rows) t = some b := ih _ _ n (by omega) hO.1 hWt (by omega) (by unfold Phi; omega)
    cases hlo : looseB p with
    | true =>
     simp only [if_true]
     cases hc : columnL rows with
     | nil => exact hoth
     | cons h hs =>
      simp only
      split
      ·
       split
       ·
        exact hoth
       ·
        split
        ·
         exact ⟨_, rfl⟩
        ·
         next hall =>
         exfalso
         refine hall (List.all_eq_true.2 fun c hcm => ?_)
         have hcc := (List.mem_filter.1 hcm).1
         have har := hG.ar c hcc
         have hU := under_wf (ok_head hG hcc) rows hr
         have hst := hU.2.2.1 (by rw [hc]; simp)
         rw [below_head (cons := cons) (n := 0) hlo (headOf c), Option.getD_some]
         have hhl : (headOf c).f5.length ≤ 2 := by show (List.replicate c.f3.toNat wildS).length ≤ 2; rw [List.length_replicate]; omega
         obtain ⟨b, hb⟩ := ih (underL rows (headOf c)) (List.replicate (headOf c).f5.length wildS ++ t) ((headOf c).f5.length + n) (by omega) hU.1
          ⟨by simp [hqn], fun x hx => by
           rcases List.mem_append.1 hx with hx | hx
           ·
            exact ok_wilds cons _ x hx
           ·
            exact hWt.2 x hx⟩ (by omega) (by
           unfold Phi
           rw [nwL_append, nw_wilds, List.length_append, List.length_replicate]
           omega)
         rw [hb]
         simp [har.1, har.2]
      ·
       exact hoth
    | false =>
     simp only [Bool.false_eq_true, if_false]
     rw [below_self hlo, Option.getD_some]
     have hU := under_wf hop rows hr
     refine ih _ _ (p.f5.length + n) (by omega) hU.1 ⟨by simp [hqn], fun x hx => ?_⟩ (by omega) ?_
     ·
      rcases List.mem_append.1 hx with hx | hx
      ·
       rcases ok_kids hop with e | e
       ·
        rw [e] at hx; cases hx
       ·
        exact e.2.2.2 x hx
      ·
       exact hWt.2 x hx
     ·
      unfold Phi
      have h2 := ok_two hG hop
      rw [nw_eq p, hlo] at hp
      simp only [Bool.false_eq_true, if_false] at hp
      rw [nwL_append, List.length_append]
      omega
theorem means_any {cons : List S61} (hG : Good cons) : ∀ (k : Nat) (rows : List (List S25)) (q : List S25) (n : Nat), k ≤ 100000 → (∀ r ∈ rows, WF cons n r) → WF cons n q → rows.length ≤ 1000000 → Phi rows q < k →
 (∃ r ∈ rows, ∀ p ∈ r, looseB p = true) → meansF cons k rows q = some false := by
 intro k
 induction k with
 | zero => intro rows q n _ _ _ _ h; omega
 | succ k ih =>
  intro rows q n hk hr hq hl hp hany
  obtain ⟨ra, hra, hall⟩ := hany
  have h0 : rows ≠ [] := by intro e; rw [e] at hra; cases hra
  have hlen : 0 < rows.length := List.length_pos_iff.2 h0
  cases q with
  | nil => exact meansF_q cons k rows hlen
  | cons p t =>
   obtain ⟨n, rfl⟩ : ∃ m, n = m + 1 := ⟨t.length, by rw [← hq.1]; rfl⟩
   have hqn : t.length = n := by have := hq.1; simpa using this
   unfold Phi at hp
   rw [nwL_cons] at hp
   simp only [List.length_cons] at hp
   have hop := hq.2 p (List.mem_cons_self ..)
   have hWt : WF cons n t := ⟨hqn, fun x hx => hq.2 x (List.mem_cons_of_mem _ hx)⟩
   rw [means_step hG k hr hq (by omega) hl h0]
   have hO := others_wf rows hr
   obtain ⟨pa, ta, rfl⟩ : ∃ pa ta, ra = pa :: ta := by
    cases ra with
    | nil => have := (hr _ hra).1; simp at this
    | cons a b => exact ⟨a, b, rfl⟩
   have hpa := hall pa (List.mem_cons_self ..)
   have hta : ∀ x ∈ ta, looseB x = true := fun x hx => hall x (List.mem_cons_of_mem _ hx)
   have hoth : meansF cons k (othersL rows) t = some false := ih _ _ n (by omega) hO.1 hWt (by omega) (by unfold Phi; omega)
    ⟨ta, List.mem_filterMap.2 ⟨pa :: ta, hra, by simp [tailOf?, hpa]⟩, hta⟩
   have hund : ∀ h : S25, ∃ r ∈ underL rows h, ∀ x ∈ r, looseB x = true := fun h => ⟨List.replicate h.f5.length wildS ++ ta, List.mem_filterMap.2 ⟨pa :: ta, hra, by simp [belowO, hpa]⟩, fun x hx => by
    rcases List.mem_append.1 hx with hx | hx
    ·
     rw [List.eq_of_mem_replicate hx]; rfl
    ·
     exact hta x hx⟩
   cases hlo : looseB p with
   | true =>
    simp only [if_true]
    cases hc : columnL rows with
    | nil => exact hoth
    | cons h hs =>
     simp only
     split
     ·
      split
      ·
       exact hoth
      ·
       have hcl : ∀ c ∈ cons.filter (ofType (findC cons h.f1).f1), 0 ≤ c.f3 ∧ c.f3 ≤ 2 ∧ meansF cons k (underL rows (headOf c)) ((belowO (p :: t) (headOf c)).getD []) = some false := by
        intro c hcm
        have hcc := (List.mem_filter.1 hcm).1
        have har := hG.ar c hcc
        have hU := under_wf (ok_head hG hcc) rows hr
        have hst := hU.2.2.1 (by rw [hc]; simp)
        rw [below_head (cons := cons) (n := 0) hlo (headOf c), Option.getD_some]
        have hhl : (headOf c).f5.length ≤ 2 := by show (List.replicate c.f3.toNat wildS).length ≤ 2; rw [List.length_replicate]; omega
        refine ⟨har.1, har.2, ih (underL rows (headOf c)) (List.replicate (headOf c).f5.length wildS ++ t) ((headOf c).f5.length + n) (by omega) hU.1
         ⟨by simp [hqn], fun x hx => by
          rcases List.mem_append.1 hx with hx | hx
          ·
           exact ok_wilds cons _ x hx
          ·
           exact hWt.2 x hx⟩ (by omega) (by
          unfold Phi
          rw [nwL_append, nw_wilds, List.length_append, List.length_replicate]
          omega) (hund _)⟩
       rw [if_pos (List.all_eq_true.2 fun c hcm => by have := hcl c hcm; simp [this.1, this.2.1, this.2.2])]
       congr 1
       rw [List.any_eq_false]
       intro c hcm
       rw [(hcl c hcm).2.2]
       decide
     ·
      exact hoth
   | false =>
    simp only [Bool.false_eq_true, if_false]
    rw [below_self hlo, Option.getD_some]
    have hU := under_wf hop rows hr
    refine ih _ _ (p.f5.length + n) (by omega) hU.1 ⟨by simp [hqn], fun x hx => ?_⟩ (by omega) ?_ (hund p)
    ·
     rcases List.mem_append.1 hx with hx | hx
     ·
      rcases ok_kids hop with e | e
      ·
       rw [e] at hx; cases hx
      ·
       exact e.2.2.2 x hx
     ·
      exact hWt.2 x hx
    ·
     unfold Phi
     have h2 := ok_two hG hop
     rw [nw_eq p, hlo] at hp
     simp only [Bool.false_eq_true, if_false] at hp
     rw [nwL_append, List.length_append]
     omega
end Go.Proofs.Ytikhkcnbabpneaa.P