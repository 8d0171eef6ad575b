/- Plain laws: what Check tells of few small patterns; CoverAny. -/
import Derived.Test.YtikhkcnbabpneaaAoQ3
import Derived.Test.YtikhkcnbabpneaaAoH18
namespace Go.Proofs.Ytikhkcnbabpneaa.P
open Go.RowKit Go.Proofs.YtikhkcnbabpneaaW.PrintWords Go.Proofs.YtikhkcnbabpneaaW.PrintLast Go.Proofs.YtikhkcnbabpneaaW.PrintMore
set_option linter.unusedVariables false
set_option linter.unusedSimpArgs false

def meansV (cons : List S61) (rows : List (List S25)) (q : List S25) : Bool := (meansF cons 1000 rows q).getD false
def togV (cons : List S61) (l : List S25) : Bool := (togF cons 100 l).getD false
def sing (rows : List S25) : List (List S25) := rows.map fun p => [p]
def chkL (cons : List S61) (all : List (List S25)) : Nat → Nat → Int × Int
  | 0, _ => if meansV cons all [wildS] then (0, 26) else (0, 0)
  | d + 1, i => if meansV cons (all.take i) (all.getD i []) then chkL cons all d (i + 1) else ((i : Int), 27)
def chk (cons : List S61) (rows : List S25) : Int × Int :=
  if 20 < rows.length then (0, 1) else if soundB cons && rows.all (okB cons) && togV cons rows then chkL cons (sing rows) rows.length 0 else (0, 1)
theorem NW_sing (l : List S25) (h : ∀ p ∈ l, nodes p ≤ 9) : NW (sing l) ≤ 9 * l.length := by
  induction l with
  | nil => simp [sing, NW]
  | cons p t ih =>
    have h1 := ih fun x hx => h x (List.mem_cons_of_mem _ hx)
    have h2 := nw_le p
    have h3 := h p (List.mem_cons_self ..)
    simp only [sing, List.map_cons, NW, nwL_cons, nwL_nil] at h1 ⊢
    simp only [List.length_cons]
    omega
theorem sing_take (l : List S25) (i : Nat) : (sing l).take i = sing (l.take i) := by unfold sing; rw [List.map_take]
theorem sing_get (l : List S25) (i : Nat) (h : i < l.length) : (sing l).getD i [] = [l[i]] := by
  unfold sing
  rw [List.getD_eq_getElem?_getD, List.getElem?_map, List.getElem?_eq_getElem h]
  rfl
theorem sing_len (l : List S25) : (sing l).length = l.length := by simp [sing]
theorem sing_wf {cons : List S61} {l : List S25} (h : ∀ p ∈ l, okB cons p = true) : ∀ r ∈ sing l, WF cons 1 r := by
  intro r hr
  obtain ⟨p, hp, rfl⟩ := List.mem_map.1 hr
  exact ⟨rfl, fun x hx => by rw [List.mem_singleton.1 hx]; exact h p hp⟩
/-- means ends on few small rows. -/
theorem meansV_f {cons : List S61} (hG : Good cons) {l : List S25} {p : S25} (hl : l.length ≤ 20) (hn : ∀ x ∈ l, nodes x ≤ 9) (hp : nodes p ≤ 9) (ho : ∀ x ∈ l, okB cons x = true) (hop : okB cons p = true) :
    cover_book_means.f cons (sing l) [p] = some (meansV cons (sing l) [p]) := by
  have hN := NW_sing l hn
  have h2 := nw_le p
  have hphi : Phi (sing l) [p] < 1000 := by unfold Phi; rw [nwL_cons, nwL_nil]; simp only [List.length_singleton]; omega
  obtain ⟨b, hb⟩ := means_total hG 1000 (sing l) [p] 1 (by omega) (sing_wf ho) ⟨rfl, fun x hx => by rw [List.mem_singleton.1 hx]; exact hop⟩ (by rw [sing_len]; omega) hphi
  unfold cover_book_means.f meansV
  have := hG.len
  rw [if_pos (by omega), hb]
  rfl
theorem nodes_wild : nodes wildS = 1 := rfl
theorem togV_f {cons : List S61} (hG : Good cons) {l : List S25} (hl : l.length ≤ 20) (hn : ∀ x ∈ l, nodes x ≤ 9) (ho : ∀ x ∈ l, okB cons x = true) : cover_book_together.f cons l = some (togV cons l) := by
  obtain ⟨b, hb, _⟩ := tog_iff cons 9 100 l (by omega) ⟨fun p hp => ⟨ho p hp, hn p hp⟩, by omega⟩ (by omega)
  unfold cover_book_together.f togV
  have := hG.len
  rw [if_pos (by omega), hb]; rfl
theorem togV_iff {cons : List S61} {l : List S25} (hl : l.length ≤ 20) (hn : ∀ x ∈ l, nodes x ≤ 9) (ho : ∀ x ∈ l, okB cons x = true) : togV cons l = true ↔ TogP cons 9 l := by
  obtain ⟨b, hb, h⟩ := tog_iff cons 9 100 l (by omega) ⟨fun p hp => ⟨ho p hp, hn p hp⟩, by omega⟩ (by omega)
  unfold togV
  rw [hb]; exact h
theorem check_l1 {cons : List S61} (hG : Good cons) {l : List S25} (hl : l.length ≤ 20) (hn : ∀ x ∈ l, nodes x ≤ 9) (ho : ∀ x ∈ l, okB cons x = true) : ∀ d i, i + d = l.length →
    Ends (fun k => cover_Check.l1 k cons (sing l) (sing l) ((sing l).length : Int) (i : Int)) (chkL cons (sing l) d i) := by
  intro d
  induction d with
  | zero =>
    intro i hi
    have hw : cover_wild.f 1 = some [wildS] := rfl
    have hm := meansV_f hG hl hn (p := wildS) (by rw [nodes_wild]; omega) ho (ok_wild cons)
    refine Ends.step (g := fun _ => some (chkL cons (sing l) 0 i)) (Ends.const fun _ => rfl) fun k => ?_
    rw [cover_Check.l1, sing_len, if_neg (by omega), hw]
    simp only [Option.bind_some]
    rw [hm]
    simp only [Option.bind_some, chkL]
    split <;> rfl
  | succ d ih =>
    intro i hi
    have hlt : i < l.length := by omega
    have hm := meansV_f hG (l := l.take i) (p := l[i]) (by rw [List.length_take]; omega) (fun x hx => hn x (List.mem_of_mem_take hx)) (hn _ (List.getElem_mem _)) (fun x hx => ho x (List.mem_of_mem_take hx)) (ho _ (List.getElem_mem _))
    have hw : wrap64 ((i : Int) + 1) = ((i + 1 : Nat) : Int) := wrap_succ (by omega)
    have hgo : ∀ k, cover_Check.l1 (k + 1) cons (sing l) (sing l) ((sing l).length : Int) (i : Int) = if meansV cons (sing (l.take i)) [l[i]] = true then cover_Check.l1 k cons (sing l) (sing l) ((sing l).length : Int) ((i + 1 : Nat) : Int) else some ((i : Int), 27) := by
      intro k
      have hrd : rd_L6 (sing l) (i : Int) = [l[i]] := by rw [rdL_at _ i (by rw [sing_len]; exact hlt)]; simp [sing]
      rw [cover_Check.l1, if_pos (by rw [sing_len]; omega), if_pos (by omega), if_pos (by rw [sing_len]; omega), if_pos (by rw [sing_len]; omega), Int.toNat_natCast, sing_take, hrd, hm]
      simp only [Option.bind_some]
      rw [hw]
    have hch : chkL cons (sing l) (d + 1) i = if meansV cons (sing (l.take i)) [l[i]] = true then chkL cons (sing l) d (i + 1) else ((i : Int), 27) := by
      rw [chkL, sing_take, sing_get l i hlt]
    rw [hch]
    cases hb : meansV cons (sing (l.take i)) [l[i]] with
    | true =>
      simp only [hb, if_true] at hgo ⊢
      exact (ih (i + 1) (by omega)).step hgo
    | false =>
      simp only [hb, Bool.false_eq_true, if_false] at hgo ⊢
      exact Ends.step (Ends.const fun _ => rfl) hgo
theorem check_l0 {cons : List S61} (hG : Good cons) {l : List S25} (hl : l.length ≤ 20) (hn : ∀ x ∈ l, nodes x ≤ 9) : ∀ d i, i + d = l.length → (∀ x ∈ l.take i, okB cons x = true) →
    Ends (fun k => cover_Check.l0 k l cons (sing (l.take i)) l (l.length : Int) (i : Int)) (if (l.drop i).all (okB cons) && togV cons l then chkL cons (sing l) l.length 0 else (0, 1)) := by
  intro d
  induction d with
  | zero =>
    intro i hi ho
    have hti : l.take i = l := List.take_of_length_le (by omega)
    rw [hti] at ho ⊢
    rw [List.drop_of_length_le (by omega), List.all_nil, Bool.true_and]
    have ht := togV_f hG hl hn ho
    have hgo : ∀ k, cover_Check.l0 (k + 1) l cons (sing l) l (l.length : Int) (i : Int) = if togV cons l = true then cover_Check.l1 k cons (sing l) (sing l) ((sing l).length : Int) 0 else some (0, 1) := by
      intro k
      rw [cover_Check.l0, if_neg (by omega), ht]
      rfl
    cases hb : togV cons l with
    | true =>
      simp only [hb, if_true] at hgo ⊢
      exact (check_l1 hG hl hn ho l.length 0 (by omega)).step hgo
    | false =>
      simp only [hb, Bool.false_eq_true, if_false] at hgo ⊢
      exact Ends.step (Ends.const fun _ => rfl) hgo
  | succ d ih =>
    intro i hi ho
    have hlt : i < l.length := by omega
    have hm : l[i] ∈ l := List.getElem_mem _
    obtain ⟨n, hs, _⟩ := size_ends cons l[i] (by have := hn _ hm; omega)
    have hd : l.drop i = l[i] :: l.drop (i + 1) := List.drop_eq_getElem_cons hlt
    have htk : l.take (i + 1) = l.take i ++ [l[i]] := List.take_succ_eq_append_getElem hlt
    rw [hd, List.all_cons]
    have hw : wrap64 ((i : Int) + 1) = ((i + 1 : Nat) : Int) := wrap_succ (by omega)
    have hsl : (sing (l.take i)).length < 5864062014805 := by rw [sing_len, List.length_take]; omega
    have hsa : sing (l.take i) ++ [[l[i]]] = sing (l.take (i + 1)) := by unfold sing; rw [htk, List.map_append]; rfl
    have hstep : ∀ {v}, Ends (fun k => if okB cons l[i] = true then cover_Check.l0 k l cons (sing (l.take (i + 1))) l (l.length : Int) ((i + 1 : Nat) : Int) else some (0, 1)) v → Ends (fun k => cover_Check.l0 k l cons (sing (l.take i)) l (l.length : Int) (i : Int)) v := by
      intro v h
      refine Ends.step (Ends.bind hs (g := fun k bt => if bt.2 = true then (if (sing (l.take i)).length < 5864062014805 then cover_Check.l0 k l cons (sing (l.take i) ++ [[(⟨l[i].f0, l[i].f1, l[i].f2, l[i].f3, l[i].f4, l[i].f5⟩ : S25)]]) l (l.length : Int) (wrap64 ((i : Int) + 1)) else none) else some (0, 1)) ?_) fun k => ?_
      · refine Ends.congr h fun k => ?_
        show (if okB cons l[i] = true then _ else _) = _
        rw [if_pos hsl, hw, eta25, hsa]
      · show cover_Check.l0 (k + 1) l cons (sing (l.take i)) l (l.length : Int) (i : Int) = _
        rw [cover_Check.l0, if_pos (by omega), if_pos (by omega), if_pos (by omega), rdT_at l i hlt]
    cases hok : okB cons l[i] with
    | false =>
      rw [hok] at hstep
      rw [Bool.false_and, Bool.false_and]
      exact hstep (Ends.const fun _ => rfl)
    | true =>
      rw [hok] at hstep
      rw [Bool.true_and]
      refine hstep (Ends.congr (ih (i + 1) (by omega) fun x hx => ?_) fun k => by rw [if_pos rfl])
      rw [htk] at hx
      rcases List.mem_append.1 hx with hx | hx
      · exact ho x hx
      · rw [List.mem_singleton.1 hx]; exact hok
theorem check_ends {cons : List S61} (hG : Good cons) (l : List S25) (hn : ∀ x ∈ l, nodes x ≤ 9) : Ends (fun k => cover_Check.f k l cons) (chk cons l) := by
  unfold chk
  by_cases hl : 20 < l.length
  · rw [if_pos hl]
    refine Ends.congr (g := fun k => cover_Check.j0 k l cons true) ?_ fun k => by unfold cover_Check.f; rw [if_pos (by omega)]
    exact Ends.step (g := fun _ => some (0, 1)) (Ends.const fun _ => rfl) fun k => by rw [cover_Check.j0, if_pos rfl]
  · rw [if_neg hl]
    have hs : cover_book_sound.f cons = some (soundB cons) := by unfold cover_book_sound.f; rw [if_pos hG.len]
    refine Ends.congr (g := fun k => cover_Check.j0 k l cons (!soundB cons)) ?_ fun k => by unfold cover_Check.f; rw [if_neg (by omega), hs]; rfl
    cases soundB cons with
    | false =>
      rw [Bool.false_and, Bool.false_and]
      exact Ends.step (g := fun _ => some (0, 1)) (Ends.const fun _ => rfl) fun k => by rw [cover_Check.j0, if_pos (by decide)]
    | true =>
      rw [Bool.true_and]
      have := check_l0 hG (by omega) hn l.length 0 (by omega) (by simp)
      rw [List.drop_zero] at this
      exact this.step fun k => by rw [cover_Check.j0, if_neg (by decide)]; rfl
theorem fd0 : findC consL (consL.getD 0 z61).f0 = consL.getD 0 z61 := by kernel_rfl
theorem fd1 : findC consL (consL.getD 1 z61).f0 = consL.getD 1 z61 := by kernel_rfl
theorem fd2 : findC consL (consL.getD 2 z61).f0 = consL.getD 2 z61 := by kernel_rfl
theorem fd3 : findC consL (consL.getD 3 z61).f0 = consL.getD 3 z61 := by kernel_rfl
theorem fd4 : findC consL (consL.getD 4 z61).f0 = consL.getD 4 z61 := by kernel_rfl
theorem fd5 : findC consL (consL.getD 5 z61).f0 = consL.getD 5 z61 := by kernel_rfl
theorem fd6 : findC consL (consL.getD 6 z61).f0 = consL.getD 6 z61 := by kernel_rfl
theorem fd7 : findC consL (consL.getD 7 z61).f0 = consL.getD 7 z61 := by kernel_rfl
theorem goodL : Good consL := by
  refine ⟨fun c hc => ?_, fun c hc => ?_, by decide⟩
  · have : ∀ c ∈ consL, decide (0 ≤ c.f3) && decide (c.f3 ≤ 2) := by
      intro c hc
      obtain ⟨i, hi, rfl⟩ := List.mem_iff_getElem.1 hc
      have hi8 : i < 8 := hi
      match i, hi8 with
      | 0, _ => rfl
      | 1, _ => rfl
      | 2, _ => rfl
      | 3, _ => rfl
      | 4, _ => rfl
      | 5, _ => rfl
      | 6, _ => rfl
      | 7, _ => rfl
    have := this c hc
    simpa using this
  · obtain ⟨i, hi, rfl⟩ := List.mem_iff_getElem.1 hc
    have hi8 : i < 8 := hi
    match i, hi8 with
    | 0, _ => exact fd0
    | 1, _ => exact fd1
    | 2, _ => exact fd2
    | 3, _ => exact fd3
    | 4, _ => exact fd4
    | 5, _ => exact fd5
    | 6, _ => exact fd6
    | 7, _ => exact fd7
theorem soundL : soundB consL = true := by decide +kernel
theorem chk_eq {l : List S25} (hl : l.length ≤ 20) : chk consL l = if l.all (okB consL) && togV consL l then chkL consL (sing l) l.length 0 else (0, 1) := by
  unfold chk
  rw [if_neg (by omega), soundL, Bool.true_and]
end Go.Proofs.Ytikhkcnbabpneaa.P
