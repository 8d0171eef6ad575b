/- CoverOrder: what it computes is true, whatever the rows. -/
import Derived.Test.YtikhkcnbabpneaaAoQ6
import Derived.Test.YtikhkcnbabpneaaAoPx50
namespace Go.Proofs.Ytikhkcnbabpneaa.P
open Go.RowKit Go.Proofs.YtikhkcnbabpneaaW.PrintWords Go.Proofs.YtikhkcnbabpneaaW.PrintLast Go.Proofs.YtikhkcnbabpneaaW.PrintMore
set_option linter.unusedVariables false
set_option linter.unusedSimpArgs false

theorem order_loop (l : List S25) (hl : l.length ≤ 5) (hn : ∀ p ∈ l, nodes p ≤ 9) : ∀ i, i ≤ l.length → Ends (fun k => selvagelaw09_CoverOrder.l0 k l consL (l.drop i).reverse ((i : Int) - 1)) true := by
  intro i
  induction i with
  | zero =>
    intro _
    rw [List.drop_zero]
    have h1 := check_ends goodL l hn
    have h2 := check_ends goodL l.reverse (fun p hp => hn p (List.mem_reverse.1 hp))
    have ho := chk_order (List.reverse_perm l).symm (by omega) hn
    generalize chk consL l = a at h1 ho
    generalize chk consL l.reverse = b at h2 ho
    refine Ends.step (Ends.bind h1 (g := fun k x => (cover_Check.f k l.reverse consL).bind fun y => (if x.2 = 27 then selvagelaw09_CoverOrder.j1 k x.2 y.2 true else selvagelaw09_CoverOrder.j1 k x.2 y.2 (y.2 == 27))) ?_) fun k => ?_
    · refine Ends.bind h2 (g := fun k y => (if a.2 = 27 then selvagelaw09_CoverOrder.j1 k a.2 y.2 true else selvagelaw09_CoverOrder.j1 k a.2 y.2 (y.2 == 27))) ?_
      have hlv : selvagelaw09_lives.f = some true := rfl
      have hj : ∀ c : Bool, (c = false → a.2 = b.2) → Ends (fun k => selvagelaw09_CoverOrder.j1 k a.2 b.2 c) true := by
        intro c hc
        refine Ends.step (g := fun _ => some true) (Ends.const fun _ => rfl) fun k => ?_
        rw [selvagelaw09_CoverOrder.j1, hlv]
        cases c with
        | true => rfl
        | false => rw [if_neg (by decide), if_pos (hc rfl)]; rfl
      by_cases e1 : a.2 = 27
      · exact Ends.congr (hj true (fun h => by cases h)) fun k => by rw [if_pos e1]
      · refine Ends.congr (hj (b.2 == 27) (fun h => ho e1 (by simpa using h))) fun k => by rw [if_neg e1]
    · show selvagelaw09_CoverOrder.l0 (k + 1) l consL l.reverse (((0 : Nat) : Int) - 1) = _
      rw [selvagelaw09_CoverOrder.l0, if_neg (by omega)]
  | succ i ih =>
    intro hi
    have hlt : i < l.length := by omega
    have hd : (l.drop i).reverse = (l.drop (i + 1)).reverse ++ [l[i]] := by rw [List.drop_eq_getElem_cons hlt, List.reverse_cons]
    have := ih (by omega)
    rw [hd] at this
    refine Ends.step this fun k => ?_
    have he : (((i + 1 : Nat)) : Int) - 1 = (i : Int) := by omega
    rw [he, selvagelaw09_CoverOrder.l0, if_pos (by omega), if_pos (by omega), if_pos (by omega), if_pos (by simp; omega), rdT_at l i hlt, eta25, wrap_small (by omega) (by omega)]
theorem coverOrder_ends (l : List S25) (hl : l.length ≤ 9223372036854775807) : Ends (fun k => selvagelaw09_CoverOrder.f k l) true := by
  obtain ⟨rows, hr, h5, h9⟩ := few_ends l hl
  have h := order_loop rows h5 h9 rows.length (Nat.le_refl _)
  rw [List.drop_of_length_le (Nat.le_refl _)] at h
  unfold selvagelaw09_CoverOrder.f
  refine Ends.bind hr (g := fun k t386 => (selvageref09_Cons.f).bind fun t389 => (selvagelaw09_CoverOrder.l0 k t386 t389 ([] : List (S25)) (wrap64 ((t386.length : Int) - 1)))) ?_
  refine Ends.congr h fun k => ?_
  rw [consL_f]
  show selvagelaw09_CoverOrder.l0 k rows consL [] (wrap64 ((rows.length : Int) - 1)) = _
  rw [wrap_small (by omega) (by omega)]
  rfl
theorem coverOrder_calls (A0 : Option Addr) (c0 : Nat) (l0 : List S25) (w : World) (hr0 : Kd.C k25 w A0 l0.length l0) (hc0 : l0.length ≤ c0) :
    Calls Try.prog 5 #[.slice A0 l0.length c0] w fun e w' => e = .returned (.bool true) ∧ Below w.heap.size w w' := by
  obtain ⟨k, hk⟩ := coverOrder_ends l0 hr0.2.1
  exact selvagelaw09_CoverOrder.calls k A0 c0 l0 true w hr0 hc0 (hk k (Nat.le_refl _))
end Go.Proofs.Ytikhkcnbabpneaa.P
