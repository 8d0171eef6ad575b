/- CoverAny: what it computes is true, whatever the rows. -/
import Derived.Test.YtikhkcnbabpneaaAaQ4
namespace Go.Proofs.Ytikhkcnbabpneaa.P
open Go.RowKit Go.Proofs.YtikhkcnbabpneaaW.PrintWords Go.Proofs.YtikhkcnbabpneaaW.PrintLast Go.Proofs.YtikhkcnbabpneaaW.PrintMore
set_option linter.unusedVariables false
set_option linter.unusedSimpArgs false

theorem chk_any {l : List S25} (hl : l.length ≤ 5) (hn : ∀ p ∈ l, nodes p ≤ 9) :
    (if (chk consL l).2 = 1 then decide ((chk consL (anyS :: l)).2 = 1) && decide ((chk consL (anyS :: l)).1 = 0) else if l.length = 0 then decide ((chk consL (anyS :: l)).2 = 0) else decide ((chk consL (anyS :: l)).2 = 27) && decide ((chk consL (anyS :: l)).1 = 1)) = true := by
  rw [chk_eq (by omega : l.length ≤ 20), chk_eq (by simp; omega : (anyS :: l).length ≤ 20), List.all_cons, any_ok, Bool.true_and, tog_any consL l (by omega)]
  cases hb : l.all (okB consL) && togV consL l with
  | false => simp
  | true =>
    simp only [if_true]
    have h2 := chkL_two consL (sing l) l.length 0
    have hne : ¬ (chkL consL (sing l) l.length 0).2 = 1 := by omega
    rw [if_neg hne]
    have hok : ∀ p ∈ l, okB consL p = true := by
      rw [Bool.and_eq_true] at hb
      exact fun p hp => List.all_eq_true.1 hb.1 p hp
    have hs0 : (sing (anyS :: l)).take 0 = [] := by simp
    have hstep : chkL consL (sing (anyS :: l)) (anyS :: l).length 0 = chkL consL (sing (anyS :: l)) l.length 1 := by
      rw [List.length_cons, chkL, hs0, meansV_nil, if_pos rfl]
    rw [hstep]
    cases l with
    | nil =>
      have hm := meansV_any goodL (l := [anyS]) (p := wildS) (by simp) (fun x hx => by rw [List.mem_singleton.1 hx, any_nodes]; omega) (by rw [nodes_wild]; omega) (fun x hx => by rw [List.mem_singleton.1 hx]; exact any_ok) (ok_wild _) ⟨anyS, List.mem_cons_self .., rfl⟩
      simp [chkL, hm]
    | cons p t =>
      have hm := meansV_any goodL (l := [anyS]) (p := p) (by simp) (fun x hx => by rw [List.mem_singleton.1 hx, any_nodes]; omega) (hn p (List.mem_cons_self ..)) (fun x hx => by rw [List.mem_singleton.1 hx]; exact any_ok) (hok p (List.mem_cons_self ..)) ⟨anyS, List.mem_cons_self .., rfl⟩
      have h1 : (sing (anyS :: p :: t)).take 1 = sing [anyS] := rfl
      have h3 : (sing (anyS :: p :: t)).getD 1 [] = [p] := rfl
      rw [List.length_cons, chkL, h1, h3, hm]
      simp
end Go.Proofs.Ytikhkcnbabpneaa.P
