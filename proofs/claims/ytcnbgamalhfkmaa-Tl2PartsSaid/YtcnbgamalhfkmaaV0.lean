/- tl2: the plain law of Parts. -/
import Derived.Test.YtcnbgamalhfkmaaI1
namespace Go.Proofs.Ytcnbgamalhfkmaa.P
set_option linter.unusedVariables false
set_option linter.unusedSimpArgs false
def foldW (p : Mp) (ws : List (Int × Int)) : Mp := ws.foldl (fun m w => putM m w.1 w.2) p
theorem foldW_snoc (p : Mp) (ws : List (Int × Int)) (w : Int × Int) : foldW p (ws ++ [w]) = putM (foldW p ws) w.1 w.2 := by simp [foldW]
theorem foldW_rise {p : Mp} (h : Rise p) : ∀ ws, Rise (foldW p ws) := fun ws => by
  induction ws generalizing p with
  | nil => exact h
  | cons w ws ih => exact ih (putM_rise h w.1 w.2)
/-- What was written last. -/
def lastW (ws : List (Int × Int)) (n : Int) : Option Int := (ws.reverse.find? fun w => w.1 == n).map (·.2)
theorem lastW_snoc (ws : List (Int × Int)) (w : Int × Int) (n : Int) : lastW (ws ++ [w]) n = if w.1 = n then some w.2 else lastW ws n := by
  unfold lastW
  rw [List.reverse_append, List.reverse_singleton, List.singleton_append, List.find?_cons]
  by_cases h : w.1 = n
  · simp [h]
  · have : (w.1 == n) = false := by simp [h]
    rw [this, if_neg h]
theorem lastW_append (a b : List (Int × Int)) (n : Int) : lastW (a ++ b) n = (lastW b n).or (lastW a n) := by
  unfold lastW
  rw [List.reverse_append, List.find?_append]
  cases b.reverse.find? fun w => w.1 == n <;> rfl
theorem getM_fold (p : Mp) (ws : List (Int × Int)) (n : Int) : getM (foldW p ws) n = (lastW ws n).or (getM p n) := by
  induction ws generalizing p with
  | nil => rfl
  | cons w ws ih =>
    have h1 : lastW [w] n = if w.1 = n then some w.2 else none := lastW_snoc [] w n
    show getM (foldW (putM p w.1 w.2) ws) n = _
    rw [ih, getM_put, show w :: ws = [w] ++ ws from rfl, lastW_append, h1]
    cases lastW ws n
    · split <;> rfl
    · rfl
theorem getM_nil (n : Int) : getM [] n = none := rfl
/-- The parts behind i writes, the second part from write f on. -/
def partsW (ws : List (Int × Int)) (f i : Nat) : List Mp := if i ≤ f then [foldW [] (ws.take i)] else [foldW [] (ws.take f), foldW [] ((ws.take i).drop f)]
/-- What is to be read behind i writes. -/
def visW (ws : List (Int × Int)) (f : Nat) (keep : Bool) (i : Nat) : List (Int × Int) := ws.take (if keep then i else min i f)
def wantW (ws : List (Int × Int)) (f : Nat) (keep : Bool) (i : Nat) (n : Int) : Int := (lastW (visW ws f keep i) n).getD (10 + n)
theorem hit_one (p : Mp) (n : Int) : hitM [p] n = getM p n := by
  unfold hitM
  simp
/-- Behind the loop, nothing to shut. -/
theorem parts_all {ws : List (Int × Int)} {f : Nat} {keep : Bool} (h : ws.length ≤ f) (n : Int) : (hitM (partsW ws f ws.length) n).getD (10 + n) = wantW ws f keep ws.length n := by
  unfold partsW wantW visW
  rw [if_pos h, hit_one, getM_fold, getM_nil, Option.or_none]
  congr 2
  cases keep
  · simp [Nat.min_eq_left h]
  · simp
/-- Joined. -/
theorem parts_join {ws : List (Int × Int)} {f : Nat} (h : f < ws.length) (n : Int) : (hitM [copyM (foldW [] (ws.take f)) (foldW [] ((ws.take ws.length).drop f))] n).getD (10 + n) = wantW ws f true ws.length n := by
  unfold wantW visW
  rw [hit_one, getM_copy _ _ _ (foldW_rise (p := []) List.Pairwise.nil _), getM_fold, getM_fold, getM_nil, Option.or_none, Option.or_none, ← lastW_append]
  simp only [if_true, List.take_length, List.take_append_drop]
/-- Forgotten. -/
theorem parts_undo {ws : List (Int × Int)} {f : Nat} (h : f < ws.length) (n : Int) : (hitM [foldW [] (ws.take f)] n).getD (10 + n) = wantW ws f false ws.length n := by
  unfold wantW visW
  rw [hit_one, getM_fold, getM_nil, Option.or_none]
  congr 2
  simp [Nat.min_eq_right (Nat.le_of_lt h)]
/-- One write more. -/
theorem partsW_step {ws : List (Int × Int)} {f i : Nat} (hi : i < ws.length) : 
    partsW ws f (i + 1) = (let P := if i = f then partsW ws f i ++ [[]] else partsW ws f i; P.dropLast ++ [putM (P.getLastD []) (ws[i]).1 (ws[i]).2]) := by
  have ht : ws.take (i + 1) = ws.take i ++ [ws[i]] := List.take_succ_eq_append_getElem hi
  unfold partsW
  rcases Nat.lt_trichotomy i f with h | h | h
  · rw [if_pos (show i + 1 ≤ f by omega), if_neg (show ¬ i = f by omega), if_pos (show i ≤ f by omega), ht, foldW_snoc]
    rfl
  · subst h
    rw [if_neg (show ¬ i + 1 ≤ i by omega), if_pos rfl, if_pos (Nat.le_refl i), ht]
    rw [List.drop_append_of_le_length (by rw [List.length_take]; omega)]
    rw [List.drop_of_length_le (by rw [List.length_take]; omega)]
    simp [foldW]
  · rw [if_neg (show ¬ i + 1 ≤ f by omega), if_neg (show ¬ i = f by omega), if_neg (show ¬ i ≤ f by omega), ht, List.drop_append_of_le_length (by rw [List.length_take]; omega), foldW_snoc]
    rfl
theorem wantW_step {ws : List (Int × Int)} {f i : Nat} {keep : Bool} (hi : i < ws.length) (n : Int) : wantW ws f keep (i + 1) n = if (decide (i < f) || keep) && (ws[i].1 == n) then ws[i].2 else wantW ws f keep i n := by
  have ht : ws.take (i + 1) = ws.take i ++ [ws[i]] := List.take_succ_eq_append_getElem hi
  unfold wantW visW
  cases keep with
  | true =>
    simp only [if_true, Bool.or_true, Bool.true_and]
    rw [ht, lastW_snoc]
    by_cases h : ws[i].1 = n
    · simp [h]
    · simp [h]
  | false =>
    simp only [Bool.false_eq_true, if_false, Bool.or_false]
    by_cases hf : i < f
    · rw [show min (i + 1) f = i + 1 by omega, show min i f = i by omega, ht, lastW_snoc]
      by_cases h : ws[i].1 = n
      · simp [h, hf]
      · simp [h]
    · rw [show min (i + 1) f = f by omega, show min i f = f by omega]
      simp [hf]
end Go.Proofs.Ytcnbgamalhfkmaa.P
