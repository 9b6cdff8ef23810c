/-
  The plain laws of AmountLaws. No program in sight.
-/
import Derived.Test.YtjniclalobggpaaDoorAmW3
namespace Go.Proofs.YtjniclalobggpaaDoor
open Go.RowKit
set_option linter.unusedVariables false

theorem evenDiv_mul (n d : Nat) (hd : 0 < d) : evenDiv (n * d) d = n := by
  rw [evenDiv_eq, Nat.mul_mod_left, Nat.mul_div_cancel _ hd, if_neg (by omega)]
theorem overOf_mul (n d : Nat) (m : Bool) (hd : 0 < d) : overOf (n * d) d m = sgn n m := by
  show sgn (evenDiv (n * d) d) m = sgn n m
  rw [evenDiv_mul n d hd]
theorem sgn_self (a : Int) (h0 : -9223372036854775808 ≤ a) (h1 : a ≤ 9223372036854775807) : sgn a.natAbs (decide (a < 0)) = (a, 0) := by
  unfold sgn
  by_cases h : a < 0
  · rw [decide_eq_true h, if_pos rfl, if_pos (by omega)]
    congr 1
    omega
  · rw [decide_eq_false h, if_neg (by simp), if_pos (by omega)]
    congr 1
    omega
/-- What is multiplied and divided by one number stays. -/
theorem mulDiv_same (a b : Int) (h0 : -9223372036854775808 ≤ a) (h1 : a ≤ 9223372036854775807) (hb : b ≠ 0) : mulDivOf a b b = (a, 0) := by
  unfold mulDivOf
  rw [if_neg hb, overOf_mul _ _ _ (by omega)]
  have e : (decide (a < 0) ^^ decide (b < 0) ^^ decide (b < 0)) = decide (a < 0) := by
    cases decide (a < 0) <;> cases decide (b < 0) <;> rfl
  rw [e]
  exact sgn_self a h0 h1
theorem mulDiv_comm (a b c : Int) : mulDivOf b a c = mulDivOf a b c := by
  unfold mulDivOf
  rw [Nat.mul_comm b.natAbs a.natAbs]
  have e : (decide (b < 0) ^^ decide (a < 0)) = (decide (a < 0) ^^ decide (b < 0)) := by
    cases decide (a < 0) <;> cases decide (b < 0) <;> rfl
  rw [e]
theorem sgn_not (q : Nat) (m : Bool) (y : Int) (h : sgn q m = (y, 0)) (hy : -9223372036854775808 < y) : sgn q (!m) = (-y, 0) := by
  unfold sgn at h ⊢
  cases m
  · rw [if_neg (by simp)] at h
    split at h
    · injection h with h1 h2
      rw [Bool.not_false, if_pos rfl, if_pos (by omega), h1]
    · injection h with h1 h2
      cases h2
  · rw [if_pos rfl] at h
    split at h
    · injection h with h1 h2
      rw [Bool.not_true, if_neg (by simp), if_pos (by omega)]
      congr 1
      omega
    · injection h with h1 h2
      cases h2
/-- The other sign. -/
theorem mulDiv_neg (a b c y : Int) (hc : c ≠ 0) (h : mulDivOf a b c = (y, 0)) (hy : -9223372036854775808 < y) : mulDivOf (-a) b c = (-y, 0) := by
  unfold mulDivOf at h ⊢
  rw [if_neg hc] at h ⊢
  rw [Int.natAbs_neg]
  have h' : sgn (evenDiv (a.natAbs * b.natAbs) c.natAbs) (decide (a < 0) ^^ decide (b < 0) ^^ decide (c < 0)) = (y, 0) := h
  show sgn (evenDiv (a.natAbs * b.natAbs) c.natAbs) (decide (-a < 0) ^^ decide (b < 0) ^^ decide (c < 0)) = (-y, 0)
  by_cases ha : a = 0
  · subst ha
    simp only [Int.natAbs_zero, Nat.zero_mul] at h' ⊢
    have e0 : evenDiv 0 c.natAbs = 0 := by
      rw [evenDiv_eq, Nat.zero_mod, Nat.zero_div, if_neg (by omega)]
    rw [e0] at h' ⊢
    have ez : ∀ m, sgn 0 m = (0, 0) := by intro m; cases m <;> rfl
    rw [ez] at h' ⊢
    injection h' with h1 h2
    rw [← h1]
    rfl
  · have e : (decide (-a < 0) ^^ decide (b < 0) ^^ decide (c < 0)) = !(decide (a < 0) ^^ decide (b < 0) ^^ decide (c < 0)) := by
      rcases (show a < 0 ∨ 0 < a by omega) with h1 | h1
      · rw [decide_eq_true h1, decide_eq_false (show ¬ -a < 0 by omega)]
        cases decide (b < 0) <;> cases decide (c < 0) <;> rfl
      · rw [decide_eq_false (show ¬ a < 0 by omega), decide_eq_true (show -a < 0 by omega)]
        cases decide (b < 0) <;> cases decide (c < 0) <;> rfl
    rw [e]
    exact sgn_not _ _ y h' hy
end Go.Proofs.YtjniclalobggpaaDoor
