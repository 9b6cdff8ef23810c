/-
  The reference's Over: the plain law. No program in sight.
-/
import Derived.Test.YtjniclalobggpaaDoorAmN5
namespace Go.Proofs.YtjniclalobggpaaDoor
open Go.RowKit
set_option linter.unusedVariables false

/-- The bit at i. -/
def bitAt (a i : Nat) : Nat := a / 2 ^ i % 2
theorem bit_dg (a i : Nat) : dg a (i / 16) / 2 ^ (i % 16) % 2 = bitAt a i := by
  unfold dg bitAt
  have e : (65536 : Nat) ^ (i / 16) = 2 ^ (16 * (i / 16)) := by rw [Nat.pow_mul]
  have hi : i = 16 * (i / 16) + i % 16 := by omega
  have hr : i % 16 < 16 := Nat.mod_lt _ (by omega)
  rw [e]
  have e2 : a / 2 ^ i = a / 2 ^ (16 * (i / 16)) / 2 ^ (i % 16) := by rw [Nat.div_div_eq_div_mul, ← Nat.pow_add, ← hi]
  rw [e2]
  generalize a / 2 ^ (16 * (i / 16)) = n
  generalize i % 16 = r at *
  have e3 : (65536 : Nat) = 2 ^ r * 2 ^ (16 - r) := by rw [← Nat.pow_add, show r + (16 - r) = 16 by omega]
  rw [e3, Nat.mod_mul_right_div_self]
  have e4 : (2 : Nat) ∣ 2 ^ (16 - r) := ⟨2 ^ (15 - r), by rw [show 16 - r = 15 - r + 1 by omega, Nat.pow_succ, Nat.mul_comm]⟩
  exact Nat.mod_mod_of_dvd _ e4
/-- The next bit of a long division. -/
theorem over_step (a b i : Nat) (hb : 0 < b) : 2 * (a / 2 ^ (i + 1) % b) + bitAt a i = if a / 2 ^ i % b = 2 * (a / 2 ^ (i + 1) % b) + bitAt a i then a / 2 ^ i % b else a / 2 ^ i % b + b := by
  have e : a / 2 ^ i = 2 * (a / 2 ^ (i + 1)) + bitAt a i := by
    unfold bitAt
    rw [Nat.pow_succ, ← Nat.div_div_eq_div_mul]
    omega
  have hbit : bitAt a i < 2 := Nat.mod_lt _ (by omega)
  have h1 := Nat.div_add_mod (a / 2 ^ (i + 1)) b
  have h2 : a / 2 ^ (i + 1) % b < b := Nat.mod_lt _ hb
  rw [e]
  generalize a / 2 ^ (i + 1) = n at *
  generalize bitAt a i = t at *
  have e2 : (2 * n + t) % b = (2 * (n % b) + t) % b := by
    have e3 : 2 * n + t = 2 * (n % b) + t + b * (2 * (n / b)) := by rw [Nat.mul_left_comm]; omega
    rw [e3, Nat.add_mul_mod_self_left]
  rw [e2]
  generalize n % b = r at *
  split
  · rename_i h; exact h.symm
  · rename_i h
    rcases Nat.lt_or_ge (2 * r + t) b with h3 | h3
    · exact absurd (Nat.mod_eq_of_lt h3) h
    · rw [Nat.mod_eq_sub_mod h3, Nat.mod_eq_of_lt (by omega)]
      omega
theorem over_quot (a b i : Nat) (hb : 0 < b) : a / 2 ^ i / b = 2 * (a / 2 ^ (i + 1) / b) + (if b ≤ 2 * (a / 2 ^ (i + 1) % b) + bitAt a i then 1 else 0) ∧
    a / 2 ^ i % b = 2 * (a / 2 ^ (i + 1) % b) + bitAt a i - (if b ≤ 2 * (a / 2 ^ (i + 1) % b) + bitAt a i then b else 0) := by
  have e : a / 2 ^ i = 2 * (a / 2 ^ (i + 1)) + bitAt a i := by
    unfold bitAt
    rw [Nat.pow_succ, ← Nat.div_div_eq_div_mul]
    omega
  have hbit : bitAt a i < 2 := Nat.mod_lt _ (by omega)
  have h1 := Nat.div_add_mod (a / 2 ^ (i + 1)) b
  have h2 : a / 2 ^ (i + 1) % b < b := Nat.mod_lt _ hb
  rw [e]
  generalize a / 2 ^ (i + 1) = n at *
  generalize bitAt a i = t at *
  have e3 : 2 * n + t = b * (2 * (n / b)) + (2 * (n % b) + t) := by rw [Nat.mul_left_comm]; omega
  rw [e3, Nat.mul_add_div hb, Nat.mul_add_mod]
  generalize n % b = r at *
  generalize n / b = q at *
  by_cases h : b ≤ 2 * r + t
  · rw [if_pos h, if_pos h]
    have h4 : (2 * r + t) / b = 1 := Nat.div_eq_of_lt_le (by omega) (by omega)
    rw [h4, Nat.mod_eq_sub_mod h, Nat.mod_eq_of_lt (by omega)]
    exact ⟨rfl, rfl⟩
  · rw [if_neg h, if_neg h, Nat.div_eq_of_lt (by omega), Nat.mod_eq_of_lt (by omega)]
    exact ⟨rfl, rfl⟩
/-- A bit of the quotient is laid. -/
theorem q_bit (m i : Nat) : (∀ j, j ≠ i / 16 → dg (m * 2 ^ (i + 1) + 2 ^ i) j = dg (m * 2 ^ (i + 1)) j) ∧ dg (m * 2 ^ (i + 1) + 2 ^ i) (i / 16) = dg (m * 2 ^ (i + 1)) (i / 16) + 2 ^ (i % 16) := by
  have hr : i % 16 < 16 := Nat.mod_lt _ (by omega)
  have hi : i = 16 * (i / 16) + i % 16 := by omega
  generalize i / 16 = K at *
  generalize i % 16 = s at *
  have e0 : (65536 : Nat) ^ K = 2 ^ (16 * K) := by rw [Nat.pow_mul]
  have e1 : (2 : Nat) ^ i = 2 ^ s * 65536 ^ K := by rw [e0, ← Nat.pow_add, hi, Nat.add_comm]
  have e2 : m * 2 ^ (i + 1) = m * 2 ^ (s + 1) * 65536 ^ K := by rw [Nat.pow_succ, e1, Nat.pow_succ]; simp only [Nat.mul_assoc, Nat.mul_comm]
  have hp := pow_pos' K
  have hs : 0 < 2 ^ s := Nat.two_pow_pos s
  have hs2 : 2 ^ (s + 1) = 2 * 2 ^ s := by rw [Nat.pow_succ, Nat.mul_comm]
  have hno : m * 2 ^ (s + 1) % 65536 + 2 ^ s < 65536 := by
    have e3 : (65536 : Nat) = 2 ^ (s + 1) * 2 ^ (15 - s) := by rw [← Nat.pow_add, show s + 1 + (15 - s) = 16 by omega]
    rw [Nat.mul_comm m, e3, Nat.mul_mod_mul_left]
    have h5 : m % 2 ^ (15 - s) + 1 ≤ 2 ^ (15 - s) := Nat.mod_lt _ (Nat.two_pow_pos _)
    have h6 : 2 ^ (s + 1) * (m % 2 ^ (15 - s) + 1) ≤ 2 ^ (s + 1) * 2 ^ (15 - s) := Nat.mul_le_mul_left _ h5
    rw [Nat.mul_add, Nat.mul_one] at h6
    omega
  rw [e1, e2]
  have hd0 : m * 2 ^ (s + 1) * 65536 ^ K / 65536 ^ K = m * 2 ^ (s + 1) := Nat.mul_div_cancel _ hp
  have hd1 : (m * 2 ^ (s + 1) * 65536 ^ K + 2 ^ s * 65536 ^ K) / 65536 ^ K = m * 2 ^ (s + 1) + 2 ^ s := by rw [← Nat.add_mul, Nat.mul_div_cancel _ hp]
  constructor
  · intro j hj
    rcases Nat.lt_or_gt_of_ne hj with h | h
    · exact dg_add_mul _ _ _ _ h
    · obtain ⟨d, rfl⟩ : ∃ d, j = K + 1 + d := ⟨j - K - 1, by omega⟩
      unfold dg
      have e6 : (65536 : Nat) ^ (K + 1 + d) = 65536 ^ K * 65536 * 65536 ^ d := by rw [Nat.pow_add, Nat.pow_succ]
      rw [e6, ← Nat.div_div_eq_div_mul, ← Nat.div_div_eq_div_mul, ← Nat.div_div_eq_div_mul, ← Nat.div_div_eq_div_mul, hd0, hd1]
      have e5 : (m * 2 ^ (s + 1) + 2 ^ s) / 65536 = m * 2 ^ (s + 1) / 65536 := by omega
      rw [e5]
  · unfold dg
    rw [hd0, hd1]
    omega
theorem dg0_even (r t : Nat) (ht : t < 2) : dg (2 * r) 0 + t = dg (2 * r + t) 0 ∧ ∀ j, j ≠ 0 → dg (2 * r) j = dg (2 * r + t) j := by
  constructor
  · unfold dg
    simp only [Nat.pow_zero, Nat.div_one]
    omega
  · intro j hj
    obtain ⟨d, rfl⟩ : ∃ d, j = d + 1 := ⟨j - 1, by omega⟩
    unfold dg
    rw [Nat.pow_succ, Nat.mul_comm (65536 ^ d), ← Nat.div_div_eq_div_mul, ← Nat.div_div_eq_div_mul]
    have : (2 * r + t) / 65536 = 2 * r / 65536 := by omega
    rw [this]
end Go.Proofs.YtjniclalobggpaaDoor
