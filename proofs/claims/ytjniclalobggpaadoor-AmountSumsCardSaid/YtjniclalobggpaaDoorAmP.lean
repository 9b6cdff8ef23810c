/-
  Plain laws of amounts: products by halves, the nearest quotient, a size with its sign. No program in sight.
-/
import Derived.Test.YtjniclalobggpaaDoorAmS
namespace Go.Proofs.YtjniclalobggpaaDoor
open Go.RowKit
set_option linter.unusedVariables false

theorem and32 (a : Nat) (h : a < 18446744073709551616) : bits .and .u64 (a : Int) 4294967295 = ((a % 4294967296 : Nat) : Int) := by
  have e := u64_and_nat a 4294967295 h (by omega)
  rw [show a &&& 4294967295 = a % 4294967296 from Nat.and_two_pow_sub_one_eq_mod a 32] at e
  exact e
theorem and1 (a : Nat) (h : a < 18446744073709551616) : bits .and .u64 (a : Int) 1 = ((a % 2 : Nat) : Int) := by
  have e := u64_and_nat a 1 h (by omega)
  rw [Nat.and_one_is_mod] at e
  exact e
theorem or32 (h l : Nat) (hh : h < 4294967296) (hl : l < 4294967296) : bits .or .u64 ((h * 4294967296 : Nat) : Int) (l : Int) = ((h * 4294967296 + l : Nat) : Int) := by
  have e := u64_or_nat (h * 4294967296) l (by omega) (by omega)
  rw [show h * 4294967296 = h <<< 32 from (Nat.shiftLeft_eq h 32).symm, ← Nat.shiftLeft_add_eq_or_of_lt (i := 32) hl] at e
  rw [show h * 4294967296 = h <<< 32 from (Nat.shiftLeft_eq h 32).symm]
  exact e
theorem xor0 (a : Nat) (h : a < 18446744073709551616) : bits .xor .u64 (a : Int) 0 = (a : Int) := by
  have e := u64_xor_nat a 0 h (by omega)
  rw [Nat.xor_zero] at e
  exact e
theorem xorAll (a : Nat) (h : a < 18446744073709551616) : bits .xor .u64 (a : Int) 18446744073709551615 = ((18446744073709551615 - a : Nat) : Int) := by
  have e := u64_xor_nat a 18446744073709551615 h (by omega)
  have e2 : a ^^^ 18446744073709551615 = 18446744073709551615 - a := by
    have := BitVec.toNat_not (x := BitVec.ofNat 64 a)
    rw [← BitVec.xor_allOnes, BitVec.toNat_xor] at this
    simp only [BitVec.toNat_ofNat, BitVec.toNat_allOnes] at this
    rw [Nat.mod_eq_of_lt h] at this
    simpa using this
  rw [e2] at e
  exact e
/-- A product of numbers by halves. -/
theorem halves (a b : Nat) (h0 : a < 18446744073709551616) (h1 : b < 18446744073709551616) : ∃ a1 a0 b1 b0 p00 p10 p01 p11 : Nat,
    a / 4294967296 = a1 ∧ a % 4294967296 = a0 ∧ b / 4294967296 = b1 ∧ b % 4294967296 = b0 ∧ a0 * b0 = p00 ∧ a1 * b0 = p10 ∧ a0 * b1 = p01 ∧ a1 * b1 = p11 ∧
    p00 ≤ 18446744065119617025 ∧ p10 ≤ 18446744065119617025 ∧ p01 ≤ 18446744065119617025 ∧ p11 ≤ 18446744065119617025 ∧
    a * b = p11 * 18446744073709551616 + (p10 + p01) * 4294967296 + p00 := by
  have ea : a = a / 4294967296 * 4294967296 + a % 4294967296 := by omega
  have eb : b = b / 4294967296 * 4294967296 + b % 4294967296 := by omega
  have l1 : a / 4294967296 ≤ 4294967295 := by omega
  have l2 : a % 4294967296 ≤ 4294967295 := by omega
  have l3 : b / 4294967296 ≤ 4294967295 := by omega
  have l4 : b % 4294967296 ≤ 4294967295 := by omega
  generalize a / 4294967296 = a1 at *
  generalize a % 4294967296 = a0 at *
  generalize b / 4294967296 = b1 at *
  generalize b % 4294967296 = b0 at *
  refine ⟨a1, a0, b1, b0, _, _, _, _, rfl, rfl, rfl, rfl, rfl, rfl, rfl, rfl, Nat.mul_le_mul l2 l4, Nat.mul_le_mul l1 l4, Nat.mul_le_mul l2 l3, Nat.mul_le_mul l1 l3, ?_⟩
  rw [ea, eb, Nat.add_mul, Nat.mul_add, Nat.mul_add]
  have e1 : a1 * 4294967296 * (b1 * 4294967296) = a1 * b1 * 18446744073709551616 := by
    rw [Nat.mul_assoc, Nat.mul_left_comm 4294967296, ← Nat.mul_assoc, show 4294967296 * 4294967296 = 18446744073709551616 from rfl]
  have e2 : a1 * 4294967296 * b0 = a1 * b0 * 4294967296 := Nat.mul_right_comm _ _ _
  have e3 : a0 * (b1 * 4294967296) = a0 * b1 * 4294967296 := (Nat.mul_assoc _ _ _).symm
  rw [e1, e2, e3, Nat.add_mul]
  omega
/-- The nearest quotient, halves to the even one. -/
def evenDiv (n d : Nat) : Nat := if d < 2 * (n % d) ∨ (2 * (n % d) = d ∧ n / d % 2 = 1) then n / d + 1 else n / d
/-- A size with its sign; the error's number. -/
def sgn (q : Nat) (m : Bool) : Int × Int :=
  if m then (if q ≤ 9223372036854775808 then (-(q : Int), 0) else (0, 4)) else (if q < 9223372036854775808 then ((q : Int), 0) else (0, 4))
theorem sgn_big (q : Nat) (m : Bool) (h : 9223372036854775808 < q) : sgn q m = (0, 4) := by
  unfold sgn
  cases m
  · rw [if_neg (by simp), if_neg (by omega)]
  · rw [if_pos rfl, if_neg (by omega)]
end Go.Proofs.YtjniclalobggpaaDoor
