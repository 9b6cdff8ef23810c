/-
  Signs of bits. No program in sight.
-/
import Derived.Test.YtjniclalobggpaaDoorAmP
namespace Go.Proofs.YtjniclalobggpaaDoor
open Go.RowKit
set_option linter.unusedVariables false

theorem wrap_toNat (x : BitVec 64) : IntKind.i64.wrap (x.toNat : Int) = x.toInt := by
  have h := x.isLt
  rw [BitVec.toInt_eq_toNat_cond]
  simp only [IntKind.wrap, IntKind.bits, IntKind.signed]
  simp
  split <;> split <;> omega
theorem toInt_of (a : Int) (h0 : -9223372036854775808 ≤ a) (h1 : a ≤ 9223372036854775807) : (BitVec.ofInt 64 a).toInt = a := by
  rw [BitVec.toInt_ofInt]
  rw [Int.bmod_def]
  simp
  split <;> omega
theorem msb_of (a : Int) (h0 : -9223372036854775808 ≤ a) (h1 : a ≤ 9223372036854775807) : (BitVec.ofInt 64 a).msb = decide (a < 0) := by
  rw [BitVec.msb_eq_toInt, toInt_of a h0 h1]
theorem xorS (a b : Int) (h0 : -9223372036854775808 ≤ a) (h1 : a ≤ 9223372036854775807) (h2 : -9223372036854775808 ≤ b) (h3 : b ≤ 9223372036854775807) :
    (decide (bits .xor .i64 a b < 0) = (decide (a < 0) ^^ decide (b < 0))) ∧ -9223372036854775808 ≤ bits .xor .i64 a b ∧ bits .xor .i64 a b ≤ 9223372036854775807 := by
  have e : bits .xor .i64 a b = (BitVec.ofInt 64 a ^^^ BitVec.ofInt 64 b).toInt := wrap_toNat _
  have l1 := BitVec.le_toInt (BitVec.ofInt 64 a ^^^ BitVec.ofInt 64 b)
  have l2 := BitVec.toInt_lt (x := BitVec.ofInt 64 a ^^^ BitVec.ofInt 64 b)
  rw [e]
  refine ⟨?_, by omega, by omega⟩
  rw [← BitVec.msb_eq_toInt, BitVec.msb_xor, msb_of a h0 h1, msb_of b h2 h3]
theorem andS (a b : Int) (h0 : -9223372036854775808 ≤ a) (h1 : a ≤ 9223372036854775807) (h2 : -9223372036854775808 ≤ b) (h3 : b ≤ 9223372036854775807) :
    (decide (bits .and .i64 a b < 0) = (decide (a < 0) && decide (b < 0))) ∧ -9223372036854775808 ≤ bits .and .i64 a b ∧ bits .and .i64 a b ≤ 9223372036854775807 := by
  have e : bits .and .i64 a b = (BitVec.ofInt 64 a &&& BitVec.ofInt 64 b).toInt := wrap_toNat _
  have l1 := BitVec.le_toInt (BitVec.ofInt 64 a &&& BitVec.ofInt 64 b)
  have l2 := BitVec.toInt_lt (x := BitVec.ofInt 64 a &&& BitVec.ofInt 64 b)
  rw [e]
  refine ⟨?_, by omega, by omega⟩
  rw [← BitVec.msb_eq_toInt, BitVec.msb_and, msb_of a h0 h1, msb_of b h2 h3]
end Go.Proofs.YtjniclalobggpaaDoor
