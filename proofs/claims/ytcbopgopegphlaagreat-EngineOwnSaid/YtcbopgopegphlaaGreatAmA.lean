/-
  Joined texts: AmS AmP AmW AmW2 AmP2 AmW3 AmW4 AmAd. No statement is proved here.
-/
import Derived.Shelf.Small.Bits
import Derived.Test.YtcbopgopegphlaaGreatBytes
import Derived.BigQuiet
import Derived.Deep.Cut
import Derived.Deep.DeepCutAuto
import Derived.Laws.Externs
import Derived.Shelf.Spec.BitsCarry
namespace Go.Proofs.YtcbopgopegphlaaGreat
open Go.Shelf
set_option linter.unusedVariables false
def lays134_ren : Go.Shelf.Ren := ⟨fun | 134 => 120 | 129 => 80 | n => n, fun | 53 => 132 | 3 => 3 | 4 => 4 | 46 => 85 | 5 => 5 | 9 => 9 | n => n, fun | n => n⟩
theorem lays134 : Go.Proofs.Lays.n134 Tryz.prog lays134_ren := {
  mixed := by kernel_rfl
  f129 := Tryz.func80.trans (congrArg some (by kernel_rfl))
  f134 := Tryz.func120.trans (congrArg some (by kernel_rfl))
  t3 := Tryz.underlying3
  a3 := Tryz.isAgg3
  z3 := Tryz.sizeOf3
  v3 := Tryz.zeroValue3
  t4 := Tryz.underlying4
  a4 := Tryz.isAgg4
  z4 := Tryz.sizeOf4
  v4 := Tryz.zeroValue4
  t5 := Tryz.underlying5
  a5 := Tryz.isAgg5
  z5 := Tryz.sizeOf5
  v5 := Tryz.zeroValue5
  t9 := Tryz.underlying9
  a9 := Tryz.isAgg9
  z9 := Tryz.sizeOf9
  v9 := Tryz.zeroValue9
  t46 := Tryz.underlying85
  a46 := Tryz.isAgg85
  z46 := Tryz.sizeOf85
  v46 := Tryz.zeroValue85
  t53 := Tryz.underlying132
  a53 := Tryz.isAgg132
  z53 := Tryz.sizeOf132
  v53 := Tryz.zeroValue132 }
theorem bits_LeadingZeros64 (x : Int) (w : World) (h0 : 0 ≤ x) (h1 : x ≤ 18446744073709551615) :
    Calls Tryz.prog 120 #[.int .u64 x] w fun e w' => e = .returned (.int .i64 (64 - (Lib.bitLen x.toNat : Int))) ∧ w' = w := Any.bits_LeadingZeros64 lays134 x w h0 h1
end Go.Proofs.YtcbopgopegphlaaGreat

namespace Go.Proofs.YtcbopgopegphlaaGreat
open Go.RowKit
set_option linter.unusedVariables false

theorem and32 (a : Nat) (h : a < 18446744073709551616) : bits .and .u64 (a : Int) 4294967295 = ((a % 4294967296 : Nat) : Int) := by
  have e := u64_and_nat a 4294967295 h (by omega)
  rw [show a &&& 4294967295 = a % 4294967296 from Nat.and_two_pow_sub_one_eq_mod a 32] at e
  exact e
theorem and1 (a : Nat) (h : a < 18446744073709551616) : bits .and .u64 (a : Int) 1 = ((a % 2 : Nat) : Int) := by
  have e := u64_and_nat a 1 h (by omega)
  rw [Nat.and_one_is_mod] at e
  exact e
theorem or32 (h l : Nat) (hh : h < 4294967296) (hl : l < 4294967296) : bits .or .u64 ((h * 4294967296 : Nat) : Int) (l : Int) = ((h * 4294967296 + l : Nat) : Int) := by
  have e := u64_or_nat (h * 4294967296) l (by omega) (by omega)
  rw [show h * 4294967296 = h <<< 32 from (Nat.shiftLeft_eq h 32).symm, ← Nat.shiftLeft_add_eq_or_of_lt (i := 32) hl] at e
  rw [show h * 4294967296 = h <<< 32 from (Nat.shiftLeft_eq h 32).symm]
  exact e
theorem xor0 (a : Nat) (h : a < 18446744073709551616) : bits .xor .u64 (a : Int) 0 = (a : Int) := by
  have e := u64_xor_nat a 0 h (by omega)
  rw [Nat.xor_zero] at e
  exact e
theorem xorAll (a : Nat) (h : a < 18446744073709551616) : bits .xor .u64 (a : Int) 18446744073709551615 = ((18446744073709551615 - a : Nat) : Int) := by
  have e := u64_xor_nat a 18446744073709551615 h (by omega)
  have e2 : a ^^^ 18446744073709551615 = 18446744073709551615 - a := by
    have := BitVec.toNat_not (x := BitVec.ofNat 64 a)
    rw [← BitVec.xor_allOnes, BitVec.toNat_xor] at this
    simp only [BitVec.toNat_ofNat, BitVec.toNat_allOnes] at this
    rw [Nat.mod_eq_of_lt h] at this
    simpa using this
  rw [e2] at e
  exact e
/-- A product of numbers by halves. -/
theorem halves (a b : Nat) (h0 : a < 18446744073709551616) (h1 : b < 18446744073709551616) : ∃ a1 a0 b1 b0 p00 p10 p01 p11 : Nat,
    a / 4294967296 = a1 ∧ a % 4294967296 = a0 ∧ b / 4294967296 = b1 ∧ b % 4294967296 = b0 ∧ a0 * b0 = p00 ∧ a1 * b0 = p10 ∧ a0 * b1 = p01 ∧ a1 * b1 = p11 ∧
    p00 ≤ 18446744065119617025 ∧ p10 ≤ 18446744065119617025 ∧ p01 ≤ 18446744065119617025 ∧ p11 ≤ 18446744065119617025 ∧
    a * b = p11 * 18446744073709551616 + (p10 + p01) * 4294967296 + p00 := by
  have ea : a = a / 4294967296 * 4294967296 + a % 4294967296 := by omega
  have eb : b = b / 4294967296 * 4294967296 + b % 4294967296 := by omega
  have l1 : a / 4294967296 ≤ 4294967295 := by omega
  have l2 : a % 4294967296 ≤ 4294967295 := by omega
  have l3 : b / 4294967296 ≤ 4294967295 := by omega
  have l4 : b % 4294967296 ≤ 4294967295 := by omega
  generalize a / 4294967296 = a1 at *
  generalize a % 4294967296 = a0 at *
  generalize b / 4294967296 = b1 at *
  generalize b % 4294967296 = b0 at *
  refine ⟨a1, a0, b1, b0, _, _, _, _, rfl, rfl, rfl, rfl, rfl, rfl, rfl, rfl, Nat.mul_le_mul l2 l4, Nat.mul_le_mul l1 l4, Nat.mul_le_mul l2 l3, Nat.mul_le_mul l1 l3, ?_⟩
  rw [ea, eb, Nat.add_mul, Nat.mul_add, Nat.mul_add]
  have e1 : a1 * 4294967296 * (b1 * 4294967296) = a1 * b1 * 18446744073709551616 := by
    rw [Nat.mul_assoc, Nat.mul_left_comm 4294967296, ← Nat.mul_assoc, show 4294967296 * 4294967296 = 18446744073709551616 from rfl]
  have e2 : a1 * 4294967296 * b0 = a1 * b0 * 4294967296 := Nat.mul_right_comm _ _ _
  have e3 : a0 * (b1 * 4294967296) = a0 * b1 * 4294967296 := (Nat.mul_assoc _ _ _).symm
  rw [e1, e2, e3, Nat.add_mul]
  omega
/-- The nearest quotient, halves to the even one. -/
def evenDiv (n d : Nat) : Nat := if d < 2 * (n % d) ∨ (2 * (n % d) = d ∧ n / d % 2 = 1) then n / d + 1 else n / d
/-- A size with its sign; the error's number. -/
def sgn (q : Nat) (m : Bool) : Int × Int :=
  if m then (if q ≤ 9223372036854775808 then (-(q : Int), 0) else (0, 4)) else (if q < 9223372036854775808 then ((q : Int), 0) else (0, 4))
theorem sgn_big (q : Nat) (m : Bool) (h : 9223372036854775808 < q) : sgn q m = (0, 4) := by
  unfold sgn
  cases m
  · rw [if_neg (by simp), if_neg (by omega)]
  · rw [if_pos rfl, if_neg (by omega)]
end Go.Proofs.YtcbopgopegphlaaGreat

namespace Go.Proofs.YtcbopgopegphlaaGreat
open Go.RowKit
set_option linter.unusedVariables false

set_option maxHeartbeats 400000 in
theorem size_any (v : Int) (w : World) (h0 : -9223372036854775808 ≤ v) (h1 : v ≤ 9223372036854775807) :
    Calls Tryz.prog 94 #[.int .i64 v] w fun e w' => e = .returned (.int .u64 (v.natAbs : Nat)) ∧ w' = w := by
  rcases Int.lt_or_le v 0 with hv | hv
  · have e1 : v / 9223372036854775808 = -1 := by omega
    have e2 : IntKind.u64.wrap (-1) = 18446744073709551615 := by decide
    obtain ⟨n, rfl⟩ : ∃ n : Nat, v = -(n : Int) := ⟨v.natAbs, by omega⟩
    have e3 : IntKind.u64.wrap (-(n : Int)) = ((18446744073709551616 - n : Nat) : Int) := by simp [IntKind.wrap, IntKind.bits, IntKind.signed]; omega
    have e4 := xorAll (18446744073709551616 - n) (by omega)
    have e5 : (18446744073709551615 - (18446744073709551616 - n) : Nat) = n - 1 := by omega
    rw [e5] at e4
    have H : Hid (IntKind.u64.wrap (bits .xor .u64 (IntKind.u64.wrap (-(n : Int))) (IntKind.u64.wrap (-(n : Int) / 9223372036854775808)) - IntKind.u64.wrap (-(n : Int) / 9223372036854775808)) = (((-(n : Int)).natAbs : Nat) : Int)) := Lib.hid (by
      rw [e1, e2, e3, e4]
      simp [IntKind.wrap, IntKind.bits, IntKind.signed]
      omega)
    clear e1 e2 e3 e4 e5
    go_enter Tryz.func94, Tryz.ntmps94
    go_wp2
    rw [H.out]
    go_ret
    exact ⟨rfl, rfl⟩
  · obtain ⟨n, rfl⟩ := Int.eq_ofNat_of_zero_le hv
    have e1 : (n : Int) / 9223372036854775808 = 0 := by omega
    have e2 := xor0 n (by omega)
    have H : Hid (IntKind.u64.wrap (bits .xor .u64 (n : Int) ((n : Int) / 9223372036854775808) - (n : Int) / 9223372036854775808) = (((n : Int).natAbs : Nat) : Int)) := Lib.hid (by
      rw [e1, e2]
      simp [IntKind.wrap, IntKind.bits, IntKind.signed]
      omega)
    clear e1 e2
    go_enter Tryz.func94, Tryz.ntmps94
    go_wp2
    rw [H.out]
    go_ret
    exact ⟨rfl, rfl⟩
set_option maxHeartbeats 400000 in
theorem signed_any (q : Nat) (m : Bool) (w : World) (h0 : q < 18446744073709551616) :
    Calls Tryz.prog 116 #[.int .u64 q, .bool m] w fun e w' => e = .returned (.tuple #[.int .i64 (sgn q m).1, .int .i64 (sgn q m).2]) ∧ w' = w := by
  unfold sgn
  cases m
  · by_cases h : q < 9223372036854775808
    · have e1 : ((q : Int) / 9223372036854775808 == 0) = true := by rw [beq_iff_eq]; omega
      rw [if_neg (by simp), if_pos h]
      go_enter Tryz.func116, Tryz.ntmps116
      go_wp2
      go_ret2
      exact ⟨rfl, rfl⟩
    · have e1 : ((q : Int) / 9223372036854775808 == 0) = false := by rw [beq_eq_false_iff_ne]; omega
      rw [if_neg (by simp), if_neg h]
      go_enter Tryz.func116, Tryz.ntmps116
      go_wp2
      go_ret2
      exact ⟨rfl, rfl⟩
  · by_cases h : q ≤ 9223372036854775808
    · have e2 : wrap64 (IntKind.u64.wrap (-(q : Int))) = -(q : Int) := by
        have e3 : IntKind.u64.wrap (-(q : Int)) = (-(q : Int)) % 18446744073709551616 := by simp [IntKind.wrap, IntKind.bits, IntKind.signed]
        rw [e3]
        unfold wrap64
        omega
      rw [if_pos rfl, if_pos h]
      go_enter Tryz.func116, Tryz.ntmps116
      go_wp2
      go_ret2
      exact ⟨by rw [e2]; rfl, rfl⟩
    · rw [if_pos rfl, if_neg h]
      go_enter Tryz.func116, Tryz.ntmps116
      go_wp2
      go_ret2
      exact ⟨rfl, rfl⟩
theorem wrapU (n : Nat) (h : n < 18446744073709551616) : IntKind.u64.wrap (n : Int) = (n : Int) := by
  simp [IntKind.wrap, IntKind.bits, IntKind.signed]; omega
set_option maxHeartbeats 1000000 in
theorem mul_any (a b : Nat) (w : World) (h0 : a < 18446744073709551616) (h1 : b < 18446744073709551616) :
    Calls Tryz.prog 100 #[.int .u64 a, .int .u64 b] w fun e w' => e = .returned (.tuple #[.int .u64 (a * b / 18446744073709551616 : Nat), .int .u64 (a * b % 18446744073709551616 : Nat)]) ∧ w' = w := by
  obtain ⟨a1, a0, b1, b0, p00, p10, p01, p11, ha1, ha0, hb1, hb0, k00, k10, k01, k11, l00, l10, l01, l11, hab⟩ := halves a b h0 h1
  obtain ⟨mid, hm⟩ : ∃ x, x = p10 + p00 / 4294967296 := ⟨_, rfl⟩
  obtain ⟨cr, hc⟩ : ∃ x, x = mid % 4294967296 + p01 := ⟨_, rfl⟩
  have A0 : bits .and .u64 (a : Int) 4294967295 = (a0 : Int) := by rw [and32 a h0, ha0]
  have B0 : bits .and .u64 (b : Int) 4294967295 = (b0 : Int) := by rw [and32 b h1, hb0]
  have A1 : (a : Int) / 4294967296 = (a1 : Int) := by omega
  have B1 : (b : Int) / 4294967296 = (b1 : Int) := by omega
  have K00 : (a0 : Int) * (b0 : Int) = (p00 : Int) := by rw [← k00]; rfl
  have K10 : (a1 : Int) * (b0 : Int) = (p10 : Int) := by rw [← k10]; rfl
  have K01 : (a0 : Int) * (b1 : Int) = (p01 : Int) := by rw [← k01]; rfl
  have K11 : (a1 : Int) * (b1 : Int) = (p11 : Int) := by rw [← k11]; rfl
  have e1 : (p00 : Int) / 4294967296 = ((p00 / 4294967296 : Nat) : Int) := rfl
  have M : (p10 : Int) + (p00 : Int) / 4294967296 = (mid : Int) := by omega
  have M32 := and32 mid (by omega)
  have L32 := and32 p00 (by omega)
  have C : ((mid % 4294967296 : Nat) : Int) + (p01 : Int) = (cr : Int) := by omega
  have S : IntKind.u64.wrap ((cr : Int) * 4294967296) = ((cr % 4294967296 * 4294967296 : Nat) : Int) := by
    simp [IntKind.wrap, IntKind.bits, IntKind.signed]; omega
  have O := or32 (cr % 4294967296) (p00 % 4294967296) (by omega) (by omega)
  have HI : IntKind.u64.wrap (IntKind.u64.wrap ((p11 : Int) + (mid : Int) / 4294967296) + (cr : Int) / 4294967296) = ((a * b / 18446744073709551616 : Nat) : Int) := by
    simp [IntKind.wrap, IntKind.bits, IntKind.signed]
    omega
  have LO : ((cr % 4294967296 * 4294967296 + p00 % 4294967296 : Nat) : Int) = ((a * b % 18446744073709551616 : Nat) : Int) := by omega
  have w00 := wrapU p00 (by omega)
  have w10 := wrapU p10 (by omega)
  have w01 := wrapU p01 (by omega)
  have w11 := wrapU p11 (by omega)
  have wm := wrapU mid (by omega)
  have wc := wrapU cr (by omega)
  have H : Hid (IntKind.u64.wrap (IntKind.u64.wrap (IntKind.u64.wrap ((a : Int) / 4294967296 * ((b : Int) / 4294967296)) + IntKind.u64.wrap (IntKind.u64.wrap ((a : Int) / 4294967296 * bits .and .u64 (b : Int) 4294967295) + IntKind.u64.wrap (bits .and .u64 (a : Int) 4294967295 * bits .and .u64 (b : Int) 4294967295) / 4294967296) / 4294967296) +
      IntKind.u64.wrap (bits .and .u64 (IntKind.u64.wrap (IntKind.u64.wrap ((a : Int) / 4294967296 * bits .and .u64 (b : Int) 4294967295) + IntKind.u64.wrap (bits .and .u64 (a : Int) 4294967295 * bits .and .u64 (b : Int) 4294967295) / 4294967296)) 4294967295 + IntKind.u64.wrap (bits .and .u64 (a : Int) 4294967295 * ((b : Int) / 4294967296))) / 4294967296) = ((a * b / 18446744073709551616 : Nat) : Int)) := Lib.hid (by
    rw [A0, B0, A1, B1, K00, K10, K01, K11, w00, w10, w01, w11, M, wm, M32, C, wc]
    exact HI)
  have Lw : Hid (bits .or .u64 (IntKind.u64.wrap (IntKind.u64.wrap (bits .and .u64 (IntKind.u64.wrap (IntKind.u64.wrap ((a : Int) / 4294967296 * bits .and .u64 (b : Int) 4294967295) + IntKind.u64.wrap (bits .and .u64 (a : Int) 4294967295 * bits .and .u64 (b : Int) 4294967295) / 4294967296)) 4294967295 + IntKind.u64.wrap (bits .and .u64 (a : Int) 4294967295 * ((b : Int) / 4294967296))) * 4294967296)) (bits .and .u64 (IntKind.u64.wrap (bits .and .u64 (a : Int) 4294967295 * bits .and .u64 (b : Int) 4294967295)) 4294967295) = ((a * b % 18446744073709551616 : Nat) : Int)) := Lib.hid (by
    rw [A0, B0, A1, B1, K00, K10, K01, w00, w10, w01, M, wm, M32, C, wc, S, L32, O]
    exact LO)
  clear A0 B0 A1 B1 K00 K10 K01 K11 e1 M M32 L32 C S O HI LO w00 w10 w01 w11 wm wc
  clear hm hc ha1 ha0 hb1 hb0 k00 k10 k01 k11 l00 l10 l01 l11 hab
  go_enter Tryz.func100, Tryz.ntmps100
  go_wp2
  rw [H.out, Lw.out]
  go_ret2
  exact ⟨rfl, rfl⟩
end Go.Proofs.YtcbopgopegphlaaGreat

namespace Go.Proofs.YtcbopgopegphlaaGreat
open Go.RowKit
set_option linter.unusedVariables false

/-- Two words as one number. -/
def wd (hi lo : Nat) : Nat := hi * 18446744073709551616 + lo
theorem wd_zero (lo : Nat) : wd 0 lo = lo := by unfold wd; omega
theorem wd_ge (hi lo d : Nat) (hd : 0 < d) (h : d ≤ hi) : 18446744073709551616 ≤ wd hi lo / d := by
  unfold wd
  rw [Nat.le_div_iff_mul_le hd, Nat.mul_comm]
  exact Nat.le_trans (Nat.mul_le_mul_right _ h) (Nat.le_add_right _ _)
theorem wd_lt (hi lo d : Nat) (hd : 0 < d) (h1 : lo < 18446744073709551616) (h : hi < d) : wd hi lo / d < 18446744073709551616 := by
  unfold wd
  rw [Nat.div_lt_iff_lt_mul hd, Nat.mul_comm]
  have h3 : (hi + 1) * 18446744073709551616 ≤ d * 18446744073709551616 := Nat.mul_le_mul_right _ (by omega)
  omega
theorem evenDiv_eq (n d : Nat) : evenDiv n d = if d < 2 * (n % d) ∨ (2 * (n % d) = d ∧ n / d % 2 = 1) then n / d + 1 else n / d := rfl
theorem evenDiv_ge (n d : Nat) : n / d ≤ evenDiv n d := by rw [evenDiv_eq]; split <;> omega
/-- What bits.Div64 answers. -/
def DivAt (hi lo d : Nat) : Prop := ∀ w : World, Calls Tryz.prog 115 #[.int .u64 hi, .int .u64 lo, .int .u64 d] w fun e w' =>
  e = .returned (.tuple #[.int .u64 (wd hi lo / d : Nat), .int .u64 (wd hi lo % d : Nat)]) ∧ Below w.heap.size w w'
set_option maxHeartbeats 400000 in
theorem Div64_small (lo d : Nat) (h0 : lo < 18446744073709551616) (h1 : d < 18446744073709551616) (hd : 0 < d) : DivAt 0 lo d := by
  intro w
  have e0 : wd 0 lo = lo := wd_zero lo
  have e1 : ((d : Int) == 0) = false := by rw [beq_eq_false_iff_ne]; omega
  have e2 : decide ((d : Int) ≤ 0) = false := by rw [decide_eq_false_iff_not]; omega
  rw [e0]
  have q0 : (lo : Int) / (d : Int) = ((lo / d : Nat) : Int) := rfl
  have q1 : (lo : Int) % (d : Int) = ((lo % d : Nat) : Int) := rfl
  have q2 : lo / d < 18446744073709551616 := Nat.lt_of_le_of_lt (Nat.div_le_self _ _) h0
  have q3 : lo % d < 18446744073709551616 := Nat.lt_of_le_of_lt (Nat.mod_le _ _) h0
  have q4 : (lo : Int).tdiv (d : Int) = ((lo / d : Nat) : Int) := rfl
  have q5 : (lo : Int).tmod (d : Int) = ((lo % d : Nat) : Int) := rfl
  generalize lo / d = q at *
  generalize lo % d = r at *
  go_enter Tryz.func115, Tryz.ntmps115
  go_upto_region 6 with (fail)
  go_quiet (fail)
  go_wp2
  go_ret2
  exact ⟨rfl, below_drewN (Below.refl _ _) _⟩
/-- What over answers: the nearest quotient with its sign. -/
def overOf (n d : Nat) (m : Bool) : Int × Int := sgn (evenDiv n d) m
set_option maxHeartbeats 1000000 in
theorem over_of (hi lo d : Nat) (m : Bool) (w : World) (h0 : hi < 18446744073709551616) (h1 : lo < 18446744073709551616) (h2 : d < 18446744073709551616) (hd : 0 < d) (HD : hi < d → DivAt hi lo d) :
    Calls Tryz.prog 96 #[.agg #[.int .u64 hi, .int .u64 lo], .int .u64 d, .bool m] w fun e w' => e = .returned (.tuple #[.int .i64 (overOf (wd hi lo) d m).1, .int .i64 (overOf (wd hi lo) d m).2]) ∧ Below w.heap.size w w' := by
  by_cases hlt : d ≤ hi
  · have hq := Nat.le_trans (wd_ge hi lo d hd hlt) (evenDiv_ge _ _)
    have HO := Lib.hid (show overOf (wd hi lo) d m = (0, 4) from sgn_big _ m (by omega))
    rw [HO.out]
    clear HD HO hq
    have hb1 := (Below.refl w.heap.size w).alloc (Nat.le_refl _) (.cells #[.int .u64 (hi : Int), .int .u64 (lo : Int)] 149)
    go_enter Tryz.func96, Tryz.ntmps96
    go_wp2
    go_ret2
    exact ⟨rfl, hb1⟩
  · have HDiv := Lib.hid (HD (by omega))
    clear HD
    have hq := wd_lt hi lo d hd h1 (by omega)
    have hr : wd hi lo % d < d := Nat.mod_lt _ hd
    have HO : overOf (wd hi lo) d m = sgn (evenDiv (wd hi lo) d) m := rfl
    unfold DivAt at HDiv
    rw [HO, evenDiv_eq]
    clear HO
    have hdh : decide ((d : Int) ≤ (hi : Int)) = false := by rw [decide_eq_false_iff_not]; omega
    generalize wd hi lo = N at *
    generalize N / d = q at *
    generalize N % d = r at *
    obtain ⟨l, hl⟩ : ∃ l : Nat, d = l + r := ⟨d - r, by omega⟩
    have HQ1 := Lib.hid (and1 q hq)
    have HS := Lib.hid signed_any
    subst hl
    clear hdh
    by_cases hup : l + r < 2 * r ∨ (2 * r = l + r ∧ q % 2 = 1)
    · rw [if_pos hup]
      have HUP : l < r ∨ (l = r ∧ bits .and .u64 (q : Int) 1 = 1) := by
        rcases hup with h | ⟨h, h'⟩
        · left; omega
        · right; exact ⟨by omega, by rw [HQ1.out, h']; rfl⟩
      clear hup
      by_cases hov : q + 1 = 18446744073709551616
      · have HO := Lib.hid (sgn_big (q + 1) m (by omega))
        rw [HO.out]
        have hw : IntKind.u64.wrap ((q : Int) + 1) = 0 := by rw [show (q : Int) + 1 = 18446744073709551616 by omega]; decide
        clear HO hov
        rcases HUP with hu | ⟨rfl, hu⟩
        · go_enter Tryz.func96, Tryz.ntmps96
          go_wp2_with fail
          refine (HDiv.out _).mono ?_
          rintro e w2 ⟨rfl, hb2⟩
          have hb02 := (below_alloc (Below.refl _ w) _).trans (hb2.mono (by simp))
          go_wp2
          go_ret2
          exact ⟨rfl, hb02⟩
        · go_enter Tryz.func96, Tryz.ntmps96
          go_wp2_with fail
          refine (HDiv.out _).mono ?_
          rintro e w2 ⟨rfl, hb2⟩
          have hb02 := (below_alloc (Below.refl _ w) _).trans (hb2.mono (by simp))
          go_wp2
          go_ret2
          exact ⟨rfl, hb02⟩
      · have hw : ((q : Int) + 1 == 0) = false := by rw [beq_eq_false_iff_ne]; omega
        have HSq := Lib.hid (fun w => HS.out (q + 1) m w (by omega))
        generalize sgn (q + 1) m = z at *
        obtain ⟨z1, z2⟩ := z
        dsimp only at *
        rcases HUP with hu | ⟨rfl, hu⟩
        · go_enter Tryz.func96, Tryz.ntmps96
          go_wp2_with fail
          refine (HDiv.out _).mono ?_
          rintro e w2 ⟨rfl, hb2⟩
          have hb02 := (below_alloc (Below.refl _ w) _).trans (hb2.mono (by simp))
          go_wp2_with fail
          refine (HSq.out w2).mono ?_
          rintro e w' ⟨rfl, rfl⟩
          go_wp2
          go_ret2
          exact ⟨rfl, hb02⟩
        · go_enter Tryz.func96, Tryz.ntmps96
          go_wp2_with fail
          refine (HDiv.out _).mono ?_
          rintro e w2 ⟨rfl, hb2⟩
          have hb02 := (below_alloc (Below.refl _ w) _).trans (hb2.mono (by simp))
          go_wp2_with fail
          refine (HSq.out w2).mono ?_
          rintro e w' ⟨rfl, rfl⟩
          go_wp2
          go_ret2
          exact ⟨rfl, hb02⟩
    · rw [if_neg hup]
      have HUP : r < l ∨ (l = r ∧ bits .and .u64 (q : Int) 1 = 0) := by
        rcases Nat.lt_or_ge r l with h | h
        · exact .inl h
        · exact .inr ⟨by omega, by rw [HQ1.out, show q % 2 = 0 by omega]; rfl⟩
      clear hup
      have HSq := Lib.hid (fun w => HS.out q m w (by omega))
      generalize sgn q m = z at *
      obtain ⟨z1, z2⟩ := z
      dsimp only at *
      rcases HUP with hu | ⟨rfl, hu⟩
      · have hb0 : ((r : Int) == (l : Int)) = false := by rw [beq_eq_false_iff_ne]; omega
        have hb1 : (r == l) = false := by rw [beq_eq_false_iff_ne]; omega
        have hd0 : ¬ l < r := by omega
        have hd1 : r ≠ l := by omega
        go_enter Tryz.func96, Tryz.ntmps96
        go_wp2_with fail
        refine (HDiv.out _).mono ?_
        rintro e w2 ⟨rfl, hb2⟩
        have hb02 := (below_alloc (Below.refl _ w) _).trans (hb2.mono (by simp))
        go_wp2_with fail
        refine (HSq.out w2).mono ?_
        rintro e w' ⟨rfl, rfl⟩
        go_wp2
        go_ret2
        exact ⟨rfl, hb02⟩
      · go_enter Tryz.func96, Tryz.ntmps96
        go_wp2_with fail
        refine (HDiv.out _).mono ?_
        rintro e w2 ⟨rfl, hb2⟩
        have hb02 := (below_alloc (Below.refl _ w) _).trans (hb2.mono (by simp))
        go_wp2_with fail
        refine (HSq.out w2).mono ?_
        rintro e w' ⟨rfl, rfl⟩
        go_wp2
        go_ret2
        exact ⟨rfl, hb02⟩
end Go.Proofs.YtcbopgopegphlaaGreat

namespace Go.Proofs.YtcbopgopegphlaaGreat
open Go.RowKit
set_option linter.unusedVariables false

theorem wrap_toNat (x : BitVec 64) : IntKind.i64.wrap (x.toNat : Int) = x.toInt := by
  have h := x.isLt
  rw [BitVec.toInt_eq_toNat_cond]
  simp only [IntKind.wrap, IntKind.bits, IntKind.signed]
  simp
  split <;> split <;> omega
theorem toInt_of (a : Int) (h0 : -9223372036854775808 ≤ a) (h1 : a ≤ 9223372036854775807) : (BitVec.ofInt 64 a).toInt = a := by
  rw [BitVec.toInt_ofInt]
  rw [Int.bmod_def]
  simp
  split <;> omega
theorem msb_of (a : Int) (h0 : -9223372036854775808 ≤ a) (h1 : a ≤ 9223372036854775807) : (BitVec.ofInt 64 a).msb = decide (a < 0) := by
  rw [BitVec.msb_eq_toInt, toInt_of a h0 h1]
theorem xorS (a b : Int) (h0 : -9223372036854775808 ≤ a) (h1 : a ≤ 9223372036854775807) (h2 : -9223372036854775808 ≤ b) (h3 : b ≤ 9223372036854775807) :
    (decide (bits .xor .i64 a b < 0) = (decide (a < 0) ^^ decide (b < 0))) ∧ -9223372036854775808 ≤ bits .xor .i64 a b ∧ bits .xor .i64 a b ≤ 9223372036854775807 := by
  have e : bits .xor .i64 a b = (BitVec.ofInt 64 a ^^^ BitVec.ofInt 64 b).toInt := wrap_toNat _
  have l1 := BitVec.le_toInt (BitVec.ofInt 64 a ^^^ BitVec.ofInt 64 b)
  have l2 := BitVec.toInt_lt (x := BitVec.ofInt 64 a ^^^ BitVec.ofInt 64 b)
  rw [e]
  refine ⟨?_, by omega, by omega⟩
  rw [← BitVec.msb_eq_toInt, BitVec.msb_xor, msb_of a h0 h1, msb_of b h2 h3]
theorem andS (a b : Int) (h0 : -9223372036854775808 ≤ a) (h1 : a ≤ 9223372036854775807) (h2 : -9223372036854775808 ≤ b) (h3 : b ≤ 9223372036854775807) :
    (decide (bits .and .i64 a b < 0) = (decide (a < 0) && decide (b < 0))) ∧ -9223372036854775808 ≤ bits .and .i64 a b ∧ bits .and .i64 a b ≤ 9223372036854775807 := by
  have e : bits .and .i64 a b = (BitVec.ofInt 64 a &&& BitVec.ofInt 64 b).toInt := wrap_toNat _
  have l1 := BitVec.le_toInt (BitVec.ofInt 64 a &&& BitVec.ofInt 64 b)
  have l2 := BitVec.toInt_lt (x := BitVec.ofInt 64 a &&& BitVec.ofInt 64 b)
  rw [e]
  refine ⟨?_, by omega, by omega⟩
  rw [← BitVec.msb_eq_toInt, BitVec.msb_and, msb_of a h0 h1, msb_of b h2 h3]
end Go.Proofs.YtcbopgopegphlaaGreat

namespace Go.Proofs.YtcbopgopegphlaaGreat
open Go.RowKit
set_option linter.unusedVariables false

theorem wd_split (n : Nat) : wd (n / 18446744073709551616) (n % 18446744073709551616) = n := by unfold wd; omega
/-- What MulDiv answers. -/
def mulDivOf (a b c : Int) : Int × Int := if c = 0 then (0, 5) else overOf (a.natAbs * b.natAbs) c.natAbs (decide (a < 0) ^^ decide (b < 0) ^^ decide (c < 0))
theorem natAbs_le (a : Int) (h0 : -9223372036854775808 ≤ a) (h1 : a ≤ 9223372036854775807) : a.natAbs ≤ 9223372036854775808 := by omega
theorem prod_lt (a b : Nat) (h0 : a ≤ 9223372036854775808) (h1 : b ≤ 9223372036854775808) : a * b / 18446744073709551616 < 18446744073709551616 := by
  have := Nat.mul_le_mul h0 h1
  omega
set_option maxHeartbeats 1000000 in
theorem MulDiv_of (a b c : Int) (w : World) (a0 : -9223372036854775808 ≤ a) (a1 : a ≤ 9223372036854775807) (b0 : -9223372036854775808 ≤ b) (b1 : b ≤ 9223372036854775807) (c0 : -9223372036854775808 ≤ c) (c1 : c ≤ 9223372036854775807)
    (HD : c ≠ 0 → a.natAbs * b.natAbs / 18446744073709551616 < c.natAbs → DivAt (a.natAbs * b.natAbs / 18446744073709551616) (a.natAbs * b.natAbs % 18446744073709551616) c.natAbs) :
    Calls Tryz.prog 67 #[.int .i64 a, .int .i64 b, .int .i64 c] w fun e w' => e = .returned (.tuple #[.int .i64 (mulDivOf a b c).1, .int .i64 (mulDivOf a b c).2]) ∧ Below w.heap.size w w' := by
  have HDef : mulDivOf a b c = if c = 0 then (0, 5) else overOf (a.natAbs * b.natAbs) c.natAbs (decide (a < 0) ^^ decide (b < 0) ^^ decide (c < 0)) := rfl
  rw [HDef]
  clear HDef
  by_cases hc : c = 0
  · subst hc
    rw [if_pos rfl]
    clear HD
    go_enter Tryz.func67, Tryz.ntmps67
    go_wp2
    go_ret2
    exact ⟨rfl, Below.refl _ _⟩
  · rw [if_neg hc]
    have SA := Lib.hid (fun w => size_any a w a0 a1)
    have SB := Lib.hid (fun w => size_any b w b0 b1)
    have SC := Lib.hid (fun w => size_any c w c0 c1)
    have hA := natAbs_le a a0 a1
    have hB := natAbs_le b b0 b1
    have hC := natAbs_le c c0 c1
    have hP := prod_lt _ _ hA hB
    have hM : a.natAbs * b.natAbs % 18446744073709551616 < 18446744073709551616 := Nat.mod_lt _ (by omega)
    have MU := Lib.hid (fun w => mul_any a.natAbs b.natAbs w (by omega) (by omega))
    have hC0 : 0 < c.natAbs := by omega
    have OV := Lib.hid (fun m w => over_of (a.natAbs * b.natAbs / 18446744073709551616) (a.natAbs * b.natAbs % 18446744073709551616) c.natAbs m w hP hM (by omega) hC0 (HD hc))
    rw [wd_split] at OV
    have X1 := xorS a b a0 a1 b0 b1
    have X2 := xorS (bits .xor .i64 a b) c X1.2.1 X1.2.2 c0 c1
    have HX : Hid (decide (bits .xor .i64 (bits .xor .i64 a b) c < 0) = (decide (a < 0) ^^ decide (b < 0) ^^ decide (c < 0))) := Lib.hid (by rw [X2.1, X1.1])
    clear X1 X2 HD
    rw [← HX.out]
    clear HX
    generalize overOf (a.natAbs * b.natAbs) c.natAbs = ov at *
    generalize a.natAbs * b.natAbs = N at *
    generalize N / 18446744073709551616 = hi at *
    generalize N % 18446744073709551616 = lo at *
    generalize a.natAbs = A' at *
    generalize b.natAbs = B' at *
    generalize c.natAbs = C' at *
    go_enter Tryz.func67, Tryz.ntmps67
    go_wp2_with fail
    refine (SA.out w).mono ?_
    rintro e w' ⟨rfl, rfl⟩
    go_wp2_with fail
    refine (SB.out _).mono ?_
    rintro e w' ⟨rfl, rfl⟩
    go_wp2_with fail
    refine (MU.out _).mono ?_
    rintro e w' ⟨rfl, rfl⟩
    go_wp2_with fail
    refine (SC.out _).mono ?_
    rintro e w' ⟨rfl, rfl⟩
    go_wp2_with fail
    refine (OV.out _ _).mono ?_
    rintro e w2 ⟨rfl, hb⟩
    go_wp2
    go_ret2
    exact ⟨rfl, hb⟩
end Go.Proofs.YtcbopgopegphlaaGreat

namespace Go.Proofs.YtcbopgopegphlaaGreat
open Go.RowKit Go.Shelf
set_option linter.unusedVariables false

theorem add64_0 (x y : Nat) (w : World) : (callFunc 114 #[.int .u64 x, .int .u64 y, .int .u64 0]).run Tryz.prog w =
    .ok (.value (.tuple #[.int .u64 ((x + y) % 18446744073709551616 : Nat), .int .u64 ((x + y) / 18446744073709551616 : Nat)])) w := by
  rw [run_callFunc_extern Tryz.func114 (by kernel_rfl) (by kernel_rfl) (by kernel_rfl) (e := add64Entry) (by kernel_rfl), run_add64 x y 0 (by omega) (by omega) (by omega) (by omega)]
  simp only [Result.andThen]
  congr 5 <;> omega
theorem results_cell2 {P : Program} {fn : Func} {p u : Tmp} {ty : TypeId} (h : fn.results = #[.cell p ty, .tmp u]) (tmps : Array Value) (w : World) (g : Nat) (t : TypeId) (cs : Array Value) (fr : Nat × Nat) (d : TypeDesc)
    (hp : tmps.getD p undef = .pointer (some ⟨g, 0, none⟩)) (hg : w.heap[g]? = some (.cells cs t fr))
    (hu : P.underlying ty = some d) (hd : (match d with | .struct _ | .array _ _ => true | _ => false) = true) (hi : (P.info? ty).map (·.size) = some cs.size) :
    (results fn tmps).run P w = .ok (.tuple #[.agg cs, tmps.getD u undef]) w := by
  have hp' : tmps[p]?.getD undef = .pointer (some ⟨g, 0, none⟩) := by simpa using hp
  simp [results, h, hp', asAddr, run_loadVar_row w g t ty cs fr d hg hu hd hi]
/-- A number as two words. -/
def wide (n : Nat) : Value := .agg #[.int .u64 (n / 18446744073709551616 : Nat), .int .u64 (n % 18446744073709551616 : Nat)]
theorem times_law (hi lo v : Nat) (h : wd hi lo * v < 340282366920938463463374607431768211456) : hi * v < 18446744073709551616 ∧ lo * v / 18446744073709551616 + hi * v < 18446744073709551616 ∧
    wd hi lo * v / 18446744073709551616 = lo * v / 18446744073709551616 + hi * v ∧ wd hi lo * v % 18446744073709551616 = lo * v % 18446744073709551616 := by
  have e : wd hi lo * v = hi * v * 18446744073709551616 + lo * v := by
    unfold wd
    rw [Nat.add_mul, Nat.mul_right_comm]
  rw [e] at h ⊢
  generalize hi * v = a at *
  generalize lo * v = b at *
  omega
set_option maxHeartbeats 1000000 in
theorem times_ok (hi lo v : Nat) (w : World) (h0 : hi < 18446744073709551616) (h1 : lo < 18446744073709551616) (h2 : v < 18446744073709551616) (h : wd hi lo * v < 340282366920938463463374607431768211456) :
    Calls Tryz.prog 95 #[.agg #[.int .u64 hi, .int .u64 lo], .int .u64 v] w fun e w' => e = .returned (.tuple #[wide (wd hi lo * v), .bool true]) ∧ Below w.heap.size w w' := by
  obtain ⟨k1, k2, k3, k4⟩ := times_law hi lo v h
  unfold wide
  rw [k3, k4]
  have M1 := Lib.hid (fun w => mul_any lo v w h1 h2)
  have M2 := Lib.hid (fun w => mul_any hi v w h0 h2)
  have e1 : hi * v / 18446744073709551616 = 0 := by omega
  have e2 : hi * v % 18446744073709551616 = hi * v := by omega
  rw [e1, e2] at M2
  have A := fun w => add64_0 (lo * v / 18446744073709551616) (hi * v) w
  rw [show (lo * v / 18446744073709551616 + hi * v) / 18446744073709551616 = 0 by omega, show (lo * v / 18446744073709551616 + hi * v) % 18446744073709551616 = lo * v / 18446744073709551616 + hi * v by omega] at A
  generalize lo * v / 18446744073709551616 + hi * v = top at *
  generalize lo * v / 18446744073709551616 = t1 at *
  generalize lo * v % 18446744073709551616 = l1 at *
  generalize hi * v = t2 at *
  clear h e1 e2 k1 k3 k4
  go_enter Tryz.func95, Tryz.ntmps95
  go_wp2_with fail
  refine (M1.out _).mono ?_
  rintro e w' ⟨rfl, rfl⟩
  go_wp2_with fail
  refine (M2.out _).mono ?_
  rintro e w' ⟨rfl, rfl⟩
  go_wp2
  refine bodyPost_ret (results_cell2 (fn := Tryz.f95) rfl _ _ (w.heap.size + 1) 149 _ (0, 0) _ rfl (by rw [← World.size_alloc w]; exact heap_alloc_new _ _) Tryz.underlying149 rfl (by kernel_rfl)) rfl ⟨rfl, ((Below.refl _ _).alloc (Nat.le_refl _) _).alloc (by simp) _⟩
/-- What Interest answers. -/
def interestOf (p rate num den : Int) : Int × Int :=
  if p < -1000000000000000 ∨ 1000000000000000 < p ∨ rate < 0 ∨ 1000000000 < rate ∨ num < 0 ∨ 10000000 < num ∨ den < 1 ∨ 366 < den then (0, 2)
  else overOf (p.natAbs * rate.natAbs * num.natAbs) (1000000000 * den.natAbs) (decide (p < 0))
set_option maxHeartbeats 400000 in
theorem outside_any (v lo hi : Int) (w : World) :
    Calls Tryz.prog 93 #[.int .i64 v, .int .i64 lo, .int .i64 hi] w fun e w' => e = .returned (.bool (decide (v < lo) || decide (hi < v))) ∧ w' = w := by
  by_cases h : v < lo
  · rw [decide_eq_true h, Bool.true_or]
    go_enter Tryz.func93, Tryz.ntmps93
    go_wp2
    go_ret
    exact ⟨rfl, rfl⟩
  · rw [decide_eq_false h, Bool.false_or]
    go_enter Tryz.func93, Tryz.ntmps93
    go_wp2
    go_ret
    exact ⟨rfl, rfl⟩
set_option maxHeartbeats 2000000 in
theorem Interest_of (p rate num den : Int) (w : World) (p0 : -1000000000000000 ≤ p) (p1 : p ≤ 1000000000000000) (r0 : 0 ≤ rate) (r1 : rate ≤ 1000000000) (n0 : 0 ≤ num) (n1 : num ≤ 10000000) (d0 : 1 ≤ den) (d1 : den ≤ 366)
    (HD : p.natAbs * rate.natAbs * num.natAbs / 18446744073709551616 < 1000000000 * den.natAbs → DivAt (p.natAbs * rate.natAbs * num.natAbs / 18446744073709551616) (p.natAbs * rate.natAbs * num.natAbs % 18446744073709551616) (1000000000 * den.natAbs)) :
    Calls Tryz.prog 61 #[.int .i64 p, .int .i64 rate, .int .i64 num, .int .i64 den] w fun e w' => e = .returned (.tuple #[.int .i64 (interestOf p rate num den).1, .int .i64 (interestOf p rate num den).2]) ∧ Below w.heap.size w w' := by
  obtain ⟨r, rfl⟩ := Int.eq_ofNat_of_zero_le r0
  obtain ⟨n, rfl⟩ := Int.eq_ofNat_of_zero_le n0
  obtain ⟨d, rfl⟩ := Int.eq_ofNat_of_zero_le (show 0 ≤ den by omega)
  have HDef : interestOf p r n d = overOf (p.natAbs * r * n) (1000000000 * d) (decide (p < 0)) := by
    unfold interestOf
    rw [if_neg (by omega)]
    rfl
  rw [HDef]
  clear HDef
  have e1 : (r : Int).natAbs = r := rfl
  have e2 : (n : Int).natAbs = n := rfl
  have e3 : (d : Int).natAbs = d := rfl
  rw [e1, e2, e3] at HD
  have SP := Lib.hid (fun w => size_any p w (by omega) (by omega))
  have hP : p.natAbs ≤ 1000000000000000 := by omega
  generalize p.natAbs = P at *
  have hPr : P * r ≤ 1000000000000000 * 1000000000 := Nat.mul_le_mul hP (by omega)
  have hPrn : P * r * n ≤ 1000000000000000 * 1000000000 * 10000000 := Nat.mul_le_mul hPr (by omega)
  have z0 : wd 0 P = P := wd_zero P
  have T1 := Lib.hid (fun w => times_ok 0 P r w (by omega) (by omega) (by omega) (by rw [z0]; omega))
  rw [z0] at T1
  have T2 := Lib.hid (fun w => times_ok (P * r / 18446744073709551616) (P * r % 18446744073709551616) n w (by omega) (Nat.mod_lt _ (by omega)) (by omega) (by rw [wd_split]; omega))
  rw [wd_split] at T2
  have OV := Lib.hid (fun m w => over_of (P * r * n / 18446744073709551616) (P * r * n % 18446744073709551616) (1000000000 * d) m w (by omega) (Nat.mod_lt _ (by omega)) (by omega) (by omega) HD)
  rw [wd_split] at OV
  unfold wide at T1 T2
  have OU := Lib.hid outside_any
  clear HD z0
  generalize overOf (P * r * n) (1000000000 * d) = ov at *
  have hd : (1000000000 : Int) * (d : Int) = ((1000000000 * d : Nat) : Int) := by omega
  have hdl : 1000000000 * d < 18446744073709551616 := by omega
  generalize 1000000000 * d = dd at *
  generalize P * r * n / 18446744073709551616 = a2 at *
  generalize P * r * n % 18446744073709551616 = b2 at *
  generalize P * r / 18446744073709551616 = a1 at *
  generalize P * r % 18446744073709551616 = b1 at *
  clear hPr hPrn
  go_enter Tryz.func61, Tryz.ntmps61
  go_wp2_with fail
  refine (OU.out p (-1000000000000000) 1000000000000000 w).mono ?_
  rintro e w' ⟨rfl, rfl⟩
  rw [show (decide (p < -1000000000000000) || decide (1000000000000000 < p)) = false by simp; omega]
  go_wp2_with fail
  refine (OU.out r 0 1000000000 w').mono ?_
  rintro e w' ⟨rfl, rfl⟩
  rw [show (decide ((r : Int) < 0) || decide (1000000000 < (r : Int))) = false by simp; omega]
  go_wp2_with fail
  refine (OU.out n 0 10000000 _).mono ?_
  rintro e w' ⟨rfl, rfl⟩
  rw [show (decide ((n : Int) < 0) || decide (10000000 < (n : Int))) = false by simp; omega]
  go_wp2_with fail
  refine (OU.out d 1 366 _).mono ?_
  rintro e w' ⟨rfl, rfl⟩
  rw [show (decide ((d : Int) < 1) || decide (366 < (d : Int))) = false by simp; omega]
  go_wp2_with fail
  refine (SP.out _).mono ?_
  rintro e w' ⟨rfl, rfl⟩
  go_wp2_with fail
  refine (T1.out _).mono ?_
  rintro e w1 ⟨rfl, hb1⟩
  go_wp2_with fail
  refine (T2.out _).mono ?_
  rintro e w2 ⟨rfl, hb2⟩
  have hg : w2.heap[w1.heap.size]? = some (.cells #[.int .u64 (a1 : Int), .int .u64 (b1 : Int)] 149 (0, 0)) := (hb2.block _ (by simp)).trans (heap_alloc_new w1 _)
  have c0 : w2.cell? ⟨w1.heap.size, 0, none⟩ = some (.int .u64 (a1 : Int)) := by rw [cell_of_row _ _ _ _ _ _ hg]; rfl
  have c1 : w2.cell? ⟨w1.heap.size, 1, none⟩ = some (.int .u64 (b1 : Int)) := by rw [cell_of_row _ _ _ _ _ _ hg]; rfl
  have f0 := frozen_of_row _ _ 0 _ _ hg
  have f1 := frozen_of_row _ _ 1 _ _ hg
  have hb02 : Below w'.heap.size w' w2 := (hb1.alloc hb1.size _).trans (hb2.mono (by have := hb1.size; simp; omega))
  have hb03 : Below w'.heap.size w' ((w2.setCell ⟨w1.heap.size, 0, none⟩ (.int .u64 (a2 : Int))).setCell ⟨w1.heap.size, 1, none⟩ (.int .u64 (b2 : Int))) := (hb02.setCell hb1.size _).setCell hb1.size _
  clear hg
  go_wp2_with fail
  refine (OV.out _ _).mono ?_
  rintro e w3 ⟨rfl, hb3⟩
  go_wp2
  go_ret2
  exact ⟨rfl, hb03.trans (hb3.mono hb03.size)⟩
end Go.Proofs.YtcbopgopegphlaaGreat

namespace Go.Proofs.YtcbopgopegphlaaGreat
open Go.RowKit Go.Shelf
set_option linter.unusedVariables false

/-- A sum, or that it is too great. -/
def fitOf (s : Int) : Int × Int := if -9223372036854775808 ≤ s ∧ s ≤ 9223372036854775807 then (s, 0) else (0, 4)
theorem fit_in (s : Int) (h0 : -9223372036854775808 ≤ s) (h1 : s ≤ 9223372036854775807) : fitOf s = (s, 0) := if_pos ⟨h0, h1⟩
theorem fit_out (s : Int) (h : s < -9223372036854775808 ∨ 9223372036854775807 < s) : fitOf s = (0, 4) := if_neg (by omega)
theorem dec_lt {x : Int} {b : Bool} (h : decide (x < 0) = b) : (x < 0 ↔ b = true) := by rw [← h, decide_eq_true_iff]
theorem addBits (a b s : Int) (a0 : -9223372036854775808 ≤ a) (a1 : a ≤ 9223372036854775807) (b0 : -9223372036854775808 ≤ b) (b1 : b ≤ 9223372036854775807) (s0 : -9223372036854775808 ≤ s) (s1 : s ≤ 9223372036854775807) :
    bits .and .i64 (bits .xor .i64 a s) (bits .xor .i64 b s) < 0 ↔ ((a < 0 ∧ 0 ≤ s) ∨ (0 ≤ a ∧ s < 0)) ∧ ((b < 0 ∧ 0 ≤ s) ∨ (0 ≤ b ∧ s < 0)) := by
  have X1 := xorS a s a0 a1 s0 s1
  have X2 := xorS b s b0 b1 s0 s1
  have X3 := andS _ _ X1.2.1 X1.2.2 X2.2.1 X2.2.2
  rw [dec_lt (X3.1.trans (by rw [X1.1, X2.1]))]
  by_cases h1 : a < 0 <;> by_cases h2 : b < 0 <;> by_cases h3 : s < 0 <;> simp [h1, h2, h3] <;> omega
theorem subBits (a b s : Int) (a0 : -9223372036854775808 ≤ a) (a1 : a ≤ 9223372036854775807) (b0 : -9223372036854775808 ≤ b) (b1 : b ≤ 9223372036854775807) (s0 : -9223372036854775808 ≤ s) (s1 : s ≤ 9223372036854775807) :
    bits .and .i64 (bits .xor .i64 a b) (bits .xor .i64 a s) < 0 ↔ ((a < 0 ∧ 0 ≤ b) ∨ (0 ≤ a ∧ b < 0)) ∧ ((a < 0 ∧ 0 ≤ s) ∨ (0 ≤ a ∧ s < 0)) := by
  have X1 := xorS a b a0 a1 b0 b1
  have X2 := xorS a s a0 a1 s0 s1
  have X3 := andS _ _ X1.2.1 X1.2.2 X2.2.1 X2.2.2
  rw [dec_lt (X3.1.trans (by rw [X1.1, X2.1]))]
  by_cases h1 : a < 0 <;> by_cases h2 : b < 0 <;> by_cases h3 : s < 0 <;> simp [h1, h2, h3] <;> omega
set_option maxHeartbeats 1000000 in
theorem refAdd_any (a b : Int) (w : World) (a0 : -9223372036854775808 ≤ a) (a1 : a ≤ 9223372036854775807) (b0 : -9223372036854775808 ≤ b) (b1 : b ≤ 9223372036854775807) :
    Calls Tryz.prog 55 #[.int .i64 a, .int .i64 b] w fun e w' => e = .returned (.tuple #[.int .i64 (fitOf (a + b)).1, .int .i64 (fitOf (a + b)).2]) ∧ w' = w := by
  by_cases h : -9223372036854775808 ≤ a + b ∧ a + b ≤ 9223372036854775807
  · rw [fit_in _ h.1 h.2]
    obtain ⟨h0, h1⟩ := h
    rcases (show b < 0 ∨ b = 0 ∨ 0 < b by omega) with hb | rfl | hb
    all_goals
      go_enter Tryz.func55, Tryz.ntmps55
      go_wp2
      go_ret2
      exact ⟨by simp, rfl⟩
  · rw [fit_out _ (by omega)]
    rcases (show b < 0 ∨ 0 < b by omega) with hb | hb
    all_goals
      go_enter Tryz.func55, Tryz.ntmps55
      go_wp2
      go_ret2
      exact ⟨rfl, rfl⟩
end Go.Proofs.YtcbopgopegphlaaGreat
