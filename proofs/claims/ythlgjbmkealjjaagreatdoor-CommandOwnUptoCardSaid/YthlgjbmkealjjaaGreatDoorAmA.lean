/-
  Joined texts: AmP AmW AmW2 AmP2 AmW3 AmW4. No statement is proved here.
-/
import Derived.Test.YthlgjbmkealjjaaGreatDoorCmS
import Derived.BigQuiet
import Derived.Deep.Cut
import Derived.Deep.DeepCutAuto
import Derived.Laws.Externs
import Derived.Shelf.Spec.BitsCarry
namespace Go.Proofs.YthlgjbmkealjjaaGreatDoor
open Go.RowKit
set_option linter.unusedVariables false

theorem and32 (a : Nat) (h : a < 18446744073709551616) : bits .and .u64 (a : Int) 4294967295 = ((a % 4294967296 : Nat) : Int) := by
  have e := u64_and_nat a 4294967295 h (by omega)
  rw [show a &&& 4294967295 = a % 4294967296 from Nat.and_two_pow_sub_one_eq_mod a 32] at e
  exact e
theorem and1 (a : Nat) (h : a < 18446744073709551616) : bits .and .u64 (a : Int) 1 = ((a % 2 : Nat) : Int) := by
  have e := u64_and_nat a 1 h (by omega)
  rw [Nat.and_one_is_mod] at e
  exact e
theorem or32 (h l : Nat) (hh : h < 4294967296) (hl : l < 4294967296) : bits .or .u64 ((h * 4294967296 : Nat) : Int) (l : Int) = ((h * 4294967296 + l : Nat) : Int) := by
  have e := u64_or_nat (h * 4294967296) l (by omega) (by omega)
  rw [show h * 4294967296 = h <<< 32 from (Nat.shiftLeft_eq h 32).symm, ← Nat.shiftLeft_add_eq_or_of_lt (i := 32) hl] at e
  rw [show h * 4294967296 = h <<< 32 from (Nat.shiftLeft_eq h 32).symm]
  exact e
theorem xor0 (a : Nat) (h : a < 18446744073709551616) : bits .xor .u64 (a : Int) 0 = (a : Int) := by
  have e := u64_xor_nat a 0 h (by omega)
  rw [Nat.xor_zero] at e
  exact e
theorem xorAll (a : Nat) (h : a < 18446744073709551616) : bits .xor .u64 (a : Int) 18446744073709551615 = ((18446744073709551615 - a : Nat) : Int) := by
  have e := u64_xor_nat a 18446744073709551615 h (by omega)
  have e2 : a ^^^ 18446744073709551615 = 18446744073709551615 - a := by
    have := BitVec.toNat_not (x := BitVec.ofNat 64 a)
    rw [← BitVec.xor_allOnes, BitVec.toNat_xor] at this
    simp only [BitVec.toNat_ofNat, BitVec.toNat_allOnes] at this
    rw [Nat.mod_eq_of_lt h] at this
    simpa using this
  rw [e2] at e
  exact e
/-- A product of numbers by halves. -/
theorem halves (a b : Nat) (h0 : a < 18446744073709551616) (h1 : b < 18446744073709551616) : ∃ a1 a0 b1 b0 p00 p10 p01 p11 : Nat,
    a / 4294967296 = a1 ∧ a % 4294967296 = a0 ∧ b / 4294967296 = b1 ∧ b % 4294967296 = b0 ∧ a0 * b0 = p00 ∧ a1 * b0 = p10 ∧ a0 * b1 = p01 ∧ a1 * b1 = p11 ∧
    p00 ≤ 18446744065119617025 ∧ p10 ≤ 18446744065119617025 ∧ p01 ≤ 18446744065119617025 ∧ p11 ≤ 18446744065119617025 ∧
    a * b = p11 * 18446744073709551616 + (p10 + p01) * 4294967296 + p00 := by
  have ea : a = a / 4294967296 * 4294967296 + a % 4294967296 := by omega
  have eb : b = b / 4294967296 * 4294967296 + b % 4294967296 := by omega
  have l1 : a / 4294967296 ≤ 4294967295 := by omega
  have l2 : a % 4294967296 ≤ 4294967295 := by omega
  have l3 : b / 4294967296 ≤ 4294967295 := by omega
  have l4 : b % 4294967296 ≤ 4294967295 := by omega
  generalize a / 4294967296 = a1 at *
  generalize a % 4294967296 = a0 at *
  generalize b / 4294967296 = b1 at *
  generalize b % 4294967296 = b0 at *
  refine ⟨a1, a0, b1, b0, _, _, _, _, rfl, rfl, rfl, rfl, rfl, rfl, rfl, rfl, Nat.mul_le_mul l2 l4, Nat.mul_le_mul l1 l4, Nat.mul_le_mul l2 l3, Nat.mul_le_mul l1 l3, ?_⟩
  rw [ea, eb, Nat.add_mul, Nat.mul_add, Nat.mul_add]
  have e1 : a1 * 4294967296 * (b1 * 4294967296) = a1 * b1 * 18446744073709551616 := by
    rw [Nat.mul_assoc, Nat.mul_left_comm 4294967296, ← Nat.mul_assoc, show 4294967296 * 4294967296 = 18446744073709551616 from rfl]
  have e2 : a1 * 4294967296 * b0 = a1 * b0 * 4294967296 := Nat.mul_right_comm _ _ _
  have e3 : a0 * (b1 * 4294967296) = a0 * b1 * 4294967296 := (Nat.mul_assoc _ _ _).symm
  rw [e1, e2, e3, Nat.add_mul]
  omega
/-- The nearest quotient, halves to the even one. -/
def evenDiv (n d : Nat) : Nat := if d < 2 * (n % d) ∨ (2 * (n % d) = d ∧ n / d % 2 = 1) then n / d + 1 else n / d
/-- A size with its sign; the error's number. -/
def sgn (q : Nat) (m : Bool) : Int × Int :=
  if m then (if q ≤ 9223372036854775808 then (-(q : Int), 0) else (0, 4)) else (if q < 9223372036854775808 then ((q : Int), 0) else (0, 4))
theorem sgn_big (q : Nat) (m : Bool) (h : 9223372036854775808 < q) : sgn q m = (0, 4) := by
  unfold sgn
  cases m
  · rw [if_neg (by simp), if_neg (by omega)]
  · rw [if_pos rfl, if_neg (by omega)]
end Go.Proofs.YthlgjbmkealjjaaGreatDoor

namespace Go.Proofs.YthlgjbmkealjjaaGreatDoor
open Go.RowKit
set_option linter.unusedVariables false

set_option maxHeartbeats 400000 in
theorem size_any (v : Int) (w : World) (h0 : -9223372036854775808 ≤ v) (h1 : v ≤ 9223372036854775807) :
    Calls Tryz.prog 95 #[.int .i64 v] w fun e w' => e = .returned (.int .u64 (v.natAbs : Nat)) ∧ w' = w := by
  rcases Int.lt_or_le v 0 with hv | hv
  · have e1 : v / 9223372036854775808 = -1 := by omega
    have e2 : IntKind.u64.wrap (-1) = 18446744073709551615 := by decide
    obtain ⟨n, rfl⟩ : ∃ n : Nat, v = -(n : Int) := ⟨v.natAbs, by omega⟩
    have e3 : IntKind.u64.wrap (-(n : Int)) = ((18446744073709551616 - n : Nat) : Int) := by simp [IntKind.wrap, IntKind.bits, IntKind.signed]; omega
    have e4 := xorAll (18446744073709551616 - n) (by omega)
    have e5 : (18446744073709551615 - (18446744073709551616 - n) : Nat) = n - 1 := by omega
    rw [e5] at e4
    have H : Hid (IntKind.u64.wrap (bits .xor .u64 (IntKind.u64.wrap (-(n : Int))) (IntKind.u64.wrap (-(n : Int) / 9223372036854775808)) - IntKind.u64.wrap (-(n : Int) / 9223372036854775808)) = (((-(n : Int)).natAbs : Nat) : Int)) := Lib.hid (by
      rw [e1, e2, e3, e4]
      simp [IntKind.wrap, IntKind.bits, IntKind.signed]
      omega)
    clear e1 e2 e3 e4 e5
    go_enter Tryz.func95, Tryz.ntmps95
    go_wp2
    rw [H.out]
    go_ret
    exact ⟨rfl, rfl⟩
  · obtain ⟨n, rfl⟩ := Int.eq_ofNat_of_zero_le hv
    have e1 : (n : Int) / 9223372036854775808 = 0 := by omega
    have e2 := xor0 n (by omega)
    have H : Hid (IntKind.u64.wrap (bits .xor .u64 (n : Int) ((n : Int) / 9223372036854775808) - (n : Int) / 9223372036854775808) = (((n : Int).natAbs : Nat) : Int)) := Lib.hid (by
      rw [e1, e2]
      simp [IntKind.wrap, IntKind.bits, IntKind.signed]
      omega)
    clear e1 e2
    go_enter Tryz.func95, Tryz.ntmps95
    go_wp2
    rw [H.out]
    go_ret
    exact ⟨rfl, rfl⟩
set_option maxHeartbeats 400000 in
theorem signed_any (q : Nat) (m : Bool) (w : World) (h0 : q < 18446744073709551616) :
    Calls Tryz.prog 94 #[.int .u64 q, .bool m] w fun e w' => e = .returned (.tuple #[.int .i64 (sgn q m).1, .int .i64 (sgn q m).2]) ∧ w' = w := by
  unfold sgn
  cases m
  · by_cases h : q < 9223372036854775808
    · have e1 : ((q : Int) / 9223372036854775808 == 0) = true := by rw [beq_iff_eq]; omega
      rw [if_neg (by simp), if_pos h]
      go_enter Tryz.func94, Tryz.ntmps94
      go_wp2
      go_ret2
      exact ⟨rfl, rfl⟩
    · have e1 : ((q : Int) / 9223372036854775808 == 0) = false := by rw [beq_eq_false_iff_ne]; omega
      rw [if_neg (by simp), if_neg h]
      go_enter Tryz.func94, Tryz.ntmps94
      go_wp2
      go_ret2
      exact ⟨rfl, rfl⟩
  · by_cases h : q ≤ 9223372036854775808
    · have e2 : wrap64 (IntKind.u64.wrap (-(q : Int))) = -(q : Int) := by
        have e3 : IntKind.u64.wrap (-(q : Int)) = (-(q : Int)) % 18446744073709551616 := by simp [IntKind.wrap, IntKind.bits, IntKind.signed]
        rw [e3]
        unfold wrap64
        omega
      rw [if_pos rfl, if_pos h]
      go_enter Tryz.func94, Tryz.ntmps94
      go_wp2
      go_ret2
      exact ⟨by rw [e2]; rfl, rfl⟩
    · rw [if_pos rfl, if_neg h]
      go_enter Tryz.func94, Tryz.ntmps94
      go_wp2
      go_ret2
      exact ⟨rfl, rfl⟩
theorem wrapU (n : Nat) (h : n < 18446744073709551616) : IntKind.u64.wrap (n : Int) = (n : Int) := by
  simp [IntKind.wrap, IntKind.bits, IntKind.signed]; omega
end Go.Proofs.YthlgjbmkealjjaaGreatDoor

namespace Go.Proofs.YthlgjbmkealjjaaGreatDoor
open Go.RowKit
set_option linter.unusedVariables false

/-- Two words as one number. -/
def wd (hi lo : Nat) : Nat := hi * 18446744073709551616 + lo
theorem wd_zero (lo : Nat) : wd 0 lo = lo := by unfold wd; omega
theorem wd_ge (hi lo d : Nat) (hd : 0 < d) (h : d ≤ hi) : 18446744073709551616 ≤ wd hi lo / d := by
  unfold wd
  rw [Nat.le_div_iff_mul_le hd, Nat.mul_comm]
  exact Nat.le_trans (Nat.mul_le_mul_right _ h) (Nat.le_add_right _ _)
theorem wd_lt (hi lo d : Nat) (hd : 0 < d) (h1 : lo < 18446744073709551616) (h : hi < d) : wd hi lo / d < 18446744073709551616 := by
  unfold wd
  rw [Nat.div_lt_iff_lt_mul hd, Nat.mul_comm]
  have h3 : (hi + 1) * 18446744073709551616 ≤ d * 18446744073709551616 := Nat.mul_le_mul_right _ (by omega)
  omega
theorem evenDiv_eq (n d : Nat) : evenDiv n d = if d < 2 * (n % d) ∨ (2 * (n % d) = d ∧ n / d % 2 = 1) then n / d + 1 else n / d := rfl
theorem evenDiv_ge (n d : Nat) : n / d ≤ evenDiv n d := by rw [evenDiv_eq]; split <;> omega
/-- What over answers: the nearest quotient with its sign. -/
def overOf (n d : Nat) (m : Bool) : Int × Int := sgn (evenDiv n d) m
end Go.Proofs.YthlgjbmkealjjaaGreatDoor

namespace Go.Proofs.YthlgjbmkealjjaaGreatDoor
open Go.RowKit
set_option linter.unusedVariables false

theorem wrap_toNat (x : BitVec 64) : IntKind.i64.wrap (x.toNat : Int) = x.toInt := by
  have h := x.isLt
  rw [BitVec.toInt_eq_toNat_cond]
  simp only [IntKind.wrap, IntKind.bits, IntKind.signed]
  simp
  split <;> split <;> omega
theorem toInt_of (a : Int) (h0 : -9223372036854775808 ≤ a) (h1 : a ≤ 9223372036854775807) : (BitVec.ofInt 64 a).toInt = a := by
  rw [BitVec.toInt_ofInt]
  rw [Int.bmod_def]
  simp
  split <;> omega
theorem msb_of (a : Int) (h0 : -9223372036854775808 ≤ a) (h1 : a ≤ 9223372036854775807) : (BitVec.ofInt 64 a).msb = decide (a < 0) := by
  rw [BitVec.msb_eq_toInt, toInt_of a h0 h1]
theorem xorS (a b : Int) (h0 : -9223372036854775808 ≤ a) (h1 : a ≤ 9223372036854775807) (h2 : -9223372036854775808 ≤ b) (h3 : b ≤ 9223372036854775807) :
    (decide (bits .xor .i64 a b < 0) = (decide (a < 0) ^^ decide (b < 0))) ∧ -9223372036854775808 ≤ bits .xor .i64 a b ∧ bits .xor .i64 a b ≤ 9223372036854775807 := by
  have e : bits .xor .i64 a b = (BitVec.ofInt 64 a ^^^ BitVec.ofInt 64 b).toInt := wrap_toNat _
  have l1 := BitVec.le_toInt (BitVec.ofInt 64 a ^^^ BitVec.ofInt 64 b)
  have l2 := BitVec.toInt_lt (x := BitVec.ofInt 64 a ^^^ BitVec.ofInt 64 b)
  rw [e]
  refine ⟨?_, by omega, by omega⟩
  rw [← BitVec.msb_eq_toInt, BitVec.msb_xor, msb_of a h0 h1, msb_of b h2 h3]
theorem andS (a b : Int) (h0 : -9223372036854775808 ≤ a) (h1 : a ≤ 9223372036854775807) (h2 : -9223372036854775808 ≤ b) (h3 : b ≤ 9223372036854775807) :
    (decide (bits .and .i64 a b < 0) = (decide (a < 0) && decide (b < 0))) ∧ -9223372036854775808 ≤ bits .and .i64 a b ∧ bits .and .i64 a b ≤ 9223372036854775807 := by
  have e : bits .and .i64 a b = (BitVec.ofInt 64 a &&& BitVec.ofInt 64 b).toInt := wrap_toNat _
  have l1 := BitVec.le_toInt (BitVec.ofInt 64 a &&& BitVec.ofInt 64 b)
  have l2 := BitVec.toInt_lt (x := BitVec.ofInt 64 a &&& BitVec.ofInt 64 b)
  rw [e]
  refine ⟨?_, by omega, by omega⟩
  rw [← BitVec.msb_eq_toInt, BitVec.msb_and, msb_of a h0 h1, msb_of b h2 h3]
end Go.Proofs.YthlgjbmkealjjaaGreatDoor

namespace Go.Proofs.YthlgjbmkealjjaaGreatDoor
open Go.RowKit
set_option linter.unusedVariables false

theorem wd_split (n : Nat) : wd (n / 18446744073709551616) (n % 18446744073709551616) = n := by unfold wd; omega
/-- What MulDiv answers. -/
def mulDivOf (a b c : Int) : Int × Int := if c = 0 then (0, 5) else overOf (a.natAbs * b.natAbs) c.natAbs (decide (a < 0) ^^ decide (b < 0) ^^ decide (c < 0))
theorem natAbs_le (a : Int) (h0 : -9223372036854775808 ≤ a) (h1 : a ≤ 9223372036854775807) : a.natAbs ≤ 9223372036854775808 := by omega
theorem prod_lt (a b : Nat) (h0 : a ≤ 9223372036854775808) (h1 : b ≤ 9223372036854775808) : a * b / 18446744073709551616 < 18446744073709551616 := by
  have := Nat.mul_le_mul h0 h1
  omega
end Go.Proofs.YthlgjbmkealjjaaGreatDoor

namespace Go.Proofs.YthlgjbmkealjjaaGreatDoor
open Go.RowKit Go.Shelf
set_option linter.unusedVariables false

theorem results_cell2 {P : Program} {fn : Func} {p u : Tmp} {ty : TypeId} (h : fn.results = #[.cell p ty, .tmp u]) (tmps : Array Value) (w : World) (g : Nat) (t : TypeId) (cs : Array Value) (fr : Nat × Nat) (d : TypeDesc)
    (hp : tmps.getD p undef = .pointer (some ⟨g, 0, none⟩)) (hg : w.heap[g]? = some (.cells cs t fr))
    (hu : P.underlying ty = some d) (hd : (match d with | .struct _ | .array _ _ => true | _ => false) = true) (hi : (P.info? ty).map (·.size) = some cs.size) :
    (results fn tmps).run P w = .ok (.tuple #[.agg cs, tmps.getD u undef]) w := by
  have hp' : tmps[p]?.getD undef = .pointer (some ⟨g, 0, none⟩) := by simpa using hp
  simp [results, h, hp', asAddr, run_loadVar_row w g t ty cs fr d hg hu hd hi]
/-- A number as two words. -/
def wide (n : Nat) : Value := .agg #[.int .u64 (n / 18446744073709551616 : Nat), .int .u64 (n % 18446744073709551616 : Nat)]
theorem times_law (hi lo v : Nat) (h : wd hi lo * v < 340282366920938463463374607431768211456) : hi * v < 18446744073709551616 ∧ lo * v / 18446744073709551616 + hi * v < 18446744073709551616 ∧
    wd hi lo * v / 18446744073709551616 = lo * v / 18446744073709551616 + hi * v ∧ wd hi lo * v % 18446744073709551616 = lo * v % 18446744073709551616 := by
  have e : wd hi lo * v = hi * v * 18446744073709551616 + lo * v := by
    unfold wd
    rw [Nat.add_mul, Nat.mul_right_comm]
  rw [e] at h ⊢
  generalize hi * v = a at *
  generalize lo * v = b at *
  omega
/-- What Interest answers. -/
def interestOf (p rate num den : Int) : Int × Int :=
  if p < -1000000000000000 ∨ 1000000000000000 < p ∨ rate < 0 ∨ 1000000000 < rate ∨ num < 0 ∨ 10000000 < num ∨ den < 1 ∨ 366 < den then (0, 2)
  else overOf (p.natAbs * rate.natAbs * num.natAbs) (1000000000 * den.natAbs) (decide (p < 0))
end Go.Proofs.YthlgjbmkealjjaaGreatDoor
