/-
  Joined texts: AmK AmK2. No statement is proved here.
-/
import Derived.Test.YthlgjbmkealjjaaGreatDoorAmA
namespace Go.Proofs.YthlgjbmkealjjaaGreatDoor
set_option linter.unusedVariables false

/-- How a guess stands: not below the quotient, and not far above it. -/
structure Guess (u v y1 y0 q r : Nat) : Prop where
  eq : q * y1 + r = u
  low : (u * 4294967296 + v) / (y1 * 4294967296 + y0) ≤ q
theorem yprod (q y1 y0 : Nat) : q * (y1 * 4294967296 + y0) = q * y1 * 4294967296 + q * y0 := by
  rw [Nat.mul_add, Nat.mul_assoc]
theorem guess_start (u v y1 y0 : Nat) (h1 : 0 < y1) (hv : v < 4294967296) : Guess u v y1 y0 (u / y1) (u % y1) := by
  refine ⟨by rw [Nat.mul_comm]; exact Nat.div_add_mod u y1, ?_⟩
  apply Nat.le_of_lt_succ
  rw [Nat.div_lt_iff_lt_mul (by omega), yprod]
  have h2 : u < (u / y1).succ * y1 := by
    have := Nat.lt_div_mul_add (a := u) h1
    rw [Nat.succ_mul]
    omega
  omega
theorem guess_top (u y1 y0 : Nat) (h1 : 2147483648 ≤ y1) (h0 : y0 < 4294967296) (hu : u < y1 * 4294967296 + y0) : u / y1 ≤ 4294967297 := by
  apply Nat.le_of_lt_succ
  rw [Nat.div_lt_iff_lt_mul (by omega)]
  have : Nat.succ 4294967297 * y1 = y1 * 4294967298 := by rw [Nat.mul_comm]
  omega
theorem less_lin (a b r v : Nat) (h : r * 4294967296 + v < b) : (a + r) * 4294967296 + v < a * 4294967296 + b := by
  rw [Nat.add_mul, Nat.add_assoc]
  exact Nat.add_lt_add_left h _
theorem guess_less {u v y1 y0 q r : Nat} (g : Guess u v y1 y0 q r) (h1 : 0 < y1) (hv : v < 4294967296) (hu : u < y1 * 4294967296 + y0) (ht : 4294967296 ≤ q ∨ r * 4294967296 + v < q * y0) : 1 ≤ q ∧ Guess u v y1 y0 (q - 1) (r + y1) := by
  have hq : (u * 4294967296 + v) / (y1 * 4294967296 + y0) < q := by
    rw [Nat.div_lt_iff_lt_mul (by omega)]
    rcases ht with h | h
    · have h3 : 4294967296 * (y1 * 4294967296 + y0) ≤ q * (y1 * 4294967296 + y0) := Nat.mul_le_mul_right _ h
      exact Nat.lt_of_lt_of_le (by omega) h3
    · rw [yprod]
      have h5 := g.eq
      obtain ⟨a, ha⟩ : ∃ a, a = q * y1 := ⟨_, rfl⟩
      obtain ⟨b, hb⟩ : ∃ b, b = q * y0 := ⟨_, rfl⟩
      rw [← ha] at h5 ⊢
      rw [← hb] at h ⊢
      subst h5
      exact less_lin a b r v h
  have h1q : 1 ≤ q := Nat.lt_of_le_of_lt (Nat.zero_le _) hq
  have hlow : (u * 4294967296 + v) / (y1 * 4294967296 + y0) ≤ q - 1 := Nat.le_sub_one_of_lt hq
  refine ⟨h1q, ?_, hlow⟩
  clear hq hlow ht
  obtain ⟨k, rfl⟩ : ∃ k, q = k + 1 := ⟨q - 1, by omega⟩
  have := g.eq
  rw [Nat.add_mul, Nat.one_mul] at this
  rw [Nat.add_sub_cancel]
  omega
theorem guess_done {u v y1 y0 q r : Nat} (g : Guess u v y1 y0 q r) (h1 : 0 < y1) (h0 : y0 < 4294967296) (hq : q ≤ 4294967296) (ht : q * y0 ≤ r * 4294967296 + v ∨ 4294967296 ≤ r) : q = (u * 4294967296 + v) / (y1 * 4294967296 + y0) := by
  apply Nat.le_antisymm _ g.low
  rw [Nat.le_div_iff_mul_le (by omega), yprod]
  have h2 : q * y0 ≤ r * 4294967296 + v := by
    rcases ht with h | h
    · exact h
    · have h3 : q * y0 ≤ 4294967296 * 4294967295 := Nat.mul_le_mul hq (by omega)
      omega
  have := g.eq
  omega
/-- A quotient of the kind is below a word. -/
theorem quot_lt (u v y : Nat) (hy : 0 < y) (hu : u < y) (hv : v < 4294967296) : (u * 4294967296 + v) / y < 4294967296 := by
  rw [Nat.div_lt_iff_lt_mul hy]
  have : 4294967296 * (u + 1) ≤ 4294967296 * y := Nat.mul_le_mul_left _ hu
  omega
/-- Two digits of the quotient, behind a shift. -/
theorem two_digits (n y Y s u1 u0 un : Nat) (hy : 0 < y) (hY : Y = y * 2 ^ s) (hn : n * 2 ^ s = (un * 4294967296 + u1) * 4294967296 + u0) (h0 : u0 < 4294967296) :
    n / y = (un * 4294967296 + u1) / Y * 4294967296 + ((un * 4294967296 + u1) % Y * 4294967296 + u0) / Y ∧
    n % y = ((un * 4294967296 + u1) % Y * 4294967296 + u0) % Y / 2 ^ s := by
  have hp : 0 < 2 ^ s := Nat.two_pow_pos s
  have hYp : 0 < Y := by rw [hY]; exact Nat.mul_pos hy hp
  have e1 : n / y = n * 2 ^ s / Y := by rw [hY, Nat.mul_div_mul_right _ _ hp]
  have e2 : n * 2 ^ s % Y = n % y * 2 ^ s := by rw [hY, Nat.mul_mod_mul_right]
  have e3 : n % y = n * 2 ^ s % Y / 2 ^ s := by rw [e2, Nat.mul_div_cancel _ hp]
  rw [e1, e3, hn]
  have hd := Nat.div_add_mod (un * 4294967296 + u1) Y
  obtain ⟨a, ha⟩ : ∃ a, a = un * 4294967296 + u1 := ⟨_, rfl⟩
  rw [← ha] at hd ⊢
  have e4 : a * 4294967296 + u0 = Y * (a / Y * 4294967296) + (a % Y * 4294967296 + u0) := by
    have h5 : Y * (a / Y * 4294967296) = Y * (a / Y) * 4294967296 := (Nat.mul_assoc _ _ _).symm
    rw [h5]
    omega
  refine ⟨?_, ?_⟩
  · rw [e4, Nat.mul_add_div hYp]
  · rw [e4, Nat.mul_add_mod]
end Go.Proofs.YthlgjbmkealjjaaGreatDoor

namespace Go.Proofs.YthlgjbmkealjjaaGreatDoor
open Go.RowKit
set_option linter.unusedVariables false

theorem bitLenAux_law (f x : Nat) (h0 : 0 < x) (h : x < 2 ^ f) : x < 2 ^ Lib.bitLenAux f x ∧ 2 ^ (Lib.bitLenAux f x - 1) ≤ x ∧ 1 ≤ Lib.bitLenAux f x ∧ Lib.bitLenAux f x ≤ f := by
  induction f generalizing x with
  | zero => simp at h; omega
  | succ f ih =>
    rw [Lib.bitLenAux, if_neg (by omega)]
    rcases Nat.eq_zero_or_pos (x / 2) with hz | hp
    · have : x = 1 := by omega
      subst this
      have e : Lib.bitLenAux f 0 = 0 := by cases f <;> simp [Lib.bitLenAux]
      rw [show (1 : Nat) / 2 = 0 from rfl, e]
      simp
    · obtain ⟨h1, h2, h3, h4⟩ := ih (x / 2) hp (by rw [Nat.pow_succ] at h; omega)
      generalize Lib.bitLenAux f (x / 2) = k at *
      obtain ⟨m, rfl⟩ : ∃ m, k = m + 1 := ⟨k - 1, by omega⟩
      rw [show 1 + (m + 1) = (m + 1) + 1 by omega]
      simp only [Nat.add_sub_cancel] at h2 ⊢
      rw [Nat.pow_succ] at h1
      refine ⟨?_, ?_, by omega, by omega⟩
      · rw [Nat.pow_succ, Nat.pow_succ]; omega
      · rw [Nat.pow_succ]; omega
/-- What is left of the words behind the shift. -/
structure Words (hi lo y s Y un u10 : Nat) : Prop where
  s63 : s ≤ 63
  Yeq : Y = y * 2 ^ s
  Ylo : 9223372036854775808 ≤ Y
  Yhi : Y < 18446744073709551616
  unY : un < Y
  ulo : u10 < 18446744073709551616
  eq : (hi * 18446744073709551616 + lo) * 2 ^ s = un * 18446744073709551616 + u10
  wy : IntKind.u64.wrap ((y : Int) * 2 ^ s) = (Y : Int)
  wu : bits .or .u64 (IntKind.u64.wrap ((hi : Int) * 2 ^ s)) ((lo : Int) / 2 ^ (64 - s)) = (un : Int)
  wl : IntKind.u64.wrap ((lo : Int) * 2 ^ s) = (u10 : Int)
theorem wrapU' (n : Int) : IntKind.u64.wrap n = n % 18446744073709551616 := IntKind.wrap_u64 n
theorem words_any (hi lo y : Nat) (h0 : hi < y) (h1 : lo < 18446744073709551616) (h2 : y < 18446744073709551616) : ∃ (s Y un u10 : Nat), 64 - (Lib.bitLen y : Int) = (s : Int) ∧ Words hi lo y s Y un u10 := by
  obtain ⟨b1, b2, b3, b4⟩ := bitLenAux_law 64 y (by omega) (by omega)
  have e : Lib.bitLen y = Lib.bitLenAux 64 y := rfl
  rw [e]
  generalize Lib.bitLenAux 64 y = k at *
  obtain ⟨s, hk, hs⟩ : ∃ s, k = 64 - s ∧ s ≤ 63 := ⟨64 - k, by omega, by omega⟩
  subst hk
  have hT : 0 < 2 ^ s := Nat.two_pow_pos s
  have hD : 0 < 2 ^ (64 - s) := Nat.two_pow_pos _
  have hDT : 2 ^ (64 - s) * 2 ^ s = 18446744073709551616 := by rw [← Nat.pow_add, show 64 - s + s = 64 by omega]
  have hT63 : 2 ^ (64 - s - 1) * 2 ^ s = 9223372036854775808 := by rw [← Nat.pow_add, show 64 - s - 1 + s = 63 by omega]
  have hYhi : y * 2 ^ s < 18446744073709551616 := by rw [← hDT]; exact (Nat.mul_lt_mul_right hT).2 b1
  have hYlo : 9223372036854775808 ≤ y * 2 ^ s := by rw [← hT63]; exact Nat.mul_le_mul_right _ b2
  have hlo : lo / 2 ^ (64 - s) < 2 ^ s := by rw [Nat.div_lt_iff_lt_mul hD, Nat.mul_comm, hDT]; exact h1
  have hhi : hi * 2 ^ s + 2 ^ s ≤ y * 2 ^ s := by rw [← Nat.succ_mul]; exact Nat.mul_le_mul_right _ h0
  have hdiv : lo * 2 ^ s / 18446744073709551616 = lo / 2 ^ (64 - s) := by rw [← hDT, Nat.mul_div_mul_right _ _ hT]
  have cy : (y : Int) * 2 ^ s = ((y * 2 ^ s : Nat) : Int) := by simp
  have ch : (hi : Int) * 2 ^ s = ((hi * 2 ^ s : Nat) : Int) := by simp
  have cl : (lo : Int) * 2 ^ s = ((lo * 2 ^ s : Nat) : Int) := by simp
  have cd : (lo : Int) / 2 ^ (64 - s) = ((lo / 2 ^ (64 - s) : Nat) : Int) := by simp
  have hor := u64_or_nat (hi * 2 ^ s) (lo / 2 ^ (64 - s)) (by omega) (by omega)
  rw [← Nat.shiftLeft_eq, ← Nat.shiftLeft_add_eq_or_of_lt hlo, Nat.shiftLeft_eq] at hor
  refine ⟨s, y * 2 ^ s, hi * 2 ^ s + lo / 2 ^ (64 - s), lo * 2 ^ s % 18446744073709551616, by omega, hs, rfl, hYlo, hYhi, by omega, Nat.mod_lt _ (by omega), ?_, ?_, ?_, ?_⟩
  · have e1 : (hi * 18446744073709551616 + lo) * 2 ^ s = hi * 2 ^ s * 18446744073709551616 + lo * 2 ^ s := by rw [Nat.add_mul, Nat.mul_right_comm]
    rw [e1]
    generalize hi * 2 ^ s = a at *
    generalize lo * 2 ^ s = b at *
    omega
  · rw [cy, wrapU']
    omega
  · rw [ch, cd, show IntKind.u64.wrap ((hi * 2 ^ s : Nat) : Int) = ((hi * 2 ^ s : Nat) : Int) by rw [wrapU']; omega]
    exact hor
  · rw [cl, wrapU']
    omega
end Go.Proofs.YthlgjbmkealjjaaGreatDoor
