/-
  The words of a long division behind their shift. No program in sight.
-/
import Derived.Test.YtjniclalobggpaaDoorAmK
namespace Go.Proofs.YtjniclalobggpaaDoor
open Go.RowKit
set_option linter.unusedVariables false

theorem bitLenAux_law (f x : Nat) (h0 : 0 < x) (h : x < 2 ^ f) : x < 2 ^ Lib.bitLenAux f x ∧ 2 ^ (Lib.bitLenAux f x - 1) ≤ x ∧ 1 ≤ Lib.bitLenAux f x ∧ Lib.bitLenAux f x ≤ f := by
  induction f generalizing x with
  | zero => simp at h; omega
  | succ f ih =>
    rw [Lib.bitLenAux, if_neg (by omega)]
    rcases Nat.eq_zero_or_pos (x / 2) with hz | hp
    · have : x = 1 := by omega
      subst this
      have e : Lib.bitLenAux f 0 = 0 := by cases f <;> simp [Lib.bitLenAux]
      rw [show (1 : Nat) / 2 = 0 from rfl, e]
      simp
    · obtain ⟨h1, h2, h3, h4⟩ := ih (x / 2) hp (by rw [Nat.pow_succ] at h; omega)
      generalize Lib.bitLenAux f (x / 2) = k at *
      obtain ⟨m, rfl⟩ : ∃ m, k = m + 1 := ⟨k - 1, by omega⟩
      rw [show 1 + (m + 1) = (m + 1) + 1 by omega]
      simp only [Nat.add_sub_cancel] at h2 ⊢
      rw [Nat.pow_succ] at h1
      refine ⟨?_, ?_, by omega, by omega⟩
      · rw [Nat.pow_succ, Nat.pow_succ]; omega
      · rw [Nat.pow_succ]; omega
/-- What is left of the words behind the shift. -/
structure Words (hi lo y s Y un u10 : Nat) : Prop where
  s63 : s ≤ 63
  Yeq : Y = y * 2 ^ s
  Ylo : 9223372036854775808 ≤ Y
  Yhi : Y < 18446744073709551616
  unY : un < Y
  ulo : u10 < 18446744073709551616
  eq : (hi * 18446744073709551616 + lo) * 2 ^ s = un * 18446744073709551616 + u10
  wy : IntKind.u64.wrap ((y : Int) * 2 ^ s) = (Y : Int)
  wu : bits .or .u64 (IntKind.u64.wrap ((hi : Int) * 2 ^ s)) ((lo : Int) / 2 ^ (64 - s)) = (un : Int)
  wl : IntKind.u64.wrap ((lo : Int) * 2 ^ s) = (u10 : Int)
theorem wrapU' (n : Int) : IntKind.u64.wrap n = n % 18446744073709551616 := IntKind.wrap_u64 n
theorem words_any (hi lo y : Nat) (h0 : hi < y) (h1 : lo < 18446744073709551616) (h2 : y < 18446744073709551616) : ∃ (s Y un u10 : Nat), 64 - (Lib.bitLen y : Int) = (s : Int) ∧ Words hi lo y s Y un u10 := by
  obtain ⟨b1, b2, b3, b4⟩ := bitLenAux_law 64 y (by omega) (by omega)
  have e : Lib.bitLen y = Lib.bitLenAux 64 y := rfl
  rw [e]
  generalize Lib.bitLenAux 64 y = k at *
  obtain ⟨s, hk, hs⟩ : ∃ s, k = 64 - s ∧ s ≤ 63 := ⟨64 - k, by omega, by omega⟩
  subst hk
  have hT : 0 < 2 ^ s := Nat.two_pow_pos s
  have hD : 0 < 2 ^ (64 - s) := Nat.two_pow_pos _
  have hDT : 2 ^ (64 - s) * 2 ^ s = 18446744073709551616 := by rw [← Nat.pow_add, show 64 - s + s = 64 by omega]
  have hT63 : 2 ^ (64 - s - 1) * 2 ^ s = 9223372036854775808 := by rw [← Nat.pow_add, show 64 - s - 1 + s = 63 by omega]
  have hYhi : y * 2 ^ s < 18446744073709551616 := by rw [← hDT]; exact (Nat.mul_lt_mul_right hT).2 b1
  have hYlo : 9223372036854775808 ≤ y * 2 ^ s := by rw [← hT63]; exact Nat.mul_le_mul_right _ b2
  have hlo : lo / 2 ^ (64 - s) < 2 ^ s := by rw [Nat.div_lt_iff_lt_mul hD, Nat.mul_comm, hDT]; exact h1
  have hhi : hi * 2 ^ s + 2 ^ s ≤ y * 2 ^ s := by rw [← Nat.succ_mul]; exact Nat.mul_le_mul_right _ h0
  have hdiv : lo * 2 ^ s / 18446744073709551616 = lo / 2 ^ (64 - s) := by rw [← hDT, Nat.mul_div_mul_right _ _ hT]
  have cy : (y : Int) * 2 ^ s = ((y * 2 ^ s : Nat) : Int) := by simp
  have ch : (hi : Int) * 2 ^ s = ((hi * 2 ^ s : Nat) : Int) := by simp
  have cl : (lo : Int) * 2 ^ s = ((lo * 2 ^ s : Nat) : Int) := by simp
  have cd : (lo : Int) / 2 ^ (64 - s) = ((lo / 2 ^ (64 - s) : Nat) : Int) := by simp
  have hor := u64_or_nat (hi * 2 ^ s) (lo / 2 ^ (64 - s)) (by omega) (by omega)
  rw [← Nat.shiftLeft_eq, ← Nat.shiftLeft_add_eq_or_of_lt hlo, Nat.shiftLeft_eq] at hor
  refine ⟨s, y * 2 ^ s, hi * 2 ^ s + lo / 2 ^ (64 - s), lo * 2 ^ s % 18446744073709551616, by omega, hs, rfl, hYlo, hYhi, by omega, Nat.mod_lt _ (by omega), ?_, ?_, ?_, ?_⟩
  · have e1 : (hi * 18446744073709551616 + lo) * 2 ^ s = hi * 2 ^ s * 18446744073709551616 + lo * 2 ^ s := by rw [Nat.add_mul, Nat.mul_right_comm]
    rw [e1]
    generalize hi * 2 ^ s = a at *
    generalize lo * 2 ^ s = b at *
    omega
  · rw [cy, wrapU']
    omega
  · rw [ch, cd, show IntKind.u64.wrap ((hi * 2 ^ s : Nat) : Int) = ((hi * 2 ^ s : Nat) : Int) by rw [wrapU']; omega]
    exact hor
  · rw [cl, wrapU']
    omega
end Go.Proofs.YtjniclalobggpaaDoor
