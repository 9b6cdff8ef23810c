/-
  The walks of amount's inner functions. No statement is proved here.
-/
import Derived.Test.YtjniclalobggpaaDoorAmP
namespace Go.Proofs.YtjniclalobggpaaDoor
open Go.RowKit
set_option linter.unusedVariables false

set_option maxHeartbeats 400000 in
theorem size_any (v : Int) (w : World) (h0 : -9223372036854775808 ≤ v) (h1 : v ≤ 9223372036854775807) :
    Calls Tryd.prog 30 #[.int .i64 v] w fun e w' => e = .returned (.int .u64 (v.natAbs : Nat)) ∧ w' = w := by
  rcases Int.lt_or_le v 0 with hv | hv
  · have e1 : v / 9223372036854775808 = -1 := by omega
    have e2 : IntKind.u64.wrap (-1) = 18446744073709551615 := by decide
    obtain ⟨n, rfl⟩ : ∃ n : Nat, v = -(n : Int) := ⟨v.natAbs, by omega⟩
    have e3 : IntKind.u64.wrap (-(n : Int)) = ((18446744073709551616 - n : Nat) : Int) := by simp [IntKind.wrap, IntKind.bits, IntKind.signed]; omega
    have e4 := xorAll (18446744073709551616 - n) (by omega)
    have e5 : (18446744073709551615 - (18446744073709551616 - n) : Nat) = n - 1 := by omega
    rw [e5] at e4
    have H : Hid (IntKind.u64.wrap (bits .xor .u64 (IntKind.u64.wrap (-(n : Int))) (IntKind.u64.wrap (-(n : Int) / 9223372036854775808)) - IntKind.u64.wrap (-(n : Int) / 9223372036854775808)) = (((-(n : Int)).natAbs : Nat) : Int)) := Lib.hid (by
      rw [e1, e2, e3, e4]
      simp [IntKind.wrap, IntKind.bits, IntKind.signed]
      omega)
    clear e1 e2 e3 e4 e5
    go_enter Tryd.func30, Tryd.ntmps30
    go_wp2
    rw [H.out]
    go_ret
    exact ⟨rfl, rfl⟩
  · obtain ⟨n, rfl⟩ := Int.eq_ofNat_of_zero_le hv
    have e1 : (n : Int) / 9223372036854775808 = 0 := by omega
    have e2 := xor0 n (by omega)
    have H : Hid (IntKind.u64.wrap (bits .xor .u64 (n : Int) ((n : Int) / 9223372036854775808) - (n : Int) / 9223372036854775808) = (((n : Int).natAbs : Nat) : Int)) := Lib.hid (by
      rw [e1, e2]
      simp [IntKind.wrap, IntKind.bits, IntKind.signed]
      omega)
    clear e1 e2
    go_enter Tryd.func30, Tryd.ntmps30
    go_wp2
    rw [H.out]
    go_ret
    exact ⟨rfl, rfl⟩
set_option maxHeartbeats 400000 in
theorem signed_any (q : Nat) (m : Bool) (w : World) (h0 : q < 18446744073709551616) :
    Calls Tryd.prog 51 #[.int .u64 q, .bool m] w fun e w' => e = .returned (.tuple #[.int .i64 (sgn q m).1, .int .i64 (sgn q m).2]) ∧ w' = w := by
  unfold sgn
  cases m
  · by_cases h : q < 9223372036854775808
    · have e1 : ((q : Int) / 9223372036854775808 == 0) = true := by rw [beq_iff_eq]; omega
      rw [if_neg (by simp), if_pos h]
      go_enter Tryd.func51, Tryd.ntmps51
      go_wp2
      go_ret2
      exact ⟨rfl, rfl⟩
    · have e1 : ((q : Int) / 9223372036854775808 == 0) = false := by rw [beq_eq_false_iff_ne]; omega
      rw [if_neg (by simp), if_neg h]
      go_enter Tryd.func51, Tryd.ntmps51
      go_wp2
      go_ret2
      exact ⟨rfl, rfl⟩
  · by_cases h : q ≤ 9223372036854775808
    · have e2 : wrap64 (IntKind.u64.wrap (-(q : Int))) = -(q : Int) := by
        have e3 : IntKind.u64.wrap (-(q : Int)) = (-(q : Int)) % 18446744073709551616 := by simp [IntKind.wrap, IntKind.bits, IntKind.signed]
        rw [e3]
        unfold wrap64
        omega
      rw [if_pos rfl, if_pos h]
      go_enter Tryd.func51, Tryd.ntmps51
      go_wp2
      go_ret2
      exact ⟨by rw [e2]; rfl, rfl⟩
    · rw [if_pos rfl, if_neg h]
      go_enter Tryd.func51, Tryd.ntmps51
      go_wp2
      go_ret2
      exact ⟨rfl, rfl⟩
theorem wrapU (n : Nat) (h : n < 18446744073709551616) : IntKind.u64.wrap (n : Int) = (n : Int) := by
  simp [IntKind.wrap, IntKind.bits, IntKind.signed]; omega
set_option maxHeartbeats 1000000 in
theorem mul_any (a b : Nat) (w : World) (h0 : a < 18446744073709551616) (h1 : b < 18446744073709551616) :
    Calls Tryd.prog 29 #[.int .u64 a, .int .u64 b] w fun e w' => e = .returned (.tuple #[.int .u64 (a * b / 18446744073709551616 : Nat), .int .u64 (a * b % 18446744073709551616 : Nat)]) ∧ w' = w := by
  obtain ⟨a1, a0, b1, b0, p00, p10, p01, p11, ha1, ha0, hb1, hb0, k00, k10, k01, k11, l00, l10, l01, l11, hab⟩ := halves a b h0 h1
  obtain ⟨mid, hm⟩ : ∃ x, x = p10 + p00 / 4294967296 := ⟨_, rfl⟩
  obtain ⟨cr, hc⟩ : ∃ x, x = mid % 4294967296 + p01 := ⟨_, rfl⟩
  have A0 : bits .and .u64 (a : Int) 4294967295 = (a0 : Int) := by rw [and32 a h0, ha0]
  have B0 : bits .and .u64 (b : Int) 4294967295 = (b0 : Int) := by rw [and32 b h1, hb0]
  have A1 : (a : Int) / 4294967296 = (a1 : Int) := by omega
  have B1 : (b : Int) / 4294967296 = (b1 : Int) := by omega
  have K00 : (a0 : Int) * (b0 : Int) = (p00 : Int) := by rw [← k00]; rfl
  have K10 : (a1 : Int) * (b0 : Int) = (p10 : Int) := by rw [← k10]; rfl
  have K01 : (a0 : Int) * (b1 : Int) = (p01 : Int) := by rw [← k01]; rfl
  have K11 : (a1 : Int) * (b1 : Int) = (p11 : Int) := by rw [← k11]; rfl
  have e1 : (p00 : Int) / 4294967296 = ((p00 / 4294967296 : Nat) : Int) := rfl
  have M : (p10 : Int) + (p00 : Int) / 4294967296 = (mid : Int) := by omega
  have M32 := and32 mid (by omega)
  have L32 := and32 p00 (by omega)
  have C : ((mid % 4294967296 : Nat) : Int) + (p01 : Int) = (cr : Int) := by omega
  have S : IntKind.u64.wrap ((cr : Int) * 4294967296) = ((cr % 4294967296 * 4294967296 : Nat) : Int) := by
    simp [IntKind.wrap, IntKind.bits, IntKind.signed]; omega
  have O := or32 (cr % 4294967296) (p00 % 4294967296) (by omega) (by omega)
  have HI : IntKind.u64.wrap (IntKind.u64.wrap ((p11 : Int) + (mid : Int) / 4294967296) + (cr : Int) / 4294967296) = ((a * b / 18446744073709551616 : Nat) : Int) := by
    simp [IntKind.wrap, IntKind.bits, IntKind.signed]
    omega
  have LO : ((cr % 4294967296 * 4294967296 + p00 % 4294967296 : Nat) : Int) = ((a * b % 18446744073709551616 : Nat) : Int) := by omega
  have w00 := wrapU p00 (by omega)
  have w10 := wrapU p10 (by omega)
  have w01 := wrapU p01 (by omega)
  have w11 := wrapU p11 (by omega)
  have wm := wrapU mid (by omega)
  have wc := wrapU cr (by omega)
  have H : Hid (IntKind.u64.wrap (IntKind.u64.wrap (IntKind.u64.wrap ((a : Int) / 4294967296 * ((b : Int) / 4294967296)) + IntKind.u64.wrap (IntKind.u64.wrap ((a : Int) / 4294967296 * bits .and .u64 (b : Int) 4294967295) + IntKind.u64.wrap (bits .and .u64 (a : Int) 4294967295 * bits .and .u64 (b : Int) 4294967295) / 4294967296) / 4294967296) +
      IntKind.u64.wrap (bits .and .u64 (IntKind.u64.wrap (IntKind.u64.wrap ((a : Int) / 4294967296 * bits .and .u64 (b : Int) 4294967295) + IntKind.u64.wrap (bits .and .u64 (a : Int) 4294967295 * bits .and .u64 (b : Int) 4294967295) / 4294967296)) 4294967295 + IntKind.u64.wrap (bits .and .u64 (a : Int) 4294967295 * ((b : Int) / 4294967296))) / 4294967296) = ((a * b / 18446744073709551616 : Nat) : Int)) := Lib.hid (by
    rw [A0, B0, A1, B1, K00, K10, K01, K11, w00, w10, w01, w11, M, wm, M32, C, wc]
    exact HI)
  have Lw : Hid (bits .or .u64 (IntKind.u64.wrap (IntKind.u64.wrap (bits .and .u64 (IntKind.u64.wrap (IntKind.u64.wrap ((a : Int) / 4294967296 * bits .and .u64 (b : Int) 4294967295) + IntKind.u64.wrap (bits .and .u64 (a : Int) 4294967295 * bits .and .u64 (b : Int) 4294967295) / 4294967296)) 4294967295 + IntKind.u64.wrap (bits .and .u64 (a : Int) 4294967295 * ((b : Int) / 4294967296))) * 4294967296)) (bits .and .u64 (IntKind.u64.wrap (bits .and .u64 (a : Int) 4294967295 * bits .and .u64 (b : Int) 4294967295)) 4294967295) = ((a * b % 18446744073709551616 : Nat) : Int)) := Lib.hid (by
    rw [A0, B0, A1, B1, K00, K10, K01, w00, w10, w01, M, wm, M32, C, wc, S, L32, O]
    exact LO)
  clear A0 B0 A1 B1 K00 K10 K01 K11 e1 M M32 L32 C S O HI LO w00 w10 w01 w11 wm wc
  clear hm hc ha1 ha0 hb1 hb0 k00 k10 k01 k11 l00 l10 l01 l11 hab
  go_enter Tryd.func29, Tryd.ntmps29
  go_wp2
  rw [H.out, Lw.out]
  go_ret2
  exact ⟨rfl, rfl⟩
end Go.Proofs.YtjniclalobggpaaDoor
