/-
  The walks of MulDiv, Add, Sub. No statement is proved here.
-/
import Derived.Test.YtjniclalobggpaaDoorAmW2
import Derived.Test.YtjniclalobggpaaDoorAmP2
namespace Go.Proofs.YtjniclalobggpaaDoor
open Go.RowKit
set_option linter.unusedVariables false

theorem wd_split (n : Nat) : wd (n / 18446744073709551616) (n % 18446744073709551616) = n := by unfold wd; omega
/-- What MulDiv answers. -/
def mulDivOf (a b c : Int) : Int × Int := if c = 0 then (0, 5) else overOf (a.natAbs * b.natAbs) c.natAbs (decide (a < 0) ^^ decide (b < 0) ^^ decide (c < 0))
theorem natAbs_le (a : Int) (h0 : -9223372036854775808 ≤ a) (h1 : a ≤ 9223372036854775807) : a.natAbs ≤ 9223372036854775808 := by omega
theorem prod_lt (a b : Nat) (h0 : a ≤ 9223372036854775808) (h1 : b ≤ 9223372036854775808) : a * b / 18446744073709551616 < 18446744073709551616 := by
  have := Nat.mul_le_mul h0 h1
  omega
set_option maxHeartbeats 1000000 in
theorem MulDiv_of (a b c : Int) (w : World) (a0 : -9223372036854775808 ≤ a) (a1 : a ≤ 9223372036854775807) (b0 : -9223372036854775808 ≤ b) (b1 : b ≤ 9223372036854775807) (c0 : -9223372036854775808 ≤ c) (c1 : c ≤ 9223372036854775807)
    (HD : c ≠ 0 → a.natAbs * b.natAbs / 18446744073709551616 < c.natAbs → DivAt (a.natAbs * b.natAbs / 18446744073709551616) (a.natAbs * b.natAbs % 18446744073709551616) c.natAbs) :
    Calls Tryd.prog 12 #[.int .i64 a, .int .i64 b, .int .i64 c] w fun e w' => e = .returned (.tuple #[.int .i64 (mulDivOf a b c).1, .int .i64 (mulDivOf a b c).2]) ∧ Below w.heap.size w w' := by
  have HDef : mulDivOf a b c = if c = 0 then (0, 5) else overOf (a.natAbs * b.natAbs) c.natAbs (decide (a < 0) ^^ decide (b < 0) ^^ decide (c < 0)) := rfl
  rw [HDef]
  clear HDef
  by_cases hc : c = 0
  · subst hc
    rw [if_pos rfl]
    clear HD
    go_enter Tryd.func12, Tryd.ntmps12
    go_wp2
    go_ret2
    exact ⟨rfl, Below.refl _ _⟩
  · rw [if_neg hc]
    have SA := Lib.hid (fun w => size_any a w a0 a1)
    have SB := Lib.hid (fun w => size_any b w b0 b1)
    have SC := Lib.hid (fun w => size_any c w c0 c1)
    have hA := natAbs_le a a0 a1
    have hB := natAbs_le b b0 b1
    have hC := natAbs_le c c0 c1
    have hP := prod_lt _ _ hA hB
    have hM : a.natAbs * b.natAbs % 18446744073709551616 < 18446744073709551616 := Nat.mod_lt _ (by omega)
    have MU := Lib.hid (fun w => mul_any a.natAbs b.natAbs w (by omega) (by omega))
    have hC0 : 0 < c.natAbs := by omega
    have OV := Lib.hid (fun m w => over_of (a.natAbs * b.natAbs / 18446744073709551616) (a.natAbs * b.natAbs % 18446744073709551616) c.natAbs m w hP hM (by omega) hC0 (HD hc))
    rw [wd_split] at OV
    have X1 := xorS a b a0 a1 b0 b1
    have X2 := xorS (bits .xor .i64 a b) c X1.2.1 X1.2.2 c0 c1
    have HX : Hid (decide (bits .xor .i64 (bits .xor .i64 a b) c < 0) = (decide (a < 0) ^^ decide (b < 0) ^^ decide (c < 0))) := Lib.hid (by rw [X2.1, X1.1])
    clear X1 X2 HD
    rw [← HX.out]
    clear HX
    generalize overOf (a.natAbs * b.natAbs) c.natAbs = ov at *
    generalize a.natAbs * b.natAbs = N at *
    generalize N / 18446744073709551616 = hi at *
    generalize N % 18446744073709551616 = lo at *
    generalize a.natAbs = A' at *
    generalize b.natAbs = B' at *
    generalize c.natAbs = C' at *
    go_enter Tryd.func12, Tryd.ntmps12
    go_wp2_with fail
    refine (SA.out w).mono ?_
    rintro e w' ⟨rfl, rfl⟩
    go_wp2_with fail
    refine (SB.out _).mono ?_
    rintro e w' ⟨rfl, rfl⟩
    go_wp2_with fail
    refine (MU.out _).mono ?_
    rintro e w' ⟨rfl, rfl⟩
    go_wp2_with fail
    refine (SC.out _).mono ?_
    rintro e w' ⟨rfl, rfl⟩
    go_wp2_with fail
    refine (OV.out _ _).mono ?_
    rintro e w2 ⟨rfl, hb⟩
    go_wp2
    go_ret2
    exact ⟨rfl, hb⟩
end Go.Proofs.YtjniclalobggpaaDoor
