/-
  The walk of the day by its parts: Of.
-/
import Derived.Test.YtdadhpfaompmnaaCivilW
namespace Go.Proofs.Ytdadhpfaompmnaa
open Go.RowKit
set_option linter.unusedVariables false

/-! ### A day by its parts -/
/-- What both answer: the day, or none. -/
def Parts (y m d : Int) : Prop := ∃ a b c : Nat, y = a ∧ m = b ∧ d = c ∧ Valid a b c
theorem not_parts {y m d : Int} (h : ¬ Parts y m d) : y < 1 ∨ (1 ≤ y ∧ 9999 < y) ∨ (1 ≤ y ∧ y ≤ 9999 ∧ m < 1) ∨ (1 ≤ y ∧ y ≤ 9999 ∧ 1 ≤ m ∧ 12 < m) ∨ (1 ≤ y ∧ y ≤ 9999 ∧ 1 ≤ m ∧ m ≤ 12 ∧ d < 1) ∨ ∃ a b : Nat, y = a ∧ m = b ∧ 1 ≤ a ∧ a ≤ 9999 ∧ 1 ≤ b ∧ b ≤ 12 ∧ 1 ≤ d ∧ (dim a b : Int) < d := by
  by_cases h1 : y < 1
  · exact .inl h1
  by_cases h2 : 9999 < y
  · exact .inr (.inl ⟨by omega, h2⟩)
  by_cases h3 : m < 1
  · exact .inr (.inr (.inl ⟨by omega, by omega, h3⟩))
  by_cases h4 : 12 < m
  · exact .inr (.inr (.inr (.inl ⟨by omega, by omega, by omega, h4⟩)))
  by_cases h5 : d < 1
  · exact .inr (.inr (.inr (.inr (.inl ⟨by omega, by omega, by omega, by omega, h5⟩))))
  obtain ⟨a, rfl⟩ := Int.eq_ofNat_of_zero_le (show 0 ≤ y by omega)
  obtain ⟨b, rfl⟩ := Int.eq_ofNat_of_zero_le (show 0 ≤ m by omega)
  obtain ⟨c, rfl⟩ := Int.eq_ofNat_of_zero_le (show 0 ≤ d by omega)
  refine .inr (.inr (.inr (.inr (.inr ⟨a, b, rfl, rfl, by omega, by omega, by omega, by omega, by omega, ?_⟩))))
  rcases Nat.lt_or_ge (dim a b) c with h6 | h6
  · omega
  · exact absurd ⟨a, b, c, rfl, rfl, rfl, by omega, by omega, by omega, by omega, by omega, h6⟩ h

theorem ret_day {a b : Int} {x : Value} (h : a = b) : Ending.returned (.tuple #[.int .i64 a, x]) = Ending.returned (.tuple #[.int .i64 b, x]) := by rw [h]

theorem Of_out (y m d : Int) (w : World) (h : ¬ Parts y m d) :
    Calls Try.prog 10 #[.int .i64 y, .int .i64 m, .int .i64 d] w fun e w' => e = .returned (.tuple #[.int .i64 0, .int .i64 6]) ∧ Below w.heap.size w w' := by
  rcases not_parts h with h | h | h | h | h | ⟨a, b, rfl, rfl, h1, h2, h3, h4, h5, h6⟩
  case inr.inr.inr.inr.inr =>
    have L := Lib.hid (length_any a b w h1 h2 h3 h4)
    generalize dim a b = q at L h6
    go_enter Try.func10, Try.ntmps10
    go_wp2_with fail
    refine L.out.mono ?_
    rintro e w' ⟨rfl, hb⟩
    go_wp2
    go_ret2
    exact ⟨rfl, hb⟩
  all_goals
    go_enter Try.func10, Try.ntmps10
    go_wp2
    go_ret2
    exact ⟨rfl, Below.refl _ _⟩

set_option maxRecDepth 100000 in
set_option maxHeartbeats 2000000 in
theorem Of_in (y m d : Nat) (w : World) (h : Valid y m d) :
    Calls Try.prog 10 #[.int .i64 y, .int .i64 m, .int .i64 d] w fun e w' => e = .returned (.tuple #[.int .i64 (dayOf y m d), .int .i64 0]) ∧ Below w.heap.size w w' := by
  have hv := Lib.hid h
  obtain ⟨h1, h2, h3, h4, h5, h6⟩ := h
  have L := Lib.hid (length_any y m w h1 h2 h3 h4)
  have h7 := (dim_le y m).2
  have H6 := Lib.hid h6
  generalize hq : dim y m = q at L h6 h7
  clear hq
  by_cases hm : m < 3
  · have hd := Lib.hid (day_march y m d (y - 1) (m + 12) hv.out (.inl ⟨hm, rfl, rfl⟩))
    obtain ⟨z, rfl⟩ : ∃ z, y = z + 1 := ⟨y - 1, by omega⟩
    go_enter Try.func10, Try.ntmps10
    go_wp2_with fail
    refine L.out.mono ?_
    rintro e w' ⟨rfl, hb⟩
    go_wp2
    go_ret2
    refine ⟨ret_day ?_, hb⟩
    rw [← hd.out]
    omega
  · have hd := Lib.hid (day_march y m d y m hv.out (.inr ⟨by omega, rfl, rfl⟩))
    go_enter Try.func10, Try.ntmps10
    go_wp2_with fail
    refine L.out.mono ?_
    rintro e w' ⟨rfl, hb⟩
    go_wp2
    go_ret2
    refine ⟨ret_day ?_, hb⟩
    rw [← hd.out]
    omega
end Go.Proofs.Ytdadhpfaompmnaa
