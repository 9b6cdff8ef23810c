/-
  The walk of 'wakes' of the days' laws.
-/
import Derived.Test.YtdadhpfaompmnaaCivilW6
import Derived.Test.YtdadhpfaompmnaaCivilW9
namespace Go.Proofs.Ytdadhpfaompmnaa
open Go.RowKit
set_option linter.unusedVariables false

theorem day_a : dayOf 2000 2 29 = 11016 := by decide
theorem day_0 : dayOf 1970 1 1 = 0 := by decide
theorem day_b : dayOf 2024 1 31 = 19753 := by decide
theorem day_c : dayOf 2024 2 29 = 19782 := by decide
theorem Texts.at {y m a : Nat} (h : Valid y m a) {d : Int} (hd : dayOf y m a = d) {e : Ending} (ht : Texts d e) : e = .returned (.tuple #[.string ⟨(txt y m a).toArray⟩, .int .i64 0]) := by
  obtain ⟨y', m', a', hv, hd', he⟩ := ht
  obtain ⟨rfl, rfl, rfl⟩ := dayOf_inj hv h (hd'.trans hd.symm)
  exact he
theorem Adds.at {y m a : Nat} (h : Valid y m a) {d k : Int} (hd : dayOf y m a = d) {e : Ending} (ht : Adds d k e) : e = .returned (.tuple #[.int .i64 (addAt y m a k).1, .int .i64 (addAt y m a k).2]) := by
  obtain ⟨y', m', a', hv, hd', he⟩ := ht
  obtain ⟨rfl, rfl, rfl⟩ := dayOf_inj hv h (hd'.trans hd.symm)
  exact he

theorem readAs_of {y m a : Nat} (h : Valid y m a) {l : List UInt8} (hl : l = txt y m a) : ReadAs l (dayOf y m a, 0) := by
  subst hl
  obtain ⟨p, hp⟩ := readAs (txt y m a)
  have := hp.txt h
  subst this
  exact hp
theorem of_a (w : World) : Calls Try.prog 10 #[.int .i64 2000, .int .i64 2, .int .i64 29] w fun e w' => e = .returned (.tuple #[.int .i64 11016, .int .i64 0]) ∧ Below w.heap.size w w' := by
  have := Of_in 2000 2 29 w (by decide)
  rw [day_a] at this
  exact this
theorem text_0 (w : World) : Calls Try.prog 18 #[.int .i64 0] w fun e w' => e = .returned (.tuple #[.string ⟨#[49, 57, 55, 48, 45, 48, 49, 45, 48, 49]⟩, .int .i64 0]) ∧ Below w.heap.size w w' := by
  refine (Text_in 0 w (by omega) (by omega)).mono ?_
  rintro e w' ⟨ht, hb⟩
  exact ⟨Texts.at (show Valid 1970 1 1 by decide) day_0 ht, hb⟩
theorem text_c (w : World) : Calls Try.prog 18 #[.int .i64 19782] w fun e w' => e = .returned (.tuple #[.string ⟨#[50, 48, 50, 52, 45, 48, 50, 45, 50, 57]⟩, .int .i64 0]) ∧ Below w.heap.size w w' := by
  refine (Text_in 19782 w (by omega) (by omega)).mono ?_
  rintro e w' ⟨ht, hb⟩
  exact ⟨Texts.at (show Valid 2024 2 29 by decide) day_c ht, hb⟩
theorem read_b (w : World) : Calls Try.prog 20 #[.string ⟨#[50, 48, 50, 52, 45, 48, 49, 45, 51, 49]⟩] w fun e w' => e = .returned (.tuple #[.int .i64 19753, .int .i64 0]) ∧ Below w.heap.size w w' := by
  have h := readAs_of (show Valid 2024 1 31 by decide) (l := [50, 48, 50, 52, 45, 48, 49, 45, 51, 49]) rfl
  rw [day_b] at h
  exact Read_any ⟨#[50, 48, 50, 52, 45, 48, 49, 45, 51, 49]⟩ (19753, 0) w h (by decide)
theorem add_b (w : World) : Calls Try.prog 14 #[.int .i64 19753, .int .i64 1] w fun e w' => e = .returned (.tuple #[.int .i64 19782, .int .i64 0]) ∧ Below w.heap.size w w' := by
  refine (Add_in 19753 1 w (by omega) (by omega) (by omega) (by omega)).mono ?_
  rintro e w' ⟨ht, hb⟩
  refine ⟨(Adds.at (show Valid 2024 1 31 by decide) day_b ht).trans ?_, hb⟩
  have e1 : addAt 2024 1 31 1 = (19782, 0) := by decide
  rw [e1]
theorem week_0 (w : World) : Calls Try.prog 16 #[.int .i64 0] w fun e w' => e = .returned (.tuple #[.int .i64 4, .int .i64 0]) ∧ w = w' :=
  Weekday_in 0 w (by omega) (by omega)

set_option maxHeartbeats 2000000 in
theorem wakes_any (w : World) : Calls Try.prog 9 #[] w fun e w' => e = .returned (.bool true) ∧ Below w.heap.size w w' := by
  go_enter Try.func9, Try.ntmps9
  go_wp2_with fail
  refine (of_a w).mono ?_
  rintro e w1 ⟨rfl, hb1⟩
  go_wp2_with fail
  refine (text_0 w1).mono ?_
  rintro e w2 ⟨rfl, hb2⟩
  have hb02 := hb1.trans (hb2.mono hb1.size)
  go_wp2_with fail
  refine (read_b w2).mono ?_
  rintro e w3 ⟨rfl, hb3⟩
  have hb03 := hb02.trans (hb3.mono hb02.size)
  go_wp2_with fail
  refine (add_b w3).mono ?_
  rintro e w4 ⟨rfl, hb4⟩
  have hb04 := hb03.trans (hb4.mono hb03.size)
  go_wp2_with fail
  refine (text_c w4).mono ?_
  rintro e w5 ⟨rfl, hb5⟩
  have hb05 := hb04.trans (hb5.mono hb04.size)
  go_wp2_with fail
  refine (week_0 w5).mono ?_
  rintro e w' ⟨rfl, rfl⟩
  go_wp2
  go_ret
  exact ⟨by simp, hb05⟩
end Go.Proofs.Ytdadhpfaompmnaa
