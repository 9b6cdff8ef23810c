/-
  The walk of the law CivilWeeks: it returns true.
-/
import Derived.Test.YtdadhpfaompmnaaCivilW10
namespace Go.Proofs.Ytdadhpfaompmnaa
open Go.RowKit
set_option linter.unusedVariables false

set_option maxHeartbeats 2000000 in
theorem CivilWeeks_walk (d : Int) (w : World) (hd0 : -9223372036854775808 ≤ d) (hd1 : d ≤ 9223372036854775807) :
    Calls Try.prog 6 #[.int .i64 d] w fun e w' => e = .returned (.bool true) ∧ Below w.heap.size w w' := by
  go_enter Try.func6, Try.ntmps6
  go_wp2_with fail
  refine (wakes_any w).mono ?_
  rintro e w1 ⟨rfl, hb1⟩
  by_cases hr : -719162 ≤ d ∧ d ≤ 2932896
  · obtain ⟨h0, h1⟩ := hr
    have F := Lib.hid fun w => Weekday_in d w h0 h1
    have G := Lib.hid fun w => refWeekday_in d w h0 h1
    obtain ⟨x, hx⟩ : ∃ x, (d + 719162) % 7 + 1 = x := ⟨_, rfl⟩
    rw [hx] at F G
    have hx0 : 1 ≤ x := by omega
    have hx7 : x ≤ 7 := by omega
    have HX := Lib.hid hx
    clear hx
    by_cases hlast : d = 2932896
    · subst hlast
      go_wp2_with fail
      refine (F.out w1).mono ?_
      rintro e w' ⟨rfl, rfl⟩
      go_wp2_with fail
      refine (G.out w1).mono ?_
      rintro e w' ⟨rfl, rfl⟩
      go_wp2
      go_ret
      exact ⟨by simp, hb1⟩
    · have f1 : (d == 2932896) = false := by simp; omega
      have K := Lib.hid fun w => Weekday_in (d + 1) w (by omega) (by omega)
      have e1 : (d + 1 + 719162) % 7 + 1 = x % 7 + 1 := by have := HX.out; omega
      rw [e1] at K
      clear e1
      go_wp2_with fail
      refine (F.out w1).mono ?_
      rintro e w' ⟨rfl, rfl⟩
      go_wp2_with fail
      refine (G.out w1).mono ?_
      rintro e w' ⟨rfl, rfl⟩
      go_wp2_with fail
      refine (K.out w1).mono ?_
      rintro e w' ⟨rfl, rfl⟩
      go_wp2
      go_ret
      exact ⟨by simp, hb1⟩
  · have ho : d < -719162 ∨ 2932896 < d := by omega
    go_wp2_with fail
    refine (Weekday_out d w1 ho).mono ?_
    rintro e w' ⟨rfl, rfl⟩
    go_wp2_with fail
    refine (refWeekday_out d w1 ho).mono ?_
    rintro e w' ⟨rfl, rfl⟩
    go_wp2
    go_ret
    exact ⟨by simp, hb1⟩
end Go.Proofs.Ytdadhpfaompmnaa
