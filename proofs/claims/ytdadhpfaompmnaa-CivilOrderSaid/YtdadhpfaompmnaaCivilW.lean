/-
  The walks of the days' layer: Leap, Good, Days, ahead, length.
-/
import Derived.Test.YtdadhpfaompmnaaBytes
import Derived.Test.YtdadhpfaompmnaaCivilP
namespace Go.Proofs.Ytdadhpfaompmnaa
open Go.RowKit
set_option linter.unusedVariables false

/-- What the walk asks of a year. -/
theorem leap_cases (y : Nat) :
    (((y : Int) % 4 == 0) = false ∧ ((y : Int) % 100 == 0) = false ∧ ((y : Int) % 100 != 0) = true ∧ ((y : Int) % 400 == 0) = false ∧ leap y = false) ∨
    (((y : Int) % 4 == 0) = true ∧ ((y : Int) % 100 == 0) = false ∧ ((y : Int) % 100 != 0) = true ∧ ((y : Int) % 400 == 0) = false ∧ leap y = true) ∨
    (((y : Int) % 4 == 0) = true ∧ ((y : Int) % 100 == 0) = true ∧ ((y : Int) % 100 != 0) = false ∧ ((y : Int) % 400 == 0) = true ∧ leap y = true) ∨
    (((y : Int) % 4 == 0) = true ∧ ((y : Int) % 100 == 0) = true ∧ ((y : Int) % 100 != 0) = false ∧ ((y : Int) % 400 == 0) = false ∧ leap y = false) := by
  have m1 := mod_100 y
  have m2 := mod_400 y
  have e4 : ((y : Int) % 4 == 0) = (y % 4 == 0) := by rw [Bool.eq_iff_iff]; simp; omega
  have e100 : ((y : Int) % 100 == 0) = (y % 100 == 0) := by rw [Bool.eq_iff_iff]; simp; omega
  have e400 : ((y : Int) % 400 == 0) = (y % 400 == 0) := by rw [Bool.eq_iff_iff]; simp; omega
  unfold leap
  rw [bne, e4, e100, e400]
  by_cases h4 : y % 4 = 0 <;> by_cases h100 : y % 100 = 0 <;> by_cases h400 : y % 400 = 0 <;> simp_all

theorem Leap_any (y : Nat) (w : World) (h0 : 1 ≤ y) (h1 : y ≤ 9999) :
    Calls Try.prog 28 #[.int .i64 y] w fun e w' => e = .returned (.bool (leap y)) ∧ w = w' := by
  have hc := leap_cases y
  generalize leap y = l at hc ⊢
  rcases hc with ⟨e1, e2, e3, e4, rfl⟩ | ⟨e1, e2, e3, e4, rfl⟩ | ⟨e1, e2, e3, e4, rfl⟩ | ⟨e1, e2, e3, e4, rfl⟩
  all_goals
    go_enter Try.func28, Try.ntmps28
    go_wp2
    go_ret
    exact ⟨rfl, rfl⟩

theorem Good_in (d : Int) (w : World) (h0 : -719162 ≤ d) (h1 : d ≤ 2932896) :
    Calls Try.prog 22 #[.int .i64 d] w fun e w' => e = .returned (.bool true) ∧ w = w' := by
  go_enter Try.func22, Try.ntmps22
  go_wp2
  go_ret
  exact ⟨by simp, rfl⟩
theorem Good_out (d : Int) (w : World) (h : d < -719162 ∨ 2932896 < d) :
    Calls Try.prog 22 #[.int .i64 d] w fun e w' => e = .returned (.bool false) ∧ w = w' := by
  rcases h with h | h
  all_goals
    go_enter Try.func22, Try.ntmps22
    go_wp2
    go_ret
    exact ⟨ret_bool (by first | omega | (simp; done) | (simp; omega)), rfl⟩

theorem Days_any (y m : Nat) (w : World) (h0 : 1 ≤ y) (h1 : y ≤ 9999) (h2 : 1 ≤ m) (h3 : m ≤ 12) :
    Calls Try.prog 24 #[.int .i64 y, .int .i64 m] w fun e w' => e = .returned (.int .i64 (dim y m)) ∧ w = w' := by
  have L := Lib.hid (Leap_any y w h0 h1)
  by_cases hm : m = 2
  · subst hm
    rw [show dim y 2 = if leap y then 29 else 28 from rfl]
    generalize leap y = l at L ⊢
    go_enter Try.func24, Try.ntmps24
    go_wp2_with fail
    refine L.out.mono ?_
    rintro e w' ⟨rfl, rfl⟩
    cases l
    · go_wp2
      go_ret
      exact ⟨rfl, rfl⟩
    · go_wp2
      go_ret
      exact ⟨rfl, rfl⟩
  · have hd : ∃ q, dim y m = q ∧ ((q = 30 ∧ (m = 4 ∨ m = 6 ∨ m = 9 ∨ m = 11)) ∨ (q = 31 ∧ m ≠ 4 ∧ m ≠ 6 ∧ m ≠ 9 ∧ m ≠ 11)) := by
      refine ⟨_, rfl, ?_⟩
      unfold dim
      rw [if_neg hm]
      split <;> simp_all
    obtain ⟨q, e, ⟨rfl, hq⟩ | ⟨rfl, hq⟩⟩ := hd
    · rw [e]
      clear e L
      rcases hq with rfl | rfl | rfl | rfl
      all_goals
        go_enter Try.func24, Try.ntmps24
        go_wp2
        go_ret
        exact ⟨rfl, rfl⟩
    · rw [e]
      clear e L
      have f2 : ((m : Int) == 2) = false := by simp; omega
      have f4 : ((m : Int) == 4) = false := by simp; omega
      have f6 : ((m : Int) == 6) = false := by simp; omega
      have f9 : ((m : Int) == 9) = false := by simp; omega
      have f11 : ((m : Int) == 11) = false := by simp; omega
      go_enter Try.func24, Try.ntmps24
      go_wp2
      go_ret
      exact ⟨rfl, rfl⟩

theorem ahead_any (y : Nat) (w : World) (h0 : 1 ≤ y) (h1 : y ≤ 10000) :
    Calls Try.prog 25 #[.int .i64 y] w fun e w' => e = .returned (.int .i64 (ahead y)) ∧ w = w' := by
  go_enter Try.func25, Try.ntmps25
  go_wp2
  go_ret
  refine ⟨ret_int ?_, rfl⟩
  unfold ahead
  omega

set_option maxHeartbeats 2000000 in
theorem length_any (y m : Nat) (w : World) (h0 : 1 ≤ y) (h1 : y ≤ 9999) (h2 : 1 ≤ m) (h3 : m ≤ 12) :
    Calls Try.prog 23 #[.int .i64 y, .int .i64 m] w fun e w' => e = .returned (.int .i64 (dim y m)) ∧ Below w.heap.size w w' := by
  have hb : ∀ o, Below w.heap.size w (w.alloc o) := fun o => (Below.refl _ _).alloc (Nat.le_refl _) o
  by_cases hm : m = 2
  · subst hm
    rw [show dim y 2 = if leap y then 29 else 28 from rfl]
    have hc := leap_cases y
    generalize leap y = l at hc ⊢
    rcases hc with ⟨e1, e2, e3, e4, rfl⟩ | ⟨e1, e2, e3, e4, rfl⟩ | ⟨e1, e2, e3, e4, rfl⟩ | ⟨e1, e2, e3, e4, rfl⟩
    all_goals
      go_enter Try.func23, Try.ntmps23
      go_wp2
      go_ret
      exact ⟨rfl, hb _⟩
  · rcases months m h2 h3 with rfl | rfl | rfl | rfl | rfl | rfl | rfl | rfl | rfl | rfl | rfl | rfl
    case inr.inl => exact absurd rfl hm
    all_goals
      clear hm
      go_enter Try.func23, Try.ntmps23
      go_wp2
      go_ret
      exact ⟨rfl, hb _⟩

end Go.Proofs.Ytdadhpfaompmnaa
