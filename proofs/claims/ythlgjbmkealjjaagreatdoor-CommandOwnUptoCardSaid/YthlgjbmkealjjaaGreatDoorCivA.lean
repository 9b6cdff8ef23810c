/-
  Joined texts: CivilP CivilW CivilW2 CivilW3. No statement is proved here.
-/
import Derived.Test.YthlgjbmkealjjaaGreatDoorLib
import Derived.Test.YthlgjbmkealjjaaGreatDoorBytes
namespace Go.Proofs.YthlgjbmkealjjaaGreatDoor
set_option linter.unusedVariables false
set_option linter.unusedSimpArgs false

/-- A leap year. -/
def leap (y : Nat) : Bool := (y % 4 == 0 && y % 100 != 0) || y % 400 == 0
def dim (y m : Nat) : Nat := if m = 2 then (if leap y then 29 else 28) else if m = 4 ∨ m = 6 ∨ m = 9 ∨ m = 11 then 30 else 31
def ahead (y : Nat) : Nat := 365 * (y - 1) + (y - 1) / 4 - (y - 1) / 100 + (y - 1) / 400
/-- The days of the months ahead of the month. -/
def mon (y m : Nat) : Nat := ((List.range (m - 1)).map fun i => dim y (i + 1)).foldl (· + ·) 0
def Valid (y m d : Nat) : Prop := 1 ≤ y ∧ y ≤ 9999 ∧ 1 ≤ m ∧ m ≤ 12 ∧ 1 ≤ d ∧ d ≤ dim y m
def dayOf (y m d : Nat) : Int := -719162 + (ahead y : Int) + (mon y m : Int) + (d : Int) - 1

def lp (y : Nat) : Nat := if leap y then 1 else 0
theorem lp_le (y : Nat) : lp y ≤ 1 := by unfold lp; split <;> omega
theorem dim_two (y : Nat) : dim y 2 = 28 + lp y := by unfold dim lp; split <;> simp_all <;> split <;> simp_all
theorem dim_le (y m : Nat) : 28 ≤ dim y m ∧ dim y m ≤ 31 := by unfold dim; repeat' split
                                                               all_goals omega

theorem mon_one (y : Nat) : mon y 1 = 0 := rfl
theorem mon_succ (y m : Nat) (h : 1 ≤ m) : mon y (m + 1) = mon y m + dim y m := by
  obtain ⟨k, rfl⟩ : ∃ k, m = k + 1 := ⟨m - 1, by omega⟩
  unfold mon
  simp [List.range_succ, List.foldl_append]
theorem mon_two (y : Nat) : mon y 2 = 31 := by rw [mon_succ y 1 (by omega), mon_one]; rfl
theorem mons (y : Nat) : mon y 1 = 0 ∧ mon y 2 = 31 ∧ mon y 3 = 59 + lp y ∧ mon y 4 = 90 + lp y ∧ mon y 5 = 120 + lp y ∧ mon y 6 = 151 + lp y ∧ mon y 7 = 181 + lp y ∧ mon y 8 = 212 + lp y ∧ mon y 9 = 243 + lp y ∧ mon y 10 = 273 + lp y ∧ mon y 11 = 304 + lp y ∧ mon y 12 = 334 + lp y ∧ mon y 13 = 365 + lp y := by
  have e3 : mon y 3 = 59 + lp y := by rw [mon_succ y 2 (by omega), mon_two, dim_two]; omega
  have e4 : mon y 4 = 90 + lp y := by rw [mon_succ y 3 (by omega), e3, show dim y 3 = 31 from rfl]; omega
  have e5 : mon y 5 = 120 + lp y := by rw [mon_succ y 4 (by omega), e4, show dim y 4 = 30 from rfl]; omega
  have e6 : mon y 6 = 151 + lp y := by rw [mon_succ y 5 (by omega), e5, show dim y 5 = 31 from rfl]; omega
  have e7 : mon y 7 = 181 + lp y := by rw [mon_succ y 6 (by omega), e6, show dim y 6 = 30 from rfl]; omega
  have e8 : mon y 8 = 212 + lp y := by rw [mon_succ y 7 (by omega), e7, show dim y 7 = 31 from rfl]; omega
  have e9 : mon y 9 = 243 + lp y := by rw [mon_succ y 8 (by omega), e8, show dim y 8 = 31 from rfl]; omega
  have e10 : mon y 10 = 273 + lp y := by rw [mon_succ y 9 (by omega), e9, show dim y 9 = 30 from rfl]; omega
  have e11 : mon y 11 = 304 + lp y := by rw [mon_succ y 10 (by omega), e10, show dim y 10 = 31 from rfl]; omega
  have e12 : mon y 12 = 334 + lp y := by rw [mon_succ y 11 (by omega), e11, show dim y 11 = 30 from rfl]; omega
  have e13 : mon y 13 = 365 + lp y := by rw [mon_succ y 12 (by omega), e12, show dim y 12 = 31 from rfl]; omega
  exact ⟨mon_one y, mon_two y, e3, e4, e5, e6, e7, e8, e9, e10, e11, e12, e13⟩
/-- The months, one by one. -/
theorem months (m : Nat) (h : 1 ≤ m) (h' : m ≤ 12) : m = 1 ∨ m = 2 ∨ m = 3 ∨ m = 4 ∨ m = 5 ∨ m = 6 ∨ m = 7 ∨ m = 8 ∨ m = 9 ∨ m = 10 ∨ m = 11 ∨ m = 12 := by omega

theorem lp_mod (y : Nat) : lp y = if y % 4 = 0 ∧ y % 100 ≠ 0 ∨ y % 400 = 0 then 1 else 0 := by
  unfold lp leap
  by_cases h1 : y % 4 = 0 <;> by_cases h2 : y % 100 = 0 <;> by_cases h3 : y % 400 = 0 <;> simp [h1, h2, h3]
theorem div_step (k : Nat) : (k + 1) / 4 = k / 4 + (if (k + 1) % 4 = 0 then 1 else 0) ∧ (k + 1) / 100 = k / 100 + (if (k + 1) % 100 = 0 then 1 else 0) ∧ (k + 1) / 400 = k / 400 + (if (k + 1) % 400 = 0 then 1 else 0) := by
  refine ⟨?_, ?_, ?_⟩ <;> split <;> omega
theorem mod_100 (y : Nat) (h : y % 100 = 0) : y % 4 = 0 := by omega
theorem mod_400 (y : Nat) (h : y % 400 = 0) : y % 100 = 0 := by omega
theorem div_ord (k : Nat) : k / 100 ≤ k / 4 := by omega
theorem ahead_succ (y : Nat) (h : 1 ≤ y) : ahead (y + 1) = ahead y + 365 + lp y := by
  obtain ⟨k, rfl⟩ : ∃ k, y = k + 1 := ⟨y - 1, by omega⟩
  rw [lp_mod]
  unfold ahead
  obtain ⟨e1, e2, e3⟩ := div_step k
  have m1 := mod_100 (k + 1)
  have m2 := mod_400 (k + 1)
  have o := div_ord k
  simp only [Nat.add_sub_cancel]
  rw [e1, e2, e3]
  generalize k / 4 = a at *
  generalize k / 100 = b at *
  generalize k / 400 = c at *
  by_cases h4 : (k + 1) % 4 = 0 <;> by_cases h100 : (k + 1) % 100 = 0 <;> by_cases h400 : (k + 1) % 400 = 0 <;> simp only [h4, h100, h400, if_true, if_false, not_true, not_false_eq_true, and_true, true_and, and_false, false_and, or_true, true_or, or_false, false_or, ne_eq] at m1 m2 ⊢ <;> omega
theorem era_split (Y : Nat) : Y / 400 * 146097 + Y % 400 * 365 + Y % 400 / 4 = 365 * Y + Y / 4 - Y / 100 + Y / 400 + Y % 400 / 100 ∧ ahead (Y + 1) = 365 * Y + Y / 4 - Y / 100 + Y / 400 := by
  refine ⟨?_, by unfold ahead; simp only [Nat.add_sub_cancel]⟩
  have h1 : Y / 4 = 100 * (Y / 400) + Y % 400 / 4 := by omega
  have h2 : Y / 100 = 4 * (Y / 400) + Y % 400 / 100 := by omega
  have h3 := Nat.div_add_mod Y 400
  have h4 := div_ord (Y % 400)
  generalize Y / 400 = q at *
  generalize Y % 400 = r at *
  generalize r / 4 = a at *
  generalize r / 100 = b at *
  rw [h1, h2]
  omega

theorem ahead_mono {y z : Nat} (h : 1 ≤ y) (hz : y < z) : ahead y + 365 + lp y ≤ ahead z := by
  obtain ⟨k, rfl⟩ : ∃ k, z = y + 1 + k := ⟨z - y - 1, by omega⟩
  induction k with
  | zero => rw [Nat.add_zero, ahead_succ y h]; exact Nat.le_refl _
  | succ k ih =>
    have := ih (by omega)
    rw [show y + 1 + (k + 1) = (y + 1 + k) + 1 from rfl, ahead_succ _ (by omega)]
    omega
theorem mon_mono (y : Nat) {m k : Nat} (h : 1 ≤ m) (hk : m < k) : mon y m + dim y m ≤ mon y k := by
  obtain ⟨j, rfl⟩ : ∃ j, k = m + 1 + j := ⟨k - m - 1, by omega⟩
  induction j with
  | zero => rw [Nat.add_zero, mon_succ y m h]; exact Nat.le_refl _
  | succ j ih =>
    have := ih (by omega)
    rw [show m + 1 + (j + 1) = (m + 1 + j) + 1 from rfl, mon_succ _ _ (by omega)]
    omega
theorem mon_year {y m d : Nat} (h : Valid y m d) : mon y m + d ≤ 365 + lp y := by
  obtain ⟨_, _, h1, h2, _, h3⟩ := h
  have := mon_mono y h1 (show m < 13 by omega)
  have := (mons y).2.2.2.2.2.2.2.2.2.2.2.2
  omega
/-- Days are ordered by year, month and day. -/
theorem dayOf_lt {y m d z n e : Nat} (h : Valid y m d) (h' : Valid z n e) (hl : y < z ∨ y = z ∧ (m < n ∨ m = n ∧ d < e)) : dayOf y m d < dayOf z n e := by
  unfold dayOf
  rcases hl with hl | ⟨rfl, hl | ⟨rfl, hl⟩⟩
  · have := mon_year h
    have := ahead_mono h.1 hl
    have := h'.2.2.2.2.1
    omega
  · have := mon_mono y h.2.2.1 hl
    have := h.2.2.2.2.2
    have := h'.2.2.2.2.1
    omega
  · omega
theorem dayOf_inj {y m d z n e : Nat} (h : Valid y m d) (h' : Valid z n e) (he : dayOf y m d = dayOf z n e) : y = z ∧ m = n ∧ d = e := by
  by_cases h1 : y < z ∨ y = z ∧ (m < n ∨ m = n ∧ d < e)
  · have := dayOf_lt h h' h1; omega
  · by_cases h2 : z < y ∨ z = y ∧ (n < m ∨ n = m ∧ e < d)
    · have := dayOf_lt h' h h2; omega
    · omega
theorem dayOf_range {y m d : Nat} (h : Valid y m d) : -719162 ≤ dayOf y m d ∧ dayOf y m d ≤ 2932896 := by
  have h1 := mon_year h
  have h2 := ahead_mono h.1 (show y < 10000 by have := h.2.1; omega)
  have h3 : ahead 10000 = 3652059 := by decide
  have h4 := h.2.2.2.2.1
  unfold dayOf
  omega

set_option maxHeartbeats 2000000 in
/-- The day by years that begin in March. -/
theorem day_march (y m d Y M : Nat) (h : Valid y m d) (hY : (m < 3 ∧ Y = y - 1 ∧ M = m + 12) ∨ (3 ≤ m ∧ Y = y ∧ M = m)) :
    ((Y / 400 * 146097 + Y % 400 * 365 + Y % 400 / 4 : Nat) : Int) - ((Y % 400 / 100 : Nat) : Int) + (((153 * (M - 3) + 2) / 5 : Nat) : Int) + d - 1 - 719468 = dayOf y m d := by
  obtain ⟨h1, h2, h3, h4, h5, h6⟩ := h
  obtain ⟨m1, m2, m3, m4, m5, m6, m7, m8, m9, m10, m11, m12, _⟩ := mons y
  obtain ⟨e1, e2⟩ := era_split Y
  have e3 := ahead_succ y h1
  unfold dayOf
  generalize Y / 400 = q at *
  generalize Y % 400 = r at *
  generalize r / 4 = a at *
  generalize r / 100 = b at *
  rw [← e2] at e1
  rcases hY with ⟨hm, rfl, rfl⟩ | ⟨hm, rfl, rfl⟩
  · rw [Nat.sub_add_cancel h1] at e1
    clear e2
    rcases (show m = 1 ∨ m = 2 by omega) with rfl | rfl
    · rw [m1]; omega
    · rw [m2]; omega
  · clear e2
    rcases (show M = 3 ∨ M = 4 ∨ M = 5 ∨ M = 6 ∨ M = 7 ∨ M = 8 ∨ M = 9 ∨ M = 10 ∨ M = 11 ∨ M = 12 by omega) with rfl | rfl | rfl | rfl | rfl | rfl | rfl | rfl | rfl | rfl
    · rw [m3]; omega
    · rw [m4]; omega
    · rw [m5]; omega
    · rw [m6]; omega
    · rw [m7]; omega
    · rw [m8]; omega
    · rw [m9]; omega
    · rw [m10]; omega
    · rw [m11]; omega
    · rw [m12]; omega

/-! ### A day's parts, by eras -/
set_option maxHeartbeats 2000000 in
/-- The year of the era in which the era's day lies, and the year's day. -/
theorem era_year (of : Nat) (h : of < 146097) :
    of / 36524 ≤ of + of / 36524 - of / 1460 ∧ ∃ Y u : Nat, (of - of / 1460 + of / 36524 - of / 146096) / 365 = Y ∧ Y < 400 ∧ of = 365 * Y + Y / 4 - Y / 100 + u ∧ u < 365 + (if (Y + 1) % 4 = 0 ∧ (Y + 1) % 100 ≠ 0 ∨ (Y + 1) % 400 = 0 then 1 else 0) := by
  refine ⟨by omega, ?_⟩
  by_cases h0 : of = 146096
  · subst h0; exact ⟨399, 365, by decide, by decide, by decide, by decide⟩
  · have e3 : of / 146096 = 0 := by omega
    obtain ⟨c, r, hc, hr, rfl⟩ : ∃ c r, c < 4 ∧ r < 36524 ∧ of = 36524 * c + r := ⟨of / 36524, of % 36524, by omega, by omega, by omega⟩
    obtain ⟨f, s, hf, hs, rfl⟩ : ∃ f s, f < 25 ∧ s < 1461 ∧ r = 1461 * f + s := ⟨r / 1461, r % 1461, by omega, by omega, by omega⟩
    obtain ⟨t, u, ht, hu, rfl⟩ : ∃ t u, t < 4 ∧ (u < 365 ∨ t = 3 ∧ u = 365) ∧ s = 365 * t + u := by
      by_cases h4 : s = 1460
      · exact ⟨3, 365, by omega, by omega, by omega⟩
      · exact ⟨s / 365, s % 365, by omega, by omega, by omega⟩
    have e2 : (36524 * c + (1461 * f + (365 * t + u))) / 36524 = c := by omega
    rw [e3, e2]
    have e1 : (36524 * c + (1461 * f + (365 * t + u))) / 1460 = 25 * c + f + (24 * c + f + 365 * t + u) / 1460 := by omega
    rw [e1]
    refine ⟨100 * c + 4 * f + t, u, ?_, by omega, ?_, ?_⟩
    · rcases (show c = 0 ∨ c = 1 ∨ c = 2 ∨ c = 3 by omega) with rfl | rfl | rfl | rfl <;> rcases (show t = 0 ∨ t = 1 ∨ t = 2 ∨ t = 3 by omega) with rfl | rfl | rfl | rfl <;> omega
    · have y4 : (100 * c + 4 * f + t) / 4 = 25 * c + f := by omega
      have y100 : (100 * c + 4 * f + t) / 100 = c := by omega
      rw [y4, y100]
      omega
    · split
      · omega
      · rename_i hn
        rcases hu with hu | ⟨rfl, rfl⟩
        · exact hu
        · exfalso
          apply hn
          omega

theorem lp_era (e Y : Nat) : lp (400 * e + Y) = if Y % 4 = 0 ∧ Y % 100 ≠ 0 ∨ Y % 400 = 0 then 1 else 0 := by
  rw [lp_mod]
  have e1 : (400 * e + Y) % 4 = Y % 4 := by omega
  have e2 : (400 * e + Y) % 100 = Y % 100 := by omega
  have e3 : (400 * e + Y) % 400 = Y % 400 := by omega
  rw [e1, e2, e3]

set_option maxHeartbeats 2000000 in
/-- The parts by eras are the day's. -/
theorem split_law (n e Y u mp dd : Nat) (h0 : 306 ≤ n) (h1 : n ≤ 3652364) (he : n = 146097 * e + (365 * Y + Y / 4 - Y / 100 + u)) (hY : Y < 400) (hof : 365 * Y + Y / 4 - Y / 100 + u < 146097)
    (hu : u < 365 + (if (Y + 1) % 4 = 0 ∧ (Y + 1) % 100 ≠ 0 ∨ (Y + 1) % 400 = 0 then 1 else 0)) (hm : mp = (5 * u + 2) / 153) (hd : dd = u - (153 * mp + 2) / 5 + 1) :
    mp ≤ 11 ∧ (153 * mp + 2) / 5 ≤ u ∧ (mp ≤ 9 → Valid (400 * e + Y) (mp + 3) dd ∧ dayOf (400 * e + Y) (mp + 3) dd = (n : Int) - 719468) ∧
    (9 < mp → Valid (400 * e + Y + 1) (mp - 9) dd ∧ dayOf (400 * e + Y + 1) (mp - 9) dd = (n : Int) - 719468) := by
  have hu2 : u ≤ 365 := by split at hu <;> omega
  have hlp := lp_era e (Y + 1)
  rw [← hlp, ← Nat.add_assoc] at hu
  have hlq := lp_le (400 * e + Y + 1)
  have hq : Y / 100 ≤ Y / 4 := div_ord Y
  have hq4 : Y / 4 ≤ 99 := by omega
  have hmp : mp ≤ 11 := by omega
  have hge : (153 * mp + 2) / 5 ≤ u := by omega
  have hY399 : Y = 399 → Y / 4 = 99 ∧ Y / 100 = 3 := by intro h; subst h; decide
  have hY0 : Y = 0 → Y / 4 = 0 ∧ Y / 100 = 0 := by intro h; subst h; decide
  have d1 : (400 * e + Y) / 400 = e := by omega
  have d2 : (400 * e + Y) % 400 = Y := by omega
  refine ⟨hmp, hge, fun h9 => ?_, fun h9 => ?_⟩
  · have hv : Valid (400 * e + Y) (mp + 3) dd := by
      refine ⟨?_, ?_, by omega, by omega, by omega, ?_⟩
      · omega
      · omega
      · rcases (show mp = 0 ∨ mp = 1 ∨ mp = 2 ∨ mp = 3 ∨ mp = 4 ∨ mp = 5 ∨ mp = 6 ∨ mp = 7 ∨ mp = 8 ∨ mp = 9 by omega) with rfl | rfl | rfl | rfl | rfl | rfl | rfl | rfl | rfl | rfl
        all_goals (simp [dim]; omega)
    refine ⟨hv, ?_⟩
    have := day_march _ _ dd (400 * e + Y) (mp + 3) hv (.inr ⟨by omega, rfl, rfl⟩)
    rw [d1, d2] at this
    rw [← this, Nat.add_sub_cancel]
    omega
  · have hv : Valid (400 * e + Y + 1) (mp - 9) dd := by
      refine ⟨by omega, ?_, by omega, by omega, by omega, ?_⟩
      · omega
      · rcases (show mp = 10 ∨ mp = 11 by omega) with rfl | rfl
        · simp [dim]; omega
        · rw [show 11 - 9 = 2 from rfl, dim_two]; omega
    refine ⟨hv, ?_⟩
    have := day_march _ _ dd (400 * e + Y) (mp + 3) hv (.inl ⟨by omega, by omega, by omega⟩)
    rw [d1, d2] at this
    rw [← this, Nat.add_sub_cancel]
    omega
end Go.Proofs.YthlgjbmkealjjaaGreatDoor

namespace Go.Proofs.YthlgjbmkealjjaaGreatDoor
open Go.RowKit
set_option linter.unusedVariables false

/-- What the walk asks of a year. -/
theorem leap_cases (y : Nat) :
    (((y : Int) % 4 == 0) = false ∧ ((y : Int) % 100 == 0) = false ∧ ((y : Int) % 100 != 0) = true ∧ ((y : Int) % 400 == 0) = false ∧ leap y = false) ∨
    (((y : Int) % 4 == 0) = true ∧ ((y : Int) % 100 == 0) = false ∧ ((y : Int) % 100 != 0) = true ∧ ((y : Int) % 400 == 0) = false ∧ leap y = true) ∨
    (((y : Int) % 4 == 0) = true ∧ ((y : Int) % 100 == 0) = true ∧ ((y : Int) % 100 != 0) = false ∧ ((y : Int) % 400 == 0) = true ∧ leap y = true) ∨
    (((y : Int) % 4 == 0) = true ∧ ((y : Int) % 100 == 0) = true ∧ ((y : Int) % 100 != 0) = false ∧ ((y : Int) % 400 == 0) = false ∧ leap y = false) := by
  have m1 := mod_100 y
  have m2 := mod_400 y
  have e4 : ((y : Int) % 4 == 0) = (y % 4 == 0) := by rw [Bool.eq_iff_iff]; simp; omega
  have e100 : ((y : Int) % 100 == 0) = (y % 100 == 0) := by rw [Bool.eq_iff_iff]; simp; omega
  have e400 : ((y : Int) % 400 == 0) = (y % 400 == 0) := by rw [Bool.eq_iff_iff]; simp; omega
  unfold leap
  rw [bne, e4, e100, e400]
  by_cases h4 : y % 4 = 0 <;> by_cases h100 : y % 100 = 0 <;> by_cases h400 : y % 400 = 0 <;> simp_all

theorem Leap_any (y : Nat) (w : World) (h0 : 1 ≤ y) (h1 : y ≤ 9999) :
    Calls Tryz.prog 102 #[.int .i64 y] w fun e w' => e = .returned (.bool (leap y)) ∧ w = w' := by
  have hc := leap_cases y
  generalize leap y = l at hc ⊢
  rcases hc with ⟨e1, e2, e3, e4, rfl⟩ | ⟨e1, e2, e3, e4, rfl⟩ | ⟨e1, e2, e3, e4, rfl⟩ | ⟨e1, e2, e3, e4, rfl⟩
  all_goals
    go_enter Tryz.func102, Tryz.ntmps102
    go_wp2
    go_ret
    exact ⟨rfl, rfl⟩

theorem Good_in (d : Int) (w : World) (h0 : -719162 ≤ d) (h1 : d ≤ 2932896) :
    Calls Tryz.prog 75 #[.int .i64 d] w fun e w' => e = .returned (.bool true) ∧ w = w' := by
  go_enter Tryz.func75, Tryz.ntmps75
  go_wp2
  go_ret
  exact ⟨by simp, rfl⟩
theorem Good_out (d : Int) (w : World) (h : d < -719162 ∨ 2932896 < d) :
    Calls Tryz.prog 75 #[.int .i64 d] w fun e w' => e = .returned (.bool false) ∧ w = w' := by
  rcases h with h | h
  all_goals
    go_enter Tryz.func75, Tryz.ntmps75
    go_wp2
    go_ret
    exact ⟨ret_bool (by first | omega | (simp; done) | (simp; omega)), rfl⟩

theorem Days_any (y m : Nat) (w : World) (h0 : 1 ≤ y) (h1 : y ≤ 9999) (h2 : 1 ≤ m) (h3 : m ≤ 12) :
    Calls Tryz.prog 71 #[.int .i64 y, .int .i64 m] w fun e w' => e = .returned (.int .i64 (dim y m)) ∧ w = w' := by
  have L := Lib.hid (Leap_any y w h0 h1)
  by_cases hm : m = 2
  · subst hm
    rw [show dim y 2 = if leap y then 29 else 28 from rfl]
    generalize leap y = l at L ⊢
    go_enter Tryz.func71, Tryz.ntmps71
    go_wp2_with fail
    refine L.out.mono ?_
    rintro e w' ⟨rfl, rfl⟩
    cases l
    · go_wp2
      go_ret
      exact ⟨rfl, rfl⟩
    · go_wp2
      go_ret
      exact ⟨rfl, rfl⟩
  · have hd : ∃ q, dim y m = q ∧ ((q = 30 ∧ (m = 4 ∨ m = 6 ∨ m = 9 ∨ m = 11)) ∨ (q = 31 ∧ m ≠ 4 ∧ m ≠ 6 ∧ m ≠ 9 ∧ m ≠ 11)) := by
      refine ⟨_, rfl, ?_⟩
      unfold dim
      rw [if_neg hm]
      split <;> simp_all
    obtain ⟨q, e, ⟨rfl, hq⟩ | ⟨rfl, hq⟩⟩ := hd
    · rw [e]
      clear e L
      rcases hq with rfl | rfl | rfl | rfl
      all_goals
        go_enter Tryz.func71, Tryz.ntmps71
        go_wp2
        go_ret
        exact ⟨rfl, rfl⟩
    · rw [e]
      clear e L
      have f2 : ((m : Int) == 2) = false := by simp; omega
      have f4 : ((m : Int) == 4) = false := by simp; omega
      have f6 : ((m : Int) == 6) = false := by simp; omega
      have f9 : ((m : Int) == 9) = false := by simp; omega
      have f11 : ((m : Int) == 11) = false := by simp; omega
      go_enter Tryz.func71, Tryz.ntmps71
      go_wp2
      go_ret
      exact ⟨rfl, rfl⟩

theorem ahead_any (y : Nat) (w : World) (h0 : 1 ≤ y) (h1 : y ≤ 10000) :
    Calls Tryz.prog 72 #[.int .i64 y] w fun e w' => e = .returned (.int .i64 (ahead y)) ∧ w = w' := by
  go_enter Tryz.func72, Tryz.ntmps72
  go_wp2
  go_ret
  refine ⟨ret_int ?_, rfl⟩
  unfold ahead
  omega

set_option maxHeartbeats 2000000 in
theorem length_any (y m : Nat) (w : World) (h0 : 1 ≤ y) (h1 : y ≤ 9999) (h2 : 1 ≤ m) (h3 : m ≤ 12) :
    Calls Tryz.prog 110 #[.int .i64 y, .int .i64 m] w fun e w' => e = .returned (.int .i64 (dim y m)) ∧ Below w.heap.size w w' := by
  have hb : ∀ o, Below w.heap.size w (w.alloc o) := fun o => (Below.refl _ _).alloc (Nat.le_refl _) o
  by_cases hm : m = 2
  · subst hm
    rw [show dim y 2 = if leap y then 29 else 28 from rfl]
    have hc := leap_cases y
    generalize leap y = l at hc ⊢
    rcases hc with ⟨e1, e2, e3, e4, rfl⟩ | ⟨e1, e2, e3, e4, rfl⟩ | ⟨e1, e2, e3, e4, rfl⟩ | ⟨e1, e2, e3, e4, rfl⟩
    all_goals
      go_enter Tryz.func110, Tryz.ntmps110
      go_wp2
      go_ret
      exact ⟨rfl, hb _⟩
  · rcases months m h2 h3 with rfl | rfl | rfl | rfl | rfl | rfl | rfl | rfl | rfl | rfl | rfl | rfl
    case inr.inl => exact absurd rfl hm
    all_goals
      clear hm
      go_enter Tryz.func110, Tryz.ntmps110
      go_wp2
      go_ret
      exact ⟨rfl, hb _⟩

end Go.Proofs.YthlgjbmkealjjaaGreatDoor

namespace Go.Proofs.YthlgjbmkealjjaaGreatDoor
open Go.RowKit
set_option linter.unusedVariables false

/-! ### A day by its parts -/
/-- What both answer: the day, or none. -/
def Parts (y m d : Int) : Prop := ∃ a b c : Nat, y = a ∧ m = b ∧ d = c ∧ Valid a b c
theorem not_parts {y m d : Int} (h : ¬ Parts y m d) : y < 1 ∨ (1 ≤ y ∧ 9999 < y) ∨ (1 ≤ y ∧ y ≤ 9999 ∧ m < 1) ∨ (1 ≤ y ∧ y ≤ 9999 ∧ 1 ≤ m ∧ 12 < m) ∨ (1 ≤ y ∧ y ≤ 9999 ∧ 1 ≤ m ∧ m ≤ 12 ∧ d < 1) ∨ ∃ a b : Nat, y = a ∧ m = b ∧ 1 ≤ a ∧ a ≤ 9999 ∧ 1 ≤ b ∧ b ≤ 12 ∧ 1 ≤ d ∧ (dim a b : Int) < d := by
  by_cases h1 : y < 1
  · exact .inl h1
  by_cases h2 : 9999 < y
  · exact .inr (.inl ⟨by omega, h2⟩)
  by_cases h3 : m < 1
  · exact .inr (.inr (.inl ⟨by omega, by omega, h3⟩))
  by_cases h4 : 12 < m
  · exact .inr (.inr (.inr (.inl ⟨by omega, by omega, by omega, h4⟩)))
  by_cases h5 : d < 1
  · exact .inr (.inr (.inr (.inr (.inl ⟨by omega, by omega, by omega, by omega, h5⟩))))
  obtain ⟨a, rfl⟩ := Int.eq_ofNat_of_zero_le (show 0 ≤ y by omega)
  obtain ⟨b, rfl⟩ := Int.eq_ofNat_of_zero_le (show 0 ≤ m by omega)
  obtain ⟨c, rfl⟩ := Int.eq_ofNat_of_zero_le (show 0 ≤ d by omega)
  refine .inr (.inr (.inr (.inr (.inr ⟨a, b, rfl, rfl, by omega, by omega, by omega, by omega, by omega, ?_⟩))))
  rcases Nat.lt_or_ge (dim a b) c with h6 | h6
  · omega
  · exact absurd ⟨a, b, c, rfl, rfl, rfl, by omega, by omega, by omega, by omega, by omega, h6⟩ h

theorem ret_day {a b : Int} {x : Value} (h : a = b) : Ending.returned (.tuple #[.int .i64 a, x]) = Ending.returned (.tuple #[.int .i64 b, x]) := by rw [h]

theorem Of_out (y m d : Int) (w : World) (h : ¬ Parts y m d) :
    Calls Tryz.prog 86 #[.int .i64 y, .int .i64 m, .int .i64 d] w fun e w' => e = .returned (.tuple #[.int .i64 0, .int .i64 6]) ∧ Below w.heap.size w w' := by
  rcases not_parts h with h | h | h | h | h | ⟨a, b, rfl, rfl, h1, h2, h3, h4, h5, h6⟩
  case inr.inr.inr.inr.inr =>
    have L := Lib.hid (length_any a b w h1 h2 h3 h4)
    generalize dim a b = q at L h6
    go_enter Tryz.func86, Tryz.ntmps86
    go_wp2_with fail
    refine L.out.mono ?_
    rintro e w' ⟨rfl, hb⟩
    go_wp2
    go_ret2
    exact ⟨rfl, hb⟩
  all_goals
    go_enter Tryz.func86, Tryz.ntmps86
    go_wp2
    go_ret2
    exact ⟨rfl, Below.refl _ _⟩

set_option maxRecDepth 100000 in
set_option maxHeartbeats 2000000 in
theorem Of_in (y m d : Nat) (w : World) (h : Valid y m d) :
    Calls Tryz.prog 86 #[.int .i64 y, .int .i64 m, .int .i64 d] w fun e w' => e = .returned (.tuple #[.int .i64 (dayOf y m d), .int .i64 0]) ∧ Below w.heap.size w w' := by
  have hv := Lib.hid h
  obtain ⟨h1, h2, h3, h4, h5, h6⟩ := h
  have L := Lib.hid (length_any y m w h1 h2 h3 h4)
  have h7 := (dim_le y m).2
  have H6 := Lib.hid h6
  generalize hq : dim y m = q at L h6 h7
  clear hq
  by_cases hm : m < 3
  · have hd := Lib.hid (day_march y m d (y - 1) (m + 12) hv.out (.inl ⟨hm, rfl, rfl⟩))
    obtain ⟨z, rfl⟩ : ∃ z, y = z + 1 := ⟨y - 1, by omega⟩
    go_enter Tryz.func86, Tryz.ntmps86
    go_wp2_with fail
    refine L.out.mono ?_
    rintro e w' ⟨rfl, hb⟩
    go_wp2
    go_ret2
    refine ⟨ret_day ?_, hb⟩
    rw [← hd.out]
    omega
  · have hd := Lib.hid (day_march y m d y m hv.out (.inr ⟨by omega, rfl, rfl⟩))
    go_enter Tryz.func86, Tryz.ntmps86
    go_wp2_with fail
    refine L.out.mono ?_
    rintro e w' ⟨rfl, hb⟩
    go_wp2
    go_ret2
    refine ⟨ret_day ?_, hb⟩
    rw [← hd.out]
    omega
end Go.Proofs.YthlgjbmkealjjaaGreatDoor

namespace Go.Proofs.YthlgjbmkealjjaaGreatDoor
open Go.RowKit
set_option linter.unusedVariables false


theorem refOf_out (y m d : Int) (w : World) (h : ¬ Parts y m d) :
    Calls Tryz.prog 40 #[.int .i64 y, .int .i64 m, .int .i64 d] w fun e w' => e = .returned (.tuple #[.int .i64 0, .int .i64 6]) ∧ w = w' := by
  rcases not_parts h with h | h | h | h | h | ⟨a, b, rfl, rfl, h1, h2, h3, h4, h5, h6⟩
  case inr.inr.inr.inr.inr =>
    have L := Lib.hid (Days_any a b w h1 h2 h3 h4)
    generalize dim a b = q at L h6
    go_enter Tryz.func40, Tryz.ntmps40
    go_wp2_with fail
    refine L.out.mono ?_
    rintro e w' ⟨rfl, rfl⟩
    go_wp2
    go_ret2
    exact ⟨rfl, rfl⟩
  all_goals
    go_enter Tryz.func40, Tryz.ntmps40
    go_wp2
    go_ret2
    exact ⟨rfl, rfl⟩

set_option maxRecDepth 100000 in
set_option maxHeartbeats 2000000 in
theorem refOf_in (y m d : Nat) (w : World) (h : Valid y m d) :
    Calls Tryz.prog 40 #[.int .i64 y, .int .i64 m, .int .i64 d] w fun e w' => e = .returned (.tuple #[.int .i64 (dayOf y m d), .int .i64 0]) ∧ w = w' := by
  have hv := Lib.hid h
  obtain ⟨h1, h2, h3, h4, h5, h6⟩ := h
  have L := Lib.hid (Days_any y m w h1 h2 h3 h4)
  have D := Lib.hid fun k (h3 : 1 ≤ k) (h4 : k ≤ 12) => Days_any y k w h1 h2 h3 h4
  have N := Lib.hid (ahead_any y w h1 (by omega))
  have h7 := (dim_le y m).2
  have hday : ∀ a : Nat, ahead y = a → dayOf y m d = -719162 + (a : Int) + (mon y m : Int) + d - 1 := fun a e => by rw [← e]; rfl
  have hdl := Lib.hid fun k => (dim_le y k).2
  have hms := Lib.hid fun k (h : 1 ≤ k) => mon_succ y k h
  have hal : ahead y ≤ 3652059 := by
    have e : ahead 10000 = 3652059 := by decide
    have := ahead_mono h1 (show y < 10000 by omega)
    omega
  have hm1 := Lib.hid (mon_one y)
  generalize ahead y = a at N hday hal
  have HD := Lib.hid (hday a rfl)
  clear hday
  have H6 := Lib.hid h6
  generalize hq : dim y m = q at L h6 h7
  clear hq H6
  go_enter Tryz.func40, Tryz.ntmps40
  go_wp2_with fail
  refine L.out.mono ?_
  rintro e w' ⟨rfl, rfl⟩
  go_wp2_with fail
  refine N.out.mono ?_
  rintro e w' ⟨rfl, rfl⟩
  go_wp2_with fail
  go_loop [8, 9] (fun t i => ∃ k s : Nat, 1 ≤ k ∧ k ≤ m ∧ s ≤ 31 * k ∧ Hid (mon y k = s) ∧ t = .int .i64 (-719162 + (a : Int) + s) ∧ i = .int .i64 k) (fun _ i => m - (intOf i).toNat)
  case atStart => exact ⟨1, 0, by omega, by omega, by omega, hm1, by simp, rfl⟩
  case round =>
    obtain ⟨k, s, hk1, hkm, hs, HM, rfl, rfl⟩ := hrel
    by_cases hlt : k < m
    · have E := Lib.hid (D.out k hk1 (by omega))
      have hdk := hdl.out k
      have HMS := Lib.hid (hms.out k hk1)
      generalize dim y k = r at E hdk HMS
      go_wp2_with fail
      refine E.out.mono ?_
      rintro e w' ⟨rfl, rfl⟩
      go_wp2
      go_round
      case rel => exact ⟨k + 1, s + r, by omega, by omega, by omega, by have := HMS.out; have := HM.out; show _ = _; omega, by go_num, by go_num⟩
      case measure => simp [intOf]; omega
    · have hkm' : Hid (k = m) := Lib.hid (by omega)
      go_wp2
      go_ret2
      refine ⟨ret_day ?_, rfl⟩
      have h1 := HD.out
      have h2 := HM.out
      rw [hkm'.out] at h2
      omega
end Go.Proofs.YthlgjbmkealjjaaGreatDoor
