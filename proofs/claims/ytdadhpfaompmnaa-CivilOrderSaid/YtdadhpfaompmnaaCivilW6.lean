/-
  The walks of Weekday and Add.
-/
import Derived.Test.YtdadhpfaompmnaaCivilW3
import Derived.Test.YtdadhpfaompmnaaCivilW5
namespace Go.Proofs.Ytdadhpfaompmnaa
open Go.RowKit
set_option linter.unusedVariables false

theorem Weekday_out (d : Int) (w : World) (h : d < -719162 ∨ 2932896 < d) :
    Calls Try.prog 16 #[.int .i64 d] w fun e w' => e = .returned (.tuple #[.int .i64 0, .int .i64 6]) ∧ w = w' := by
  rcases h with h | h
  all_goals
    go_enter Try.func16, Try.ntmps16
    go_wp2
    go_ret2
    exact ⟨rfl, rfl⟩
theorem Weekday_in (d : Int) (w : World) (h0 : -719162 ≤ d) (h1 : d ≤ 2932896) :
    Calls Try.prog 16 #[.int .i64 d] w fun e w' => e = .returned (.tuple #[.int .i64 ((d + 719162) % 7 + 1), .int .i64 0]) ∧ w = w' := by
  obtain ⟨r, hr, hr0, hr1, hr2⟩ : ∃ r : Int, (d + 3).tmod 7 = r ∧ -6 ≤ r ∧ r ≤ 6 ∧ (r + 7) % 7 + 1 = (d + 719162) % 7 + 1 := by
    refine ⟨_, rfl, ?_, ?_, ?_⟩
    all_goals
      rcases Int.le_total 0 (d + 3) with h | h
      · rw [Int.tmod_eq_emod_of_nonneg h]; omega
      · obtain ⟨k, hk⟩ : ∃ k, d + 3 = -k := ⟨-(d + 3), by omega⟩
        rw [hk, Int.neg_tmod, Int.tmod_eq_emod_of_nonneg (by omega)]; omega
  by_cases hd : 0 ≤ d + 3
  · go_enter Try.func16, Try.ntmps16
    go_wp2
    go_ret2
    refine ⟨ret_day ?_, rfl⟩
    omega
  · go_enter Try.func16, Try.ntmps16
    go_wp2
    go_ret2
    refine ⟨ret_day ?_, rfl⟩
    omega
theorem refWeekday_out (d : Int) (w : World) (h : d < -719162 ∨ 2932896 < d) :
    Calls Try.prog 17 #[.int .i64 d] w fun e w' => e = .returned (.tuple #[.int .i64 0, .int .i64 6]) ∧ w = w' := by
  go_enter Try.func17, Try.ntmps17
  go_wp2_with fail
  refine (Good_out d w h).mono ?_
  rintro e w' ⟨rfl, rfl⟩
  go_wp2
  go_ret2
  exact ⟨rfl, rfl⟩
theorem refWeekday_in (d : Int) (w : World) (h0 : -719162 ≤ d) (h1 : d ≤ 2932896) :
    Calls Try.prog 17 #[.int .i64 d] w fun e w' => e = .returned (.tuple #[.int .i64 ((d + 719162) % 7 + 1), .int .i64 0]) ∧ w = w' := by
  go_enter Try.func17, Try.ntmps17
  go_wp2_with fail
  refine (Good_in d w h0 h1).mono ?_
  rintro e w' ⟨rfl, rfl⟩
  go_wp2
  go_ret2
  exact ⟨rfl, rfl⟩

/-! ### Months later -/
def addAt (y m a : Nat) (k : Int) : Int × Int :=
  if 12 * (y : Int) + m - 1 + k < 12 ∨ 120000 ≤ 12 * (y : Int) + m - 1 + k then (0, 6)
  else (dayOf ((12 * (y : Int) + m - 1 + k).toNat / 12) ((12 * (y : Int) + m - 1 + k).toNat % 12 + 1) (min a (dim ((12 * (y : Int) + m - 1 + k).toNat / 12) ((12 * (y : Int) + m - 1 + k).toNat % 12 + 1))), 0)
/-- What Add answers of a day: by its parts. -/
def Adds (d k : Int) (e : Ending) : Prop := ∃ y m a : Nat, Valid y m a ∧ dayOf y m a = d ∧ e = .returned (.tuple #[.int .i64 (addAt y m a k).1, .int .i64 (addAt y m a k).2])
theorem addAt_in (y m a n : Nat) (k : Int) (h : 12 * (y : Int) + m - 1 + k = n) (h0 : 12 ≤ n) (h1 : n < 120000) : addAt y m a k = (dayOf (n / 12) (n % 12 + 1) (min a (dim (n / 12) (n % 12 + 1))), 0) := by
  unfold addAt
  rw [h, if_neg (by omega), Int.toNat_natCast]
theorem addAt_out (y m a : Nat) (k : Int) (h : 12 * (y : Int) + m - 1 + k < 12 ∨ 120000 ≤ 12 * (y : Int) + m - 1 + k) : addAt y m a k = (0, 6) := by
  unfold addAt
  rw [if_pos h]
theorem valid_min (n a : Nat) (h0 : 12 ≤ n) (h1 : n < 120000) (ha : 1 ≤ a) : Valid (n / 12) (n % 12 + 1) (min a (dim (n / 12) (n % 12 + 1))) := by
  have := dim_le (n / 12) (n % 12 + 1)
  exact ⟨by omega, by omega, by omega, by omega, by omega, by omega⟩

theorem Add_out (d k : Int) (w : World) (h : d < -719162 ∨ 2932896 < d) :
    Calls Try.prog 14 #[.int .i64 d, .int .i64 k] w fun e w' => e = .returned (.tuple #[.int .i64 0, .int .i64 6]) ∧ Below w.heap.size w w' := by
  go_enter Try.func14, Try.ntmps14
  go_wp2_with fail
  refine (Split_out d w h).mono ?_
  rintro e w' ⟨rfl, rfl⟩
  go_wp2
  go_ret2
  exact ⟨rfl, Below.refl _ _⟩
theorem refAdd_out (d k : Int) (w : World) (h : d < -719162 ∨ 2932896 < d) :
    Calls Try.prog 15 #[.int .i64 d, .int .i64 k] w fun e w' => e = .returned (.tuple #[.int .i64 0, .int .i64 6]) ∧ w = w' := by
  go_enter Try.func15, Try.ntmps15
  go_wp2_with fail
  refine (refSplit_out d w h).mono ?_
  rintro e w' ⟨rfl, rfl⟩
  go_wp2
  go_ret2
  exact ⟨rfl, rfl⟩

set_option maxHeartbeats 4000000 in
theorem Add_in (d k : Int) (w : World) (h0 : -719162 ≤ d) (h1 : d ≤ 2932896) (hk0 : -9223372036854775808 ≤ k) (hk1 : k ≤ 9223372036854775807) :
    Calls Try.prog 14 #[.int .i64 d, .int .i64 k] w fun e w' => Adds d k e ∧ Below w.heap.size w w' := by
  go_enter Try.func14, Try.ntmps14
  go_wp2_with fail
  refine (Split_in d w h0 h1).mono ?_
  rintro e w' ⟨⟨y, m, a, rfl, hv, hd⟩, rfl⟩
  have HV := Lib.hid hv
  have HD := Lib.hid hd
  obtain ⟨v1, v2, v3, v4, v5, v6⟩ := hv
  have va : a ≤ 31 := Nat.le_trans v6 (dim_le y m).2
  clear hd v6
  have HO := Lib.hid (addAt_out y m a k)
  have hfin : ∀ p q : Int, addAt y m a k = (p, q) → Adds d k (.returned (.tuple #[.int .i64 p, .int .i64 q])) := fun p q e => ⟨y, m, a, HV.out, HD.out, by rw [e]⟩
  have HFIN := Lib.hid hfin
  clear hfin
  by_cases c1 : 119988 < k
  · go_wp2
    go_ret2
    exact ⟨HFIN.out _ _ (HO.out (by omega)), Below.refl _ _⟩
  by_cases c2 : k < -119988
  · go_wp2
    go_ret2
    exact ⟨HFIN.out _ _ (HO.out (by omega)), Below.refl _ _⟩
  obtain ⟨n, hn⟩ : ∃ n : Int, (y : Int) * 12 + (m : Int) - 1 + k = n := ⟨_, rfl⟩
  by_cases c3 : n < 12
  · have hb1 : -119990 ≤ n := by omega
    have ho := HFIN.out _ _ (HO.out (by omega))
    by_cases c4 : 0 ≤ n
    · go_wp2
      go_ret2
      exact ⟨ho, Below.refl _ _⟩
    · obtain ⟨p, hp, hp0, hp1⟩ : ∃ p : Int, n.tdiv 12 = p ∧ -10000 ≤ p ∧ p ≤ 0 := by
        obtain ⟨j, rfl⟩ : ∃ j, n = -j := ⟨-n, by omega⟩
        refine ⟨_, rfl, ?_, ?_⟩ <;> (rw [Int.neg_tdiv, Int.tdiv_eq_ediv_of_nonneg (by omega)]; omega)
      obtain ⟨q, hq, hq0, hq1⟩ : ∃ p : Int, n.tmod 12 = p ∧ -12 ≤ p ∧ p ≤ 0 := by
        obtain ⟨j, rfl⟩ : ∃ j, n = -j := ⟨-n, by omega⟩
        refine ⟨_, rfl, ?_, ?_⟩ <;> (rw [Int.neg_tmod, Int.tmod_eq_emod_of_nonneg (by omega)]; omega)
      go_wp2
      go_ret2
      exact ⟨ho, Below.refl _ _⟩
  · obtain ⟨z, rfl⟩ := Int.eq_ofNat_of_zero_le (show 0 ≤ n by omega)
    have hz : z ≤ 240000 := by omega
    by_cases c4 : 120000 ≤ z
    · have ho := HFIN.out _ _ (HO.out (by omega))
      go_wp2
      go_ret2
      exact ⟨ho, Below.refl _ _⟩
    · have ho := Lib.hid (HFIN.out _ _ (addAt_in y m a z k (by omega) (by omega) (by omega)))
      have hvm := Lib.hid (valid_min z a (by omega) (by omega) v5)
      have hdl := dim_le (z / 12) (z % 12 + 1)
      have L := Lib.hid (length_any (z / 12) (z % 12 + 1) w (by omega) (by omega) (by omega) (by omega))
      generalize dim (z / 12) (z % 12 + 1) = q at ho hvm L hdl
      go_wp2_with fail
      refine L.out.mono ?_
      rintro e w' ⟨rfl, hb⟩
      by_cases hqa : q < a
      · rw [Nat.min_eq_right (by omega)] at ho hvm
        go_wp2_with fail
        refine (Of_in (z / 12) (z % 12 + 1) q w' hvm.out).mono ?_
        rintro e w2 ⟨rfl, hb2⟩
        go_wp2
        go_ret2
        exact ⟨ho.out, hb.trans (hb2.mono hb.size)⟩
      · rw [Nat.min_eq_left (by omega)] at ho hvm
        go_wp2_with fail
        refine (Of_in (z / 12) (z % 12 + 1) a w' hvm.out).mono ?_
        rintro e w2 ⟨rfl, hb2⟩
        go_wp2
        go_ret2
        exact ⟨ho.out, hb.trans (hb2.mono hb.size)⟩

set_option maxHeartbeats 4000000 in
theorem refAdd_in (d k : Int) (w : World) (h0 : -719162 ≤ d) (h1 : d ≤ 2932896) (hk0 : -9223372036854775808 ≤ k) (hk1 : k ≤ 9223372036854775807) :
    Calls Try.prog 15 #[.int .i64 d, .int .i64 k] w fun e w' => Adds d k e ∧ w = w' := by
  go_enter Try.func15, Try.ntmps15
  go_wp2_with fail
  refine (refSplit_in d w h0 h1).mono ?_
  rintro e w' ⟨⟨y, m, a, rfl, hv, hd⟩, rfl⟩
  have HV := Lib.hid hv
  have HD := Lib.hid hd
  obtain ⟨v1, v2, v3, v4, v5, v6⟩ := hv
  have va : a ≤ 31 := Nat.le_trans v6 (dim_le y m).2
  clear hd v6
  have HO := Lib.hid (addAt_out y m a k)
  have hfin : ∀ p q : Int, addAt y m a k = (p, q) → Adds d k (.returned (.tuple #[.int .i64 p, .int .i64 q])) := fun p q e => ⟨y, m, a, HV.out, HD.out, by rw [e]⟩
  have HFIN := Lib.hid hfin
  clear hfin
  by_cases c1 : 200000 < k
  · go_wp2
    go_ret2
    exact ⟨HFIN.out _ _ (HO.out (by omega)), rfl⟩
  by_cases c2 : k < -200000
  · go_wp2
    go_ret2
    exact ⟨HFIN.out _ _ (HO.out (by omega)), rfl⟩
  obtain ⟨n, hn⟩ : ∃ n : Int, 12 * (y : Int) + (m : Int) - 1 + k = n := ⟨_, rfl⟩
  by_cases c3 : n < 12
  · have ho := HFIN.out _ _ (HO.out (by omega))
    go_wp2
    go_ret2
    exact ⟨ho, rfl⟩
  · obtain ⟨z, rfl⟩ := Int.eq_ofNat_of_zero_le (show 0 ≤ n by omega)
    have hz : z ≤ 400000 := by omega
    by_cases c4 : 120000 ≤ z
    · have ho := HFIN.out _ _ (HO.out (by omega))
      go_wp2
      go_ret2
      exact ⟨ho, rfl⟩
    · have ho := Lib.hid (HFIN.out _ _ (addAt_in y m a z k (by omega) (by omega) (by omega)))
      have hvm := Lib.hid (valid_min z a (by omega) (by omega) v5)
      have hdl := dim_le (z / 12) (z % 12 + 1)
      have L := Lib.hid (Days_any (z / 12) (z % 12 + 1) w (by omega) (by omega) (by omega) (by omega))
      generalize dim (z / 12) (z % 12 + 1) = q at ho hvm L hdl
      go_wp2_with fail
      refine L.out.mono ?_
      rintro e w' ⟨rfl, rfl⟩
      by_cases hqa : q < a
      · rw [Nat.min_eq_right (by omega)] at ho hvm
        go_wp2_with fail
        refine (refOf_in (z / 12) (z % 12 + 1) q w hvm.out).mono ?_
        rintro e w2 ⟨rfl, rfl⟩
        go_wp2
        go_ret2
        exact ⟨ho.out, rfl⟩
      · rw [Nat.min_eq_left (by omega)] at ho hvm
        go_wp2_with fail
        refine (refOf_in (z / 12) (z % 12 + 1) a w hvm.out).mono ?_
        rintro e w2 ⟨rfl, rfl⟩
        go_wp2
        go_ret2
        exact ⟨ho.out, rfl⟩
end Go.Proofs.Ytdadhpfaompmnaa
