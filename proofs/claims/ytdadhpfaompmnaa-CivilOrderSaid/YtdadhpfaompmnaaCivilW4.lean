/-
  The walk of a day's parts: Split.
-/
import Derived.Test.YtdadhpfaompmnaaCivilW
namespace Go.Proofs.Ytdadhpfaompmnaa
open Go.RowKit
set_option linter.unusedVariables false

theorem results_tmp4 {fn : Func} {t u v x : Tmp} (h : fn.results = #[.tmp t, .tmp u, .tmp v, .tmp x]) (tmps : Array Value) (P : Program) (w : World) :
    (results fn tmps).run P w = .ok (.tuple #[tmps.getD t undef, tmps.getD u undef, tmps.getD v undef, tmps.getD x undef]) w := by
  simp [results, h]

theorem ret_four {a b c a' b' c' : Int} {x : Value} (h1 : a = a') (h2 : b = b') (h3 : c = c') : Ending.returned (.tuple #[.int .i64 a, .int .i64 b, .int .i64 c, x]) = Ending.returned (.tuple #[.int .i64 a', .int .i64 b', .int .i64 c', x]) := by rw [h1, h2, h3]

theorem Split_out (d : Int) (w : World) (h : d < -719162 ∨ 2932896 < d) :
    Calls Try.prog 12 #[.int .i64 d] w fun e w' => e = .returned (.tuple #[.int .i64 0, .int .i64 0, .int .i64 0, .int .i64 6]) ∧ w = w' := by
  rcases h with h | h
  all_goals
    go_enter Try.func12, Try.ntmps12
    go_wp2
    refine bodyPost_ret (results_tmp4 rfl _ _ _) rfl ?_
    exact ⟨rfl, rfl⟩

/-- What the parts of the walk are. -/
theorem split_steps (d : Int) (h0 : -719162 ≤ d) (h1 : d ≤ 2932896) : ∃ n e o Y u mp dd : Nat, d = (n : Int) - 719468 ∧ 306 ≤ n ∧ n ≤ 3652364 ∧ (n : Int) / 146097 = e ∧ (n : Int) % 146097 = o ∧ o < 146097 ∧ e ≤ 24 ∧
    ((o : Int) - (o : Int) / 1460 + (o : Int) / 36524 - (o : Int) / 146096) / 365 = Y ∧ Y < 400 ∧ (o : Int) - (365 * (Y : Int) + (Y : Int) / 4 - (Y : Int) / 100) = u ∧ u ≤ 365 ∧ (5 * (u : Int) + 2) / 153 = mp ∧ mp ≤ 11 ∧
    (u : Int) - (153 * (mp : Int) + 2) / 5 + 1 = dd ∧ dd ≤ 31 ∧
    (mp ≤ 9 → Valid (400 * e + Y) (mp + 3) dd ∧ dayOf (400 * e + Y) (mp + 3) dd = d) ∧ (9 < mp → Valid (400 * e + Y + 1) (mp - 9) dd ∧ dayOf (400 * e + Y + 1) (mp - 9) dd = d) := by
  obtain ⟨n, hn⟩ := Int.eq_ofNat_of_zero_le (show 0 ≤ d + 719468 by omega)
  obtain ⟨c1, Y, u, hY, hY4, ho, hu⟩ := era_year (n % 146097) (Nat.mod_lt _ (by decide))
  have hq := div_ord Y
  have hl := split_law n (n / 146097) Y u ((5 * u + 2) / 153) (u - (153 * ((5 * u + 2) / 153) + 2) / 5 + 1) (by omega) (by omega) (by rw [← ho]; omega) hY4 (by rw [← ho]; exact Nat.mod_lt _ (by decide)) hu rfl rfl
  obtain ⟨l1, l2, l3, l4⟩ := hl
  have hu5 : u ≤ 365 := by split at hu <;> omega
  refine ⟨n, n / 146097, n % 146097, Y, u, (5 * u + 2) / 153, u - (153 * ((5 * u + 2) / 153) + 2) / 5 + 1, by omega, by omega, by omega, by omega, by omega, by omega, by omega, ?_, hY4, ?_, hu5, by omega, l1, ?_, by omega, ?_, ?_⟩
  · rw [← hY]
    generalize n % 146097 = o at c1
    omega
  · generalize n % 146097 = o at ho
    omega
  · generalize (5 * u + 2) / 153 = mp at l2
    omega
  · intro h; have := l3 h; rw [show d = (n : Int) - 719468 by omega]; exact this
  · intro h; have := l4 h; rw [show d = (n : Int) - 719468 by omega]; exact this

set_option maxRecDepth 100000 in
set_option maxHeartbeats 4000000 in
theorem Split_in (d : Int) (w : World) (h0 : -719162 ≤ d) (h1 : d ≤ 2932896) :
    Calls Try.prog 12 #[.int .i64 d] w fun e w' => (∃ y m a : Nat, e = .returned (.tuple #[.int .i64 y, .int .i64 m, .int .i64 a, .int .i64 0]) ∧ Valid y m a ∧ dayOf y m a = d) ∧ w = w' := by
  obtain ⟨n, e, o, Y, u, mp, dd, rfl, hn0, hn1, e1, e2, ho, he, e3, hY, e4, hu, e5, hmp, e6, hdd, l1, l2⟩ := split_steps d h0 h1
  have L1 := Lib.hid l1
  have L2 := Lib.hid l2
  clear l1 l2
  by_cases h9 : mp ≤ 9
  · obtain ⟨v1, v2⟩ := L1.out h9
    have V1 := Lib.hid v1
    have V2 := Lib.hid v2
    clear v1 v2 L1 L2
    go_enter Try.func12, Try.ntmps12
    go_wp2
    refine bodyPost_ret (results_tmp4 rfl _ _ _) rfl ?_
    exact ⟨⟨400 * e + Y, mp + 3, dd, rfl, V1.out, V2.out⟩, rfl⟩
  · obtain ⟨v1, v2⟩ := L2.out (by omega)
    have V1 := Lib.hid v1
    have V2 := Lib.hid v2
    clear v1 v2 L1 L2
    obtain ⟨k, rfl⟩ : ∃ k, mp = k + 10 := ⟨mp - 10, by omega⟩
    go_enter Try.func12, Try.ntmps12
    go_wp2
    refine bodyPost_ret (results_tmp4 rfl _ _ _) rfl ?_
    refine ⟨⟨400 * e + Y + 1, k + 10 - 9, dd, ret_four (by omega) (by omega) (by omega), V1.out, V2.out⟩, rfl⟩
end Go.Proofs.Ytdadhpfaompmnaa
