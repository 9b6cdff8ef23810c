/-
  Joined texts: CivilW4 CivilW5 CivilW6. No statement is proved here.
-/
import Derived.Test.YtcbopgopegphlaaCivA
namespace Go.Proofs.Ytcbopgopegphlaa
open Go.RowKit
set_option linter.unusedVariables false

theorem results_tmp4 {fn : Func} {t u v x : Tmp} (h : fn.results = #[.tmp t, .tmp u, .tmp v, .tmp x]) (tmps : Array Value) (P : Program) (w : World) :
    (results fn tmps).run P w = .ok (.tuple #[tmps.getD t undef, tmps.getD u undef, tmps.getD v undef, tmps.getD x undef]) w := by
  simp [results, h]

theorem ret_four {a b c a' b' c' : Int} {x : Value} (h1 : a = a') (h2 : b = b') (h3 : c = c') : Ending.returned (.tuple #[.int .i64 a, .int .i64 b, .int .i64 c, x]) = Ending.returned (.tuple #[.int .i64 a', .int .i64 b', .int .i64 c', x]) := by rw [h1, h2, h3]

theorem Split_out (d : Int) (w : World) (h : d < -719162 ∨ 2932896 < d) :
    Calls Try.prog 73 #[.int .i64 d] w fun e w' => e = .returned (.tuple #[.int .i64 0, .int .i64 0, .int .i64 0, .int .i64 6]) ∧ w = w' := by
  rcases h with h | h
  all_goals
    go_enter Try.func73, Try.ntmps73
    go_wp2
    refine bodyPost_ret (results_tmp4 rfl _ _ _) rfl ?_
    exact ⟨rfl, rfl⟩

/-- What the parts of the walk are. -/
theorem split_steps (d : Int) (h0 : -719162 ≤ d) (h1 : d ≤ 2932896) : ∃ n e o Y u mp dd : Nat, d = (n : Int) - 719468 ∧ 306 ≤ n ∧ n ≤ 3652364 ∧ (n : Int) / 146097 = e ∧ (n : Int) % 146097 = o ∧ o < 146097 ∧ e ≤ 24 ∧
    ((o : Int) - (o : Int) / 1460 + (o : Int) / 36524 - (o : Int) / 146096) / 365 = Y ∧ Y < 400 ∧ (o : Int) - (365 * (Y : Int) + (Y : Int) / 4 - (Y : Int) / 100) = u ∧ u ≤ 365 ∧ (5 * (u : Int) + 2) / 153 = mp ∧ mp ≤ 11 ∧
    (u : Int) - (153 * (mp : Int) + 2) / 5 + 1 = dd ∧ dd ≤ 31 ∧
    (mp ≤ 9 → Valid (400 * e + Y) (mp + 3) dd ∧ dayOf (400 * e + Y) (mp + 3) dd = d) ∧ (9 < mp → Valid (400 * e + Y + 1) (mp - 9) dd ∧ dayOf (400 * e + Y + 1) (mp - 9) dd = d) := by
  obtain ⟨n, hn⟩ := Int.eq_ofNat_of_zero_le (show 0 ≤ d + 719468 by omega)
  obtain ⟨c1, Y, u, hY, hY4, ho, hu⟩ := era_year (n % 146097) (Nat.mod_lt _ (by decide))
  have hq := div_ord Y
  have hl := split_law n (n / 146097) Y u ((5 * u + 2) / 153) (u - (153 * ((5 * u + 2) / 153) + 2) / 5 + 1) (by omega) (by omega) (by rw [← ho]; omega) hY4 (by rw [← ho]; exact Nat.mod_lt _ (by decide)) hu rfl rfl
  obtain ⟨l1, l2, l3, l4⟩ := hl
  have hu5 : u ≤ 365 := by split at hu <;> omega
  refine ⟨n, n / 146097, n % 146097, Y, u, (5 * u + 2) / 153, u - (153 * ((5 * u + 2) / 153) + 2) / 5 + 1, by omega, by omega, by omega, by omega, by omega, by omega, by omega, ?_, hY4, ?_, hu5, by omega, l1, ?_, by omega, ?_, ?_⟩
  · rw [← hY]
    generalize n % 146097 = o at c1
    omega
  · generalize n % 146097 = o at ho
    omega
  · generalize (5 * u + 2) / 153 = mp at l2
    omega
  · intro h; have := l3 h; rw [show d = (n : Int) - 719468 by omega]; exact this
  · intro h; have := l4 h; rw [show d = (n : Int) - 719468 by omega]; exact this

set_option maxRecDepth 100000 in
set_option maxHeartbeats 4000000 in
theorem Split_in (d : Int) (w : World) (h0 : -719162 ≤ d) (h1 : d ≤ 2932896) :
    Calls Try.prog 73 #[.int .i64 d] w fun e w' => (∃ y m a : Nat, e = .returned (.tuple #[.int .i64 y, .int .i64 m, .int .i64 a, .int .i64 0]) ∧ Valid y m a ∧ dayOf y m a = d) ∧ w = w' := by
  obtain ⟨n, e, o, Y, u, mp, dd, rfl, hn0, hn1, e1, e2, ho, he, e3, hY, e4, hu, e5, hmp, e6, hdd, l1, l2⟩ := split_steps d h0 h1
  have L1 := Lib.hid l1
  have L2 := Lib.hid l2
  clear l1 l2
  by_cases h9 : mp ≤ 9
  · obtain ⟨v1, v2⟩ := L1.out h9
    have V1 := Lib.hid v1
    have V2 := Lib.hid v2
    clear v1 v2 L1 L2
    go_enter Try.func73, Try.ntmps73
    go_wp2
    refine bodyPost_ret (results_tmp4 rfl _ _ _) rfl ?_
    exact ⟨⟨400 * e + Y, mp + 3, dd, rfl, V1.out, V2.out⟩, rfl⟩
  · obtain ⟨v1, v2⟩ := L2.out (by omega)
    have V1 := Lib.hid v1
    have V2 := Lib.hid v2
    clear v1 v2 L1 L2
    obtain ⟨k, rfl⟩ : ∃ k, mp = k + 10 := ⟨mp - 10, by omega⟩
    go_enter Try.func73, Try.ntmps73
    go_wp2
    refine bodyPost_ret (results_tmp4 rfl _ _ _) rfl ?_
    refine ⟨⟨400 * e + Y + 1, k + 10 - 9, dd, ret_four (by omega) (by omega) (by omega), V1.out, V2.out⟩, rfl⟩
end Go.Proofs.Ytcbopgopegphlaa

namespace Go.Proofs.Ytcbopgopegphlaa
open Go.RowKit
set_option linter.unusedVariables false

theorem ahead_lt (n y : Nat) (h : y = n / 366 + 1) : ahead y ≤ n := by
  subst h
  unfold ahead
  simp only [Nat.add_sub_cancel]
  have h1 := Nat.div_add_mod n 366
  generalize n / 366 = q at *
  have h2 : q / 4 - q / 100 + q / 400 ≤ q := by omega
  omega
theorem ahead_top (n y : Nat) (hy : 1 ≤ y) (hn : n ≤ 3652058) (h : ahead y ≤ n) : y ≤ 9999 := by
  rcases Nat.lt_or_ge y 10000 with h1 | h1
  · omega
  · exfalso
    have e : ahead 10000 = 3652059 := by decide
    rcases Nat.lt_or_ge 10000 y with h2 | h2
    · have := ahead_mono (by omega) h2; omega
    · obtain rfl : y = 10000 := by omega
      omega

end Go.Proofs.Ytcbopgopegphlaa

namespace Go.Proofs.Ytcbopgopegphlaa
open Go.RowKit
set_option linter.unusedVariables false

/-! ### Months later -/
def addAt (y m a : Nat) (k : Int) : Int × Int :=
  if 12 * (y : Int) + m - 1 + k < 12 ∨ 120000 ≤ 12 * (y : Int) + m - 1 + k then (0, 6)
  else (dayOf ((12 * (y : Int) + m - 1 + k).toNat / 12) ((12 * (y : Int) + m - 1 + k).toNat % 12 + 1) (min a (dim ((12 * (y : Int) + m - 1 + k).toNat / 12) ((12 * (y : Int) + m - 1 + k).toNat % 12 + 1))), 0)
/-- What Add answers of a day: by its parts. -/
def Adds (d k : Int) (e : Ending) : Prop := ∃ y m a : Nat, Valid y m a ∧ dayOf y m a = d ∧ e = .returned (.tuple #[.int .i64 (addAt y m a k).1, .int .i64 (addAt y m a k).2])
theorem addAt_in (y m a n : Nat) (k : Int) (h : 12 * (y : Int) + m - 1 + k = n) (h0 : 12 ≤ n) (h1 : n < 120000) : addAt y m a k = (dayOf (n / 12) (n % 12 + 1) (min a (dim (n / 12) (n % 12 + 1))), 0) := by
  unfold addAt
  rw [h, if_neg (by omega), Int.toNat_natCast]
theorem addAt_out (y m a : Nat) (k : Int) (h : 12 * (y : Int) + m - 1 + k < 12 ∨ 120000 ≤ 12 * (y : Int) + m - 1 + k) : addAt y m a k = (0, 6) := by
  unfold addAt
  rw [if_pos h]
theorem valid_min (n a : Nat) (h0 : 12 ≤ n) (h1 : n < 120000) (ha : 1 ≤ a) : Valid (n / 12) (n % 12 + 1) (min a (dim (n / 12) (n % 12 + 1))) := by
  have := dim_le (n / 12) (n % 12 + 1)
  exact ⟨by omega, by omega, by omega, by omega, by omega, by omega⟩

theorem Add_out (d k : Int) (w : World) (h : d < -719162 ∨ 2932896 < d) :
    Calls Try.prog 47 #[.int .i64 d, .int .i64 k] w fun e w' => e = .returned (.tuple #[.int .i64 0, .int .i64 6]) ∧ Below w.heap.size w w' := by
  go_enter Try.func47, Try.ntmps47
  go_wp2_with fail
  refine (Split_out d w h).mono ?_
  rintro e w' ⟨rfl, rfl⟩
  go_wp2
  go_ret2
  exact ⟨rfl, Below.refl _ _⟩
set_option maxHeartbeats 4000000 in
theorem Add_in (d k : Int) (w : World) (h0 : -719162 ≤ d) (h1 : d ≤ 2932896) (hk0 : -9223372036854775808 ≤ k) (hk1 : k ≤ 9223372036854775807) :
    Calls Try.prog 47 #[.int .i64 d, .int .i64 k] w fun e w' => Adds d k e ∧ Below w.heap.size w w' := by
  go_enter Try.func47, Try.ntmps47
  go_wp2_with fail
  refine (Split_in d w h0 h1).mono ?_
  rintro e w' ⟨⟨y, m, a, rfl, hv, hd⟩, rfl⟩
  have HV := Lib.hid hv
  have HD := Lib.hid hd
  obtain ⟨v1, v2, v3, v4, v5, v6⟩ := hv
  have va : a ≤ 31 := Nat.le_trans v6 (dim_le y m).2
  clear hd v6
  have HO := Lib.hid (addAt_out y m a k)
  have hfin : ∀ p q : Int, addAt y m a k = (p, q) → Adds d k (.returned (.tuple #[.int .i64 p, .int .i64 q])) := fun p q e => ⟨y, m, a, HV.out, HD.out, by rw [e]⟩
  have HFIN := Lib.hid hfin
  clear hfin
  by_cases c1 : 119988 < k
  · go_wp2
    go_ret2
    exact ⟨HFIN.out _ _ (HO.out (by omega)), Below.refl _ _⟩
  by_cases c2 : k < -119988
  · go_wp2
    go_ret2
    exact ⟨HFIN.out _ _ (HO.out (by omega)), Below.refl _ _⟩
  obtain ⟨n, hn⟩ : ∃ n : Int, (y : Int) * 12 + (m : Int) - 1 + k = n := ⟨_, rfl⟩
  by_cases c3 : n < 12
  · have hb1 : -119990 ≤ n := by omega
    have ho := HFIN.out _ _ (HO.out (by omega))
    by_cases c4 : 0 ≤ n
    · go_wp2
      go_ret2
      exact ⟨ho, Below.refl _ _⟩
    · obtain ⟨p, hp, hp0, hp1⟩ : ∃ p : Int, n.tdiv 12 = p ∧ -10000 ≤ p ∧ p ≤ 0 := by
        obtain ⟨j, rfl⟩ : ∃ j, n = -j := ⟨-n, by omega⟩
        refine ⟨_, rfl, ?_, ?_⟩ <;> (rw [Int.neg_tdiv, Int.tdiv_eq_ediv_of_nonneg (by omega)]; omega)
      obtain ⟨q, hq, hq0, hq1⟩ : ∃ p : Int, n.tmod 12 = p ∧ -12 ≤ p ∧ p ≤ 0 := by
        obtain ⟨j, rfl⟩ : ∃ j, n = -j := ⟨-n, by omega⟩
        refine ⟨_, rfl, ?_, ?_⟩ <;> (rw [Int.neg_tmod, Int.tmod_eq_emod_of_nonneg (by omega)]; omega)
      go_wp2
      go_ret2
      exact ⟨ho, Below.refl _ _⟩
  · obtain ⟨z, rfl⟩ := Int.eq_ofNat_of_zero_le (show 0 ≤ n by omega)
    have hz : z ≤ 240000 := by omega
    by_cases c4 : 120000 ≤ z
    · have ho := HFIN.out _ _ (HO.out (by omega))
      go_wp2
      go_ret2
      exact ⟨ho, Below.refl _ _⟩
    · have ho := Lib.hid (HFIN.out _ _ (addAt_in y m a z k (by omega) (by omega) (by omega)))
      have hvm := Lib.hid (valid_min z a (by omega) (by omega) v5)
      have hdl := dim_le (z / 12) (z % 12 + 1)
      have L := Lib.hid (length_any (z / 12) (z % 12 + 1) w (by omega) (by omega) (by omega) (by omega))
      generalize dim (z / 12) (z % 12 + 1) = q at ho hvm L hdl
      go_wp2_with fail
      refine L.out.mono ?_
      rintro e w' ⟨rfl, hb⟩
      by_cases hqa : q < a
      · rw [Nat.min_eq_right (by omega)] at ho hvm
        go_wp2_with fail
        refine (Of_in (z / 12) (z % 12 + 1) q w' hvm.out).mono ?_
        rintro e w2 ⟨rfl, hb2⟩
        go_wp2
        go_ret2
        exact ⟨ho.out, hb.trans (hb2.mono hb.size)⟩
      · rw [Nat.min_eq_left (by omega)] at ho hvm
        go_wp2_with fail
        refine (Of_in (z / 12) (z % 12 + 1) a w' hvm.out).mono ?_
        rintro e w2 ⟨rfl, hb2⟩
        go_wp2
        go_ret2
        exact ⟨ho.out, hb.trans (hb2.mono hb.size)⟩

end Go.Proofs.Ytcbopgopegphlaa
