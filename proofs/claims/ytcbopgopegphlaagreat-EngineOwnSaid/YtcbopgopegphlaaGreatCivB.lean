/-
  Joined texts: CivilW4 CivilW5 CivilW6. No statement is proved here.
-/
import Derived.Test.YtcbopgopegphlaaGreatCivA
namespace Go.Proofs.YtcbopgopegphlaaGreat
open Go.RowKit
set_option linter.unusedVariables false

theorem results_tmp4 {fn : Func} {t u v x : Tmp} (h : fn.results = #[.tmp t, .tmp u, .tmp v, .tmp x]) (tmps : Array Value) (P : Program) (w : World) :
    (results fn tmps).run P w = .ok (.tuple #[tmps.getD t undef, tmps.getD u undef, tmps.getD v undef, tmps.getD x undef]) w := by
  simp [results, h]

theorem ret_four {a b c a' b' c' : Int} {x : Value} (h1 : a = a') (h2 : b = b') (h3 : c = c') : Ending.returned (.tuple #[.int .i64 a, .int .i64 b, .int .i64 c, x]) = Ending.returned (.tuple #[.int .i64 a', .int .i64 b', .int .i64 c', x]) := by rw [h1, h2, h3]

theorem Split_out (d : Int) (w : World) (h : d < -719162 ∨ 2932896 < d) :
    Calls Tryz.prog 97 #[.int .i64 d] w fun e w' => e = .returned (.tuple #[.int .i64 0, .int .i64 0, .int .i64 0, .int .i64 6]) ∧ w = w' := by
  rcases h with h | h
  all_goals
    go_enter Tryz.func97, Tryz.ntmps97
    go_wp2
    refine bodyPost_ret (results_tmp4 rfl _ _ _) rfl ?_
    exact ⟨rfl, rfl⟩

/-- What the parts of the walk are. -/
theorem split_steps (d : Int) (h0 : -719162 ≤ d) (h1 : d ≤ 2932896) : ∃ n e o Y u mp dd : Nat, d = (n : Int) - 719468 ∧ 306 ≤ n ∧ n ≤ 3652364 ∧ (n : Int) / 146097 = e ∧ (n : Int) % 146097 = o ∧ o < 146097 ∧ e ≤ 24 ∧
    ((o : Int) - (o : Int) / 1460 + (o : Int) / 36524 - (o : Int) / 146096) / 365 = Y ∧ Y < 400 ∧ (o : Int) - (365 * (Y : Int) + (Y : Int) / 4 - (Y : Int) / 100) = u ∧ u ≤ 365 ∧ (5 * (u : Int) + 2) / 153 = mp ∧ mp ≤ 11 ∧
    (u : Int) - (153 * (mp : Int) + 2) / 5 + 1 = dd ∧ dd ≤ 31 ∧
    (mp ≤ 9 → Valid (400 * e + Y) (mp + 3) dd ∧ dayOf (400 * e + Y) (mp + 3) dd = d) ∧ (9 < mp → Valid (400 * e + Y + 1) (mp - 9) dd ∧ dayOf (400 * e + Y + 1) (mp - 9) dd = d) := by
  obtain ⟨n, hn⟩ := Int.eq_ofNat_of_zero_le (show 0 ≤ d + 719468 by omega)
  obtain ⟨c1, Y, u, hY, hY4, ho, hu⟩ := era_year (n % 146097) (Nat.mod_lt _ (by decide))
  have hq := div_ord Y
  have hl := split_law n (n / 146097) Y u ((5 * u + 2) / 153) (u - (153 * ((5 * u + 2) / 153) + 2) / 5 + 1) (by omega) (by omega) (by rw [← ho]; omega) hY4 (by rw [← ho]; exact Nat.mod_lt _ (by decide)) hu rfl rfl
  obtain ⟨l1, l2, l3, l4⟩ := hl
  have hu5 : u ≤ 365 := by split at hu <;> omega
  refine ⟨n, n / 146097, n % 146097, Y, u, (5 * u + 2) / 153, u - (153 * ((5 * u + 2) / 153) + 2) / 5 + 1, by omega, by omega, by omega, by omega, by omega, by omega, by omega, ?_, hY4, ?_, hu5, by omega, l1, ?_, by omega, ?_, ?_⟩
  · rw [← hY]
    generalize n % 146097 = o at c1
    omega
  · generalize n % 146097 = o at ho
    omega
  · generalize (5 * u + 2) / 153 = mp at l2
    omega
  · intro h; have := l3 h; rw [show d = (n : Int) - 719468 by omega]; exact this
  · intro h; have := l4 h; rw [show d = (n : Int) - 719468 by omega]; exact this

set_option maxRecDepth 100000 in
set_option maxHeartbeats 4000000 in
theorem Split_in (d : Int) (w : World) (h0 : -719162 ≤ d) (h1 : d ≤ 2932896) :
    Calls Tryz.prog 97 #[.int .i64 d] w fun e w' => (∃ y m a : Nat, e = .returned (.tuple #[.int .i64 y, .int .i64 m, .int .i64 a, .int .i64 0]) ∧ Valid y m a ∧ dayOf y m a = d) ∧ w = w' := by
  obtain ⟨n, e, o, Y, u, mp, dd, rfl, hn0, hn1, e1, e2, ho, he, e3, hY, e4, hu, e5, hmp, e6, hdd, l1, l2⟩ := split_steps d h0 h1
  have L1 := Lib.hid l1
  have L2 := Lib.hid l2
  clear l1 l2
  by_cases h9 : mp ≤ 9
  · obtain ⟨v1, v2⟩ := L1.out h9
    have V1 := Lib.hid v1
    have V2 := Lib.hid v2
    clear v1 v2 L1 L2
    go_enter Tryz.func97, Tryz.ntmps97
    go_wp2
    refine bodyPost_ret (results_tmp4 rfl _ _ _) rfl ?_
    exact ⟨⟨400 * e + Y, mp + 3, dd, rfl, V1.out, V2.out⟩, rfl⟩
  · obtain ⟨v1, v2⟩ := L2.out (by omega)
    have V1 := Lib.hid v1
    have V2 := Lib.hid v2
    clear v1 v2 L1 L2
    obtain ⟨k, rfl⟩ : ∃ k, mp = k + 10 := ⟨mp - 10, by omega⟩
    go_enter Tryz.func97, Tryz.ntmps97
    go_wp2
    refine bodyPost_ret (results_tmp4 rfl _ _ _) rfl ?_
    refine ⟨⟨400 * e + Y + 1, k + 10 - 9, dd, ret_four (by omega) (by omega) (by omega), V1.out, V2.out⟩, rfl⟩
end Go.Proofs.YtcbopgopegphlaaGreat

namespace Go.Proofs.YtcbopgopegphlaaGreat
open Go.RowKit
set_option linter.unusedVariables false

theorem refSplit_out (d : Int) (w : World) (h : d < -719162 ∨ 2932896 < d) :
    Calls Tryz.prog 81 #[.int .i64 d] w fun e w' => e = .returned (.tuple #[.int .i64 0, .int .i64 0, .int .i64 0, .int .i64 6]) ∧ w = w' := by
  go_enter Tryz.func81, Tryz.ntmps81
  go_wp2_with fail
  refine (Good_out d w h).mono ?_
  rintro e w' ⟨rfl, rfl⟩
  go_wp2
  refine bodyPost_ret (results_tmp4 rfl _ _ _) rfl ?_
  exact ⟨rfl, rfl⟩

theorem ahead_lt (n y : Nat) (h : y = n / 366 + 1) : ahead y ≤ n := by
  subst h
  unfold ahead
  simp only [Nat.add_sub_cancel]
  have h1 := Nat.div_add_mod n 366
  generalize n / 366 = q at *
  have h2 : q / 4 - q / 100 + q / 400 ≤ q := by omega
  omega
theorem ahead_top (n y : Nat) (hy : 1 ≤ y) (hn : n ≤ 3652058) (h : ahead y ≤ n) : y ≤ 9999 := by
  rcases Nat.lt_or_ge y 10000 with h1 | h1
  · omega
  · exfalso
    have e : ahead 10000 = 3652059 := by decide
    rcases Nat.lt_or_ge 10000 y with h2 | h2
    · have := ahead_mono (by omega) h2; omega
    · obtain rfl : y = 10000 := by omega
      omega

set_option maxRecDepth 100000 in
set_option maxHeartbeats 4000000 in
theorem refSplit_in (d : Int) (w : World) (h0 : -719162 ≤ d) (h1 : d ≤ 2932896) :
    Calls Tryz.prog 81 #[.int .i64 d] w fun e w' => (∃ y m a : Nat, e = .returned (.tuple #[.int .i64 y, .int .i64 m, .int .i64 a, .int .i64 0]) ∧ Valid y m a ∧ dayOf y m a = d) ∧ w = w' := by
  obtain ⟨n, hn⟩ := Int.eq_ofNat_of_zero_le (show 0 ≤ d + 719162 by omega)
  obtain rfl : d = (n : Int) - 719162 := by omega
  have hn2 : n ≤ 3652058 := by omega
  clear hn
  have A := Lib.hid fun y w (h : 1 ≤ y) (h1 : y ≤ 10000) => ahead_any y w h h1
  have D := Lib.hid fun y m w (h0 : 1 ≤ y) (h1 : y ≤ 9999) (h2 : 1 ≤ m) (h3 : m ≤ 12) => Days_any y m w h0 h1 h2 h3
  have T := Lib.hid fun y (hy : 1 ≤ y) (h : ahead y ≤ n) => ahead_top n y hy hn2 h
  have HA := Lib.hid (ahead_lt n (n / 366 + 1) rfl)
  go_enter Tryz.func81, Tryz.ntmps81
  go_wp2_with fail
  refine (Good_in _ w h0 h1).mono ?_
  rintro e w' ⟨rfl, rfl⟩
  go_wp2
  go_loop [7] (fun i => ∃ y : Nat, 1 ≤ y ∧ Hid (ahead y ≤ n) ∧ i = .int .i64 y) (fun i => 10000 - (intOf i).toNat)
  case atStart => exact ⟨n / 366 + 1, by omega, HA, by go_num⟩
  case round =>
    obtain ⟨y, hy1, hya, rfl⟩ := hrel
    have hy2 := T.out y hy1 hya.out
    have hsucc := Lib.hid (ahead_succ y hy1)
    have P := Lib.hid (A.out (y + 1) w (by omega) (by omega))
    have PY := Lib.hid (A.out y w hy1 (by omega))
    generalize hz : ahead (y + 1) = z at P hsucc
    have HZ := Lib.hid hz
    clear hz
    go_wp2_with fail
    refine P.out.mono ?_
    rintro e w' ⟨rfl, rfl⟩
    by_cases hlt : z ≤ n
    · go_wp2
      go_round
      case rel => exact ⟨y + 1, by omega, by rw [HZ.out]; exact hlt, by go_num⟩
      case measure => simp [intOf]; omega
    · go_wp2_with fail
      refine PY.out.mono ?_
      rintro e w' ⟨rfl, rfl⟩
      obtain ⟨r, hr, hrn⟩ : ∃ r : Nat, (n : Int) - (ahead y : Int) = r ∧ n = ahead y + r := ⟨n - ahead y, by have := hya.out; omega, by have := hya.out; omega⟩
      have HR := Lib.hid hrn
      have hrl : r < 365 + lp y := by have := hsucc.out; omega
      have hpl := lp_le y
      have HRL := Lib.hid hrl
      have hr366 : r ≤ 365 := by omega
      clear hrl hpl hrn hlt
      clear PY hsucc HZ P T A
      generalize hya2 : ahead y = a at hr
      have HYA2 := Lib.hid hya2
      clear hya2
      go_wp2
      go_loop [6, 8] (fun t i => ∃ s m : Nat, 1 ≤ m ∧ m ≤ 12 ∧ s ≤ 365 ∧ Hid (mon y m + s = r) ∧ t = .int .i64 s ∧ i = .int .i64 m) (fun t _ => (intOf t).toNat)
      case atStart => exact ⟨r, 1, by omega, by omega, hr366, by rw [mon_one]; exact Lib.hid (by omega), rfl, rfl⟩
      case round =>
        obtain ⟨s, m, hm1, hm2, hs, HM, rfl, rfl⟩ := hrel
        have E := Lib.hid (D.out y m w hy1 hy2 hm1 hm2)
        have hq := dim_le y m
        have HQ : Hid (∀ q, dim y m = q → (q ≤ s → m < 12 ∧ mon y (m + 1) + (s - q) = r) ∧ (s < q → Valid y m (s + 1) ∧ dayOf y m (s + 1) = (n : Int) - 719162)) := Lib.hid (by
          intro q e
          refine ⟨fun h => ?_, fun h => ⟨⟨hy1, hy2, hm1, hm2, by omega, by omega⟩, ?_⟩⟩
          · have h1 := mon_succ y m hm1
            have h2 := HM.out
            refine ⟨?_, by omega⟩
            rcases Nat.lt_or_ge m 12 with h3 | h3
            · exact h3
            · obtain rfl : m = 12 := by omega
              have h4 : mon y (12 + 1) = 365 + lp y := (mons y).2.2.2.2.2.2.2.2.2.2.2.2
              have h5 := HRL.out
              omega
          · unfold dayOf
            have h2 := HM.out
            have h3 := HR.out
            omega)
        generalize dim y m = q at E hq HQ
        have HQ1 := Lib.hid (HQ.out q rfl)
        clear HQ
        go_wp2_with fail
        refine E.out.mono ?_
        rintro e w' ⟨rfl, rfl⟩
        by_cases hlt2 : q ≤ s
        · obtain ⟨g1, g2⟩ := HQ1.out.1 hlt2
          have G2 := Lib.hid g2
          clear g2 HQ1
          go_wp2_with fail
          refine E.out.mono ?_
          rintro e w' ⟨rfl, rfl⟩
          go_wp2
          go_round
          case rel => exact ⟨s - q, m + 1, by omega, by omega, by omega, G2, by go_num, by go_num⟩
          case measure => simp [intOf]; omega
        · have G := Lib.hid (HQ1.out.2 (by omega))
          clear HQ1
          go_wp2
          refine bodyPost_ret (results_tmp4 rfl _ _ _) rfl ?_
          exact ⟨⟨y, m, s + 1, rfl, G.out.1, G.out.2⟩, rfl⟩
end Go.Proofs.YtcbopgopegphlaaGreat

namespace Go.Proofs.YtcbopgopegphlaaGreat
open Go.RowKit
set_option linter.unusedVariables false

/-! ### Months later -/
def addAt (y m a : Nat) (k : Int) : Int × Int :=
  if 12 * (y : Int) + m - 1 + k < 12 ∨ 120000 ≤ 12 * (y : Int) + m - 1 + k then (0, 6)
  else (dayOf ((12 * (y : Int) + m - 1 + k).toNat / 12) ((12 * (y : Int) + m - 1 + k).toNat % 12 + 1) (min a (dim ((12 * (y : Int) + m - 1 + k).toNat / 12) ((12 * (y : Int) + m - 1 + k).toNat % 12 + 1))), 0)
/-- What Add answers of a day: by its parts. -/
def Adds (d k : Int) (e : Ending) : Prop := ∃ y m a : Nat, Valid y m a ∧ dayOf y m a = d ∧ e = .returned (.tuple #[.int .i64 (addAt y m a k).1, .int .i64 (addAt y m a k).2])
theorem addAt_in (y m a n : Nat) (k : Int) (h : 12 * (y : Int) + m - 1 + k = n) (h0 : 12 ≤ n) (h1 : n < 120000) : addAt y m a k = (dayOf (n / 12) (n % 12 + 1) (min a (dim (n / 12) (n % 12 + 1))), 0) := by
  unfold addAt
  rw [h, if_neg (by omega), Int.toNat_natCast]
theorem addAt_out (y m a : Nat) (k : Int) (h : 12 * (y : Int) + m - 1 + k < 12 ∨ 120000 ≤ 12 * (y : Int) + m - 1 + k) : addAt y m a k = (0, 6) := by
  unfold addAt
  rw [if_pos h]
theorem valid_min (n a : Nat) (h0 : 12 ≤ n) (h1 : n < 120000) (ha : 1 ≤ a) : Valid (n / 12) (n % 12 + 1) (min a (dim (n / 12) (n % 12 + 1))) := by
  have := dim_le (n / 12) (n % 12 + 1)
  exact ⟨by omega, by omega, by omega, by omega, by omega, by omega⟩

theorem Add_out (d k : Int) (w : World) (h : d < -719162 ∨ 2932896 < d) :
    Calls Tryz.prog 63 #[.int .i64 d, .int .i64 k] w fun e w' => e = .returned (.tuple #[.int .i64 0, .int .i64 6]) ∧ Below w.heap.size w w' := by
  go_enter Tryz.func63, Tryz.ntmps63
  go_wp2_with fail
  refine (Split_out d w h).mono ?_
  rintro e w' ⟨rfl, rfl⟩
  go_wp2
  go_ret2
  exact ⟨rfl, Below.refl _ _⟩
theorem refAdd_out (d k : Int) (w : World) (h : d < -719162 ∨ 2932896 < d) :
    Calls Tryz.prog 56 #[.int .i64 d, .int .i64 k] w fun e w' => e = .returned (.tuple #[.int .i64 0, .int .i64 6]) ∧ w = w' := by
  go_enter Tryz.func56, Tryz.ntmps56
  go_wp2_with fail
  refine (refSplit_out d w h).mono ?_
  rintro e w' ⟨rfl, rfl⟩
  go_wp2
  go_ret2
  exact ⟨rfl, rfl⟩

set_option maxHeartbeats 4000000 in
theorem Add_in (d k : Int) (w : World) (h0 : -719162 ≤ d) (h1 : d ≤ 2932896) (hk0 : -9223372036854775808 ≤ k) (hk1 : k ≤ 9223372036854775807) :
    Calls Tryz.prog 63 #[.int .i64 d, .int .i64 k] w fun e w' => Adds d k e ∧ Below w.heap.size w w' := by
  go_enter Tryz.func63, Tryz.ntmps63
  go_wp2_with fail
  refine (Split_in d w h0 h1).mono ?_
  rintro e w' ⟨⟨y, m, a, rfl, hv, hd⟩, rfl⟩
  have HV := Lib.hid hv
  have HD := Lib.hid hd
  obtain ⟨v1, v2, v3, v4, v5, v6⟩ := hv
  have va : a ≤ 31 := Nat.le_trans v6 (dim_le y m).2
  clear hd v6
  have HO := Lib.hid (addAt_out y m a k)
  have hfin : ∀ p q : Int, addAt y m a k = (p, q) → Adds d k (.returned (.tuple #[.int .i64 p, .int .i64 q])) := fun p q e => ⟨y, m, a, HV.out, HD.out, by rw [e]⟩
  have HFIN := Lib.hid hfin
  clear hfin
  by_cases c1 : 119988 < k
  · go_wp2
    go_ret2
    exact ⟨HFIN.out _ _ (HO.out (by omega)), Below.refl _ _⟩
  by_cases c2 : k < -119988
  · go_wp2
    go_ret2
    exact ⟨HFIN.out _ _ (HO.out (by omega)), Below.refl _ _⟩
  obtain ⟨n, hn⟩ : ∃ n : Int, (y : Int) * 12 + (m : Int) - 1 + k = n := ⟨_, rfl⟩
  by_cases c3 : n < 12
  · have hb1 : -119990 ≤ n := by omega
    have ho := HFIN.out _ _ (HO.out (by omega))
    by_cases c4 : 0 ≤ n
    · go_wp2
      go_ret2
      exact ⟨ho, Below.refl _ _⟩
    · obtain ⟨p, hp, hp0, hp1⟩ : ∃ p : Int, n.tdiv 12 = p ∧ -10000 ≤ p ∧ p ≤ 0 := by
        obtain ⟨j, rfl⟩ : ∃ j, n = -j := ⟨-n, by omega⟩
        refine ⟨_, rfl, ?_, ?_⟩ <;> (rw [Int.neg_tdiv, Int.tdiv_eq_ediv_of_nonneg (by omega)]; omega)
      obtain ⟨q, hq, hq0, hq1⟩ : ∃ p : Int, n.tmod 12 = p ∧ -12 ≤ p ∧ p ≤ 0 := by
        obtain ⟨j, rfl⟩ : ∃ j, n = -j := ⟨-n, by omega⟩
        refine ⟨_, rfl, ?_, ?_⟩ <;> (rw [Int.neg_tmod, Int.tmod_eq_emod_of_nonneg (by omega)]; omega)
      go_wp2
      go_ret2
      exact ⟨ho, Below.refl _ _⟩
  · obtain ⟨z, rfl⟩ := Int.eq_ofNat_of_zero_le (show 0 ≤ n by omega)
    have hz : z ≤ 240000 := by omega
    by_cases c4 : 120000 ≤ z
    · have ho := HFIN.out _ _ (HO.out (by omega))
      go_wp2
      go_ret2
      exact ⟨ho, Below.refl _ _⟩
    · have ho := Lib.hid (HFIN.out _ _ (addAt_in y m a z k (by omega) (by omega) (by omega)))
      have hvm := Lib.hid (valid_min z a (by omega) (by omega) v5)
      have hdl := dim_le (z / 12) (z % 12 + 1)
      have L := Lib.hid (length_any (z / 12) (z % 12 + 1) w (by omega) (by omega) (by omega) (by omega))
      generalize dim (z / 12) (z % 12 + 1) = q at ho hvm L hdl
      go_wp2_with fail
      refine L.out.mono ?_
      rintro e w' ⟨rfl, hb⟩
      by_cases hqa : q < a
      · rw [Nat.min_eq_right (by omega)] at ho hvm
        go_wp2_with fail
        refine (Of_in (z / 12) (z % 12 + 1) q w' hvm.out).mono ?_
        rintro e w2 ⟨rfl, hb2⟩
        go_wp2
        go_ret2
        exact ⟨ho.out, hb.trans (hb2.mono hb.size)⟩
      · rw [Nat.min_eq_left (by omega)] at ho hvm
        go_wp2_with fail
        refine (Of_in (z / 12) (z % 12 + 1) a w' hvm.out).mono ?_
        rintro e w2 ⟨rfl, hb2⟩
        go_wp2
        go_ret2
        exact ⟨ho.out, hb.trans (hb2.mono hb.size)⟩

set_option maxHeartbeats 4000000 in
theorem refAdd_in (d k : Int) (w : World) (h0 : -719162 ≤ d) (h1 : d ≤ 2932896) (hk0 : -9223372036854775808 ≤ k) (hk1 : k ≤ 9223372036854775807) :
    Calls Tryz.prog 56 #[.int .i64 d, .int .i64 k] w fun e w' => Adds d k e ∧ w = w' := by
  go_enter Tryz.func56, Tryz.ntmps56
  go_wp2_with fail
  refine (refSplit_in d w h0 h1).mono ?_
  rintro e w' ⟨⟨y, m, a, rfl, hv, hd⟩, rfl⟩
  have HV := Lib.hid hv
  have HD := Lib.hid hd
  obtain ⟨v1, v2, v3, v4, v5, v6⟩ := hv
  have va : a ≤ 31 := Nat.le_trans v6 (dim_le y m).2
  clear hd v6
  have HO := Lib.hid (addAt_out y m a k)
  have hfin : ∀ p q : Int, addAt y m a k = (p, q) → Adds d k (.returned (.tuple #[.int .i64 p, .int .i64 q])) := fun p q e => ⟨y, m, a, HV.out, HD.out, by rw [e]⟩
  have HFIN := Lib.hid hfin
  clear hfin
  by_cases c1 : 200000 < k
  · go_wp2
    go_ret2
    exact ⟨HFIN.out _ _ (HO.out (by omega)), rfl⟩
  by_cases c2 : k < -200000
  · go_wp2
    go_ret2
    exact ⟨HFIN.out _ _ (HO.out (by omega)), rfl⟩
  obtain ⟨n, hn⟩ : ∃ n : Int, 12 * (y : Int) + (m : Int) - 1 + k = n := ⟨_, rfl⟩
  by_cases c3 : n < 12
  · have ho := HFIN.out _ _ (HO.out (by omega))
    go_wp2
    go_ret2
    exact ⟨ho, rfl⟩
  · obtain ⟨z, rfl⟩ := Int.eq_ofNat_of_zero_le (show 0 ≤ n by omega)
    have hz : z ≤ 400000 := by omega
    by_cases c4 : 120000 ≤ z
    · have ho := HFIN.out _ _ (HO.out (by omega))
      go_wp2
      go_ret2
      exact ⟨ho, rfl⟩
    · have ho := Lib.hid (HFIN.out _ _ (addAt_in y m a z k (by omega) (by omega) (by omega)))
      have hvm := Lib.hid (valid_min z a (by omega) (by omega) v5)
      have hdl := dim_le (z / 12) (z % 12 + 1)
      have L := Lib.hid (Days_any (z / 12) (z % 12 + 1) w (by omega) (by omega) (by omega) (by omega))
      generalize dim (z / 12) (z % 12 + 1) = q at ho hvm L hdl
      go_wp2_with fail
      refine L.out.mono ?_
      rintro e w' ⟨rfl, rfl⟩
      by_cases hqa : q < a
      · rw [Nat.min_eq_right (by omega)] at ho hvm
        go_wp2_with fail
        refine (refOf_in (z / 12) (z % 12 + 1) q w hvm.out).mono ?_
        rintro e w2 ⟨rfl, rfl⟩
        go_wp2
        go_ret2
        exact ⟨ho.out, rfl⟩
      · rw [Nat.min_eq_left (by omega)] at ho hvm
        go_wp2_with fail
        refine (refOf_in (z / 12) (z % 12 + 1) a w hvm.out).mono ?_
        rintro e w2 ⟨rfl, rfl⟩
        go_wp2
        go_ret2
        exact ⟨ho.out, rfl⟩
end Go.Proofs.YtcbopgopegphlaaGreat
