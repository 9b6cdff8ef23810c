/-
  The walk of a day's parts: the reference's Split.
-/
import Derived.Test.YtdadhpfaompmnaaCivilW4
namespace Go.Proofs.Ytdadhpfaompmnaa
open Go.RowKit
set_option linter.unusedVariables false

theorem refSplit_out (d : Int) (w : World) (h : d < -719162 ∨ 2932896 < d) :
    Calls Try.prog 13 #[.int .i64 d] w fun e w' => e = .returned (.tuple #[.int .i64 0, .int .i64 0, .int .i64 0, .int .i64 6]) ∧ w = w' := by
  go_enter Try.func13, Try.ntmps13
  go_wp2_with fail
  refine (Good_out d w h).mono ?_
  rintro e w' ⟨rfl, rfl⟩
  go_wp2
  refine bodyPost_ret (results_tmp4 rfl _ _ _) rfl ?_
  exact ⟨rfl, rfl⟩

theorem ahead_lt (n y : Nat) (h : y = n / 366 + 1) : ahead y ≤ n := by
  subst h
  unfold ahead
  simp only [Nat.add_sub_cancel]
  have h1 := Nat.div_add_mod n 366
  generalize n / 366 = q at *
  have h2 : q / 4 - q / 100 + q / 400 ≤ q := by omega
  omega
theorem ahead_top (n y : Nat) (hy : 1 ≤ y) (hn : n ≤ 3652058) (h : ahead y ≤ n) : y ≤ 9999 := by
  rcases Nat.lt_or_ge y 10000 with h1 | h1
  · omega
  · exfalso
    have e : ahead 10000 = 3652059 := by decide
    rcases Nat.lt_or_ge 10000 y with h2 | h2
    · have := ahead_mono (by omega) h2; omega
    · obtain rfl : y = 10000 := by omega
      omega

set_option maxRecDepth 100000 in
set_option maxHeartbeats 4000000 in
theorem refSplit_in (d : Int) (w : World) (h0 : -719162 ≤ d) (h1 : d ≤ 2932896) :
    Calls Try.prog 13 #[.int .i64 d] w fun e w' => (∃ y m a : Nat, e = .returned (.tuple #[.int .i64 y, .int .i64 m, .int .i64 a, .int .i64 0]) ∧ Valid y m a ∧ dayOf y m a = d) ∧ w = w' := by
  obtain ⟨n, hn⟩ := Int.eq_ofNat_of_zero_le (show 0 ≤ d + 719162 by omega)
  obtain rfl : d = (n : Int) - 719162 := by omega
  have hn2 : n ≤ 3652058 := by omega
  clear hn
  have A := Lib.hid fun y w (h : 1 ≤ y) (h1 : y ≤ 10000) => ahead_any y w h h1
  have D := Lib.hid fun y m w (h0 : 1 ≤ y) (h1 : y ≤ 9999) (h2 : 1 ≤ m) (h3 : m ≤ 12) => Days_any y m w h0 h1 h2 h3
  have T := Lib.hid fun y (hy : 1 ≤ y) (h : ahead y ≤ n) => ahead_top n y hy hn2 h
  have HA := Lib.hid (ahead_lt n (n / 366 + 1) rfl)
  go_enter Try.func13, Try.ntmps13
  go_wp2_with fail
  refine (Good_in _ w h0 h1).mono ?_
  rintro e w' ⟨rfl, rfl⟩
  go_wp2
  go_loop [7] (fun i => ∃ y : Nat, 1 ≤ y ∧ Hid (ahead y ≤ n) ∧ i = .int .i64 y) (fun i => 10000 - (intOf i).toNat)
  case atStart => exact ⟨n / 366 + 1, by omega, HA, by go_num⟩
  case round =>
    obtain ⟨y, hy1, hya, rfl⟩ := hrel
    have hy2 := T.out y hy1 hya.out
    have hsucc := Lib.hid (ahead_succ y hy1)
    have P := Lib.hid (A.out (y + 1) w (by omega) (by omega))
    have PY := Lib.hid (A.out y w hy1 (by omega))
    generalize hz : ahead (y + 1) = z at P hsucc
    have HZ := Lib.hid hz
    clear hz
    go_wp2_with fail
    refine P.out.mono ?_
    rintro e w' ⟨rfl, rfl⟩
    by_cases hlt : z ≤ n
    · go_wp2
      go_round
      case rel => exact ⟨y + 1, by omega, by rw [HZ.out]; exact hlt, by go_num⟩
      case measure => simp [intOf]; omega
    · go_wp2_with fail
      refine PY.out.mono ?_
      rintro e w' ⟨rfl, rfl⟩
      obtain ⟨r, hr, hrn⟩ : ∃ r : Nat, (n : Int) - (ahead y : Int) = r ∧ n = ahead y + r := ⟨n - ahead y, by have := hya.out; omega, by have := hya.out; omega⟩
      have HR := Lib.hid hrn
      have hrl : r < 365 + lp y := by have := hsucc.out; omega
      have hpl := lp_le y
      have HRL := Lib.hid hrl
      have hr366 : r ≤ 365 := by omega
      clear hrl hpl hrn hlt
      clear PY hsucc HZ P T A
      generalize hya2 : ahead y = a at hr
      have HYA2 := Lib.hid hya2
      clear hya2
      go_wp2
      go_loop [6, 8] (fun t i => ∃ s m : Nat, 1 ≤ m ∧ m ≤ 12 ∧ s ≤ 365 ∧ Hid (mon y m + s = r) ∧ t = .int .i64 s ∧ i = .int .i64 m) (fun t _ => (intOf t).toNat)
      case atStart => exact ⟨r, 1, by omega, by omega, hr366, by rw [mon_one]; exact Lib.hid (by omega), rfl, rfl⟩
      case round =>
        obtain ⟨s, m, hm1, hm2, hs, HM, rfl, rfl⟩ := hrel
        have E := Lib.hid (D.out y m w hy1 hy2 hm1 hm2)
        have hq := dim_le y m
        have HQ : Hid (∀ q, dim y m = q → (q ≤ s → m < 12 ∧ mon y (m + 1) + (s - q) = r) ∧ (s < q → Valid y m (s + 1) ∧ dayOf y m (s + 1) = (n : Int) - 719162)) := Lib.hid (by
          intro q e
          refine ⟨fun h => ?_, fun h => ⟨⟨hy1, hy2, hm1, hm2, by omega, by omega⟩, ?_⟩⟩
          · have h1 := mon_succ y m hm1
            have h2 := HM.out
            refine ⟨?_, by omega⟩
            rcases Nat.lt_or_ge m 12 with h3 | h3
            · exact h3
            · obtain rfl : m = 12 := by omega
              have h4 : mon y (12 + 1) = 365 + lp y := (mons y).2.2.2.2.2.2.2.2.2.2.2.2
              have h5 := HRL.out
              omega
          · unfold dayOf
            have h2 := HM.out
            have h3 := HR.out
            omega)
        generalize dim y m = q at E hq HQ
        have HQ1 := Lib.hid (HQ.out q rfl)
        clear HQ
        go_wp2_with fail
        refine E.out.mono ?_
        rintro e w' ⟨rfl, rfl⟩
        by_cases hlt2 : q ≤ s
        · obtain ⟨g1, g2⟩ := HQ1.out.1 hlt2
          have G2 := Lib.hid g2
          clear g2 HQ1
          go_wp2_with fail
          refine E.out.mono ?_
          rintro e w' ⟨rfl, rfl⟩
          go_wp2
          go_round
          case rel => exact ⟨s - q, m + 1, by omega, by omega, by omega, G2, by go_num, by go_num⟩
          case measure => simp [intOf]; omega
        · have G := Lib.hid (HQ1.out.2 (by omega))
          clear HQ1
          go_wp2
          refine bodyPost_ret (results_tmp4 rfl _ _ _) rfl ?_
          exact ⟨⟨y, m, s + 1, rfl, G.out.1, G.out.2⟩, rfl⟩
end Go.Proofs.Ytdadhpfaompmnaa
