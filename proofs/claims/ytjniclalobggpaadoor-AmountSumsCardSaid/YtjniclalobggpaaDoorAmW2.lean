/-
  The walks of bits.Div64 at an upper word of nought, of over and of MulDiv. No statement is proved here.
-/
import Derived.Test.YtjniclalobggpaaDoorAmW
import Derived.BigQuiet
import Derived.Deep.Cut
import Derived.Deep.DeepCutAuto
namespace Go.Proofs.YtjniclalobggpaaDoor
open Go.RowKit
set_option linter.unusedVariables false

/-- Two words as one number. -/
def wd (hi lo : Nat) : Nat := hi * 18446744073709551616 + lo
theorem wd_zero (lo : Nat) : wd 0 lo = lo := by unfold wd; omega
theorem wd_ge (hi lo d : Nat) (hd : 0 < d) (h : d ≤ hi) : 18446744073709551616 ≤ wd hi lo / d := by
  unfold wd
  rw [Nat.le_div_iff_mul_le hd, Nat.mul_comm]
  exact Nat.le_trans (Nat.mul_le_mul_right _ h) (Nat.le_add_right _ _)
theorem wd_lt (hi lo d : Nat) (hd : 0 < d) (h1 : lo < 18446744073709551616) (h : hi < d) : wd hi lo / d < 18446744073709551616 := by
  unfold wd
  rw [Nat.div_lt_iff_lt_mul hd, Nat.mul_comm]
  have h3 : (hi + 1) * 18446744073709551616 ≤ d * 18446744073709551616 := Nat.mul_le_mul_right _ (by omega)
  omega
theorem evenDiv_eq (n d : Nat) : evenDiv n d = if d < 2 * (n % d) ∨ (2 * (n % d) = d ∧ n / d % 2 = 1) then n / d + 1 else n / d := rfl
theorem evenDiv_ge (n d : Nat) : n / d ≤ evenDiv n d := by rw [evenDiv_eq]; split <;> omega
/-- What bits.Div64 answers. -/
def DivAt (hi lo d : Nat) : Prop := ∀ w : World, Calls Tryd.prog 39 #[.int .u64 hi, .int .u64 lo, .int .u64 d] w fun e w' =>
  e = .returned (.tuple #[.int .u64 (wd hi lo / d : Nat), .int .u64 (wd hi lo % d : Nat)]) ∧ Below w.heap.size w w'
set_option maxHeartbeats 400000 in
theorem Div64_small (lo d : Nat) (h0 : lo < 18446744073709551616) (h1 : d < 18446744073709551616) (hd : 0 < d) : DivAt 0 lo d := by
  intro w
  have e0 : wd 0 lo = lo := wd_zero lo
  have e1 : ((d : Int) == 0) = false := by rw [beq_eq_false_iff_ne]; omega
  have e2 : decide ((d : Int) ≤ 0) = false := by rw [decide_eq_false_iff_not]; omega
  rw [e0]
  have q0 : (lo : Int) / (d : Int) = ((lo / d : Nat) : Int) := rfl
  have q1 : (lo : Int) % (d : Int) = ((lo % d : Nat) : Int) := rfl
  have q2 : lo / d < 18446744073709551616 := Nat.lt_of_le_of_lt (Nat.div_le_self _ _) h0
  have q3 : lo % d < 18446744073709551616 := Nat.lt_of_le_of_lt (Nat.mod_le _ _) h0
  have q4 : (lo : Int).tdiv (d : Int) = ((lo / d : Nat) : Int) := rfl
  have q5 : (lo : Int).tmod (d : Int) = ((lo % d : Nat) : Int) := rfl
  generalize lo / d = q at *
  generalize lo % d = r at *
  go_enter Tryd.func39, Tryd.ntmps39
  go_upto_region 6 with (fail)
  go_quiet (fail)
  go_wp2
  go_ret2
  exact ⟨rfl, below_drewN (Below.refl _ _) _⟩
/-- What over answers: the nearest quotient with its sign. -/
def overOf (n d : Nat) (m : Bool) : Int × Int := sgn (evenDiv n d) m
set_option maxHeartbeats 1000000 in
theorem over_of (hi lo d : Nat) (m : Bool) (w : World) (h0 : hi < 18446744073709551616) (h1 : lo < 18446744073709551616) (h2 : d < 18446744073709551616) (hd : 0 < d) (HD : hi < d → DivAt hi lo d) :
    Calls Tryd.prog 31 #[.agg #[.int .u64 hi, .int .u64 lo], .int .u64 d, .bool m] w fun e w' => e = .returned (.tuple #[.int .i64 (overOf (wd hi lo) d m).1, .int .i64 (overOf (wd hi lo) d m).2]) ∧ Below w.heap.size w w' := by
  by_cases hlt : d ≤ hi
  · have hq := Nat.le_trans (wd_ge hi lo d hd hlt) (evenDiv_ge _ _)
    have HO := Lib.hid (show overOf (wd hi lo) d m = (0, 4) from sgn_big _ m (by omega))
    rw [HO.out]
    clear HD HO hq
    have hb1 := (Below.refl w.heap.size w).alloc (Nat.le_refl _) (.cells #[.int .u64 (hi : Int), .int .u64 (lo : Int)] 54)
    go_enter Tryd.func31, Tryd.ntmps31
    go_wp2
    go_ret2
    exact ⟨rfl, hb1⟩
  · have HDiv := Lib.hid (HD (by omega))
    clear HD
    have hq := wd_lt hi lo d hd h1 (by omega)
    have hr : wd hi lo % d < d := Nat.mod_lt _ hd
    have HO : overOf (wd hi lo) d m = sgn (evenDiv (wd hi lo) d) m := rfl
    unfold DivAt at HDiv
    rw [HO, evenDiv_eq]
    clear HO
    have hdh : decide ((d : Int) ≤ (hi : Int)) = false := by rw [decide_eq_false_iff_not]; omega
    generalize wd hi lo = N at *
    generalize N / d = q at *
    generalize N % d = r at *
    obtain ⟨l, hl⟩ : ∃ l : Nat, d = l + r := ⟨d - r, by omega⟩
    have HQ1 := Lib.hid (and1 q hq)
    have HS := Lib.hid signed_any
    subst hl
    clear hdh
    by_cases hup : l + r < 2 * r ∨ (2 * r = l + r ∧ q % 2 = 1)
    · rw [if_pos hup]
      have HUP : l < r ∨ (l = r ∧ bits .and .u64 (q : Int) 1 = 1) := by
        rcases hup with h | ⟨h, h'⟩
        · left; omega
        · right; exact ⟨by omega, by rw [HQ1.out, h']; rfl⟩
      clear hup
      by_cases hov : q + 1 = 18446744073709551616
      · have HO := Lib.hid (sgn_big (q + 1) m (by omega))
        rw [HO.out]
        have hw : IntKind.u64.wrap ((q : Int) + 1) = 0 := by rw [show (q : Int) + 1 = 18446744073709551616 by omega]; decide
        clear HO hov
        rcases HUP with hu | ⟨rfl, hu⟩
        · go_enter Tryd.func31, Tryd.ntmps31
          go_wp2_with fail
          refine (HDiv.out _).mono ?_
          rintro e w2 ⟨rfl, hb2⟩
          have hb02 := (below_alloc (Below.refl _ w) _).trans (hb2.mono (by simp))
          go_wp2
          go_ret2
          exact ⟨rfl, hb02⟩
        · go_enter Tryd.func31, Tryd.ntmps31
          go_wp2_with fail
          refine (HDiv.out _).mono ?_
          rintro e w2 ⟨rfl, hb2⟩
          have hb02 := (below_alloc (Below.refl _ w) _).trans (hb2.mono (by simp))
          go_wp2
          go_ret2
          exact ⟨rfl, hb02⟩
      · have hw : ((q : Int) + 1 == 0) = false := by rw [beq_eq_false_iff_ne]; omega
        have HSq := Lib.hid (fun w => HS.out (q + 1) m w (by omega))
        generalize sgn (q + 1) m = z at *
        obtain ⟨z1, z2⟩ := z
        dsimp only at *
        rcases HUP with hu | ⟨rfl, hu⟩
        · go_enter Tryd.func31, Tryd.ntmps31
          go_wp2_with fail
          refine (HDiv.out _).mono ?_
          rintro e w2 ⟨rfl, hb2⟩
          have hb02 := (below_alloc (Below.refl _ w) _).trans (hb2.mono (by simp))
          go_wp2_with fail
          refine (HSq.out w2).mono ?_
          rintro e w' ⟨rfl, rfl⟩
          go_wp2
          go_ret2
          exact ⟨rfl, hb02⟩
        · go_enter Tryd.func31, Tryd.ntmps31
          go_wp2_with fail
          refine (HDiv.out _).mono ?_
          rintro e w2 ⟨rfl, hb2⟩
          have hb02 := (below_alloc (Below.refl _ w) _).trans (hb2.mono (by simp))
          go_wp2_with fail
          refine (HSq.out w2).mono ?_
          rintro e w' ⟨rfl, rfl⟩
          go_wp2
          go_ret2
          exact ⟨rfl, hb02⟩
    · rw [if_neg hup]
      have HUP : r < l ∨ (l = r ∧ bits .and .u64 (q : Int) 1 = 0) := by
        rcases Nat.lt_or_ge r l with h | h
        · exact .inl h
        · exact .inr ⟨by omega, by rw [HQ1.out, show q % 2 = 0 by omega]; rfl⟩
      clear hup
      have HSq := Lib.hid (fun w => HS.out q m w (by omega))
      generalize sgn q m = z at *
      obtain ⟨z1, z2⟩ := z
      dsimp only at *
      rcases HUP with hu | ⟨rfl, hu⟩
      · have hb0 : ((r : Int) == (l : Int)) = false := by rw [beq_eq_false_iff_ne]; omega
        have hb1 : (r == l) = false := by rw [beq_eq_false_iff_ne]; omega
        have hd0 : ¬ l < r := by omega
        have hd1 : r ≠ l := by omega
        go_enter Tryd.func31, Tryd.ntmps31
        go_wp2_with fail
        refine (HDiv.out _).mono ?_
        rintro e w2 ⟨rfl, hb2⟩
        have hb02 := (below_alloc (Below.refl _ w) _).trans (hb2.mono (by simp))
        go_wp2_with fail
        refine (HSq.out w2).mono ?_
        rintro e w' ⟨rfl, rfl⟩
        go_wp2
        go_ret2
        exact ⟨rfl, hb02⟩
      · go_enter Tryd.func31, Tryd.ntmps31
        go_wp2_with fail
        refine (HDiv.out _).mono ?_
        rintro e w2 ⟨rfl, hb2⟩
        have hb02 := (below_alloc (Below.refl _ w) _).trans (hb2.mono (by simp))
        go_wp2_with fail
        refine (HSq.out w2).mono ?_
        rintro e w' ⟨rfl, rfl⟩
        go_wp2
        go_ret2
        exact ⟨rfl, hb02⟩
end Go.Proofs.YtjniclalobggpaaDoor
