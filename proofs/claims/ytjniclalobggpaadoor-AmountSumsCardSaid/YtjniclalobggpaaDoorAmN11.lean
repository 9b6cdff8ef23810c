/-
  The walks of the reference's MulDiv and Interest. No statement is proved here.
-/
import Derived.Test.YtjniclalobggpaaDoorAmN10
import Derived.Test.YtjniclalobggpaaDoorAmW4
namespace Go.Proofs.YtjniclalobggpaaDoor
open Go.RowKit
set_option linter.unusedVariables false

theorem evenDiv_le (n d : Nat) : evenDiv n d ≤ n + 1 := by
  rw [evenDiv_eq]
  have := Nat.div_le_self n d
  split <;> omega
theorem pow20_big : (1461501637330902918203684832716283019655932542975 : Nat) < 65536 ^ 20 := by decide +kernel
theorem sgn_tuple (q : Nat) (m : Bool) : sgn q m = if decide ((sgn q m).2 = 0) = true then ((sgn q m).1, 0) else (0, 4) := by
  unfold sgn
  split <;> split <;> simp
set_option maxHeartbeats 1000000 in
theorem refMulDiv (a b c : Int) (w : World) (a0 : -9223372036854775808 ≤ a) (a1 : a ≤ 9223372036854775807) (b0 : -9223372036854775808 ≤ b) (b1 : b ≤ 9223372036854775807) (c0 : -9223372036854775808 ≤ c) (c1 : c ≤ 9223372036854775807) :
    Calls Tryd.prog 13 #[.int .i64 a, .int .i64 b, .int .i64 c] w fun e w' => e = .returned (.tuple #[.int .i64 (mulDivOf a b c).1, .int .i64 (mulDivOf a b c).2]) ∧ Below w.heap.size w w' := by
  have HDef : mulDivOf a b c = if c = 0 then (0, 5) else overOf (a.natAbs * b.natAbs) c.natAbs (decide (a < 0) ^^ decide (b < 0) ^^ decide (c < 0)) := rfl
  rw [HDef]
  clear HDef
  by_cases hc : c = 0
  · subst hc
    rw [if_pos rfl]
    go_enter Tryd.func13, Tryd.ntmps13
    go_wp2
    go_ret2
    exact ⟨rfl, Below.refl _ _⟩
  · rw [if_neg hc]
    have SA := Lib.hid (fun w => Size_any a w a0 a1)
    have SB := Lib.hid (fun w => Size_any b w b0 b1)
    have SC := Lib.hid (fun w => Size_any c w c0 c1)
    have hA := natAbs_le a a0 a1
    have hB := natAbs_le b b0 b1
    have hC := natAbs_le c c0 c1
    have hP : a.natAbs * b.natAbs ≤ 9223372036854775808 * 9223372036854775808 := Nat.mul_le_mul hA hB
    have TI := Lib.hid (fun w => Times_any a.natAbs b.natAbs w (by have := pow20_big; omega))
    have EV := Lib.hid (fun w => Even_any (a.natAbs * b.natAbs) c.natAbs w (by omega) (by have := pow20_big; omega) (by have := pow20_big; omega))
    have BK := Lib.hid (fun m w => Back_any (evenDiv (a.natAbs * b.natAbs) c.natAbs) m w (by have := evenDiv_le (a.natAbs * b.natAbs) c.natAbs; have := pow20_big; omega))
    have HX : Hid (overOf (a.natAbs * b.natAbs) c.natAbs (decide (a < 0) ^^ decide (b < 0) ^^ decide (c < 0)) = sgn (evenDiv (a.natAbs * b.natAbs) c.natAbs) (decide (a < 0) ^^ decide (b < 0) ^^ decide (c < 0))) := Lib.hid rfl
    rw [HX.out]
    clear HX hP hA hB hC
    rw [show (decide (a < 0) ^^ decide (b < 0) ^^ decide (c < 0)) = !((!(decide (a < 0) == decide (b < 0))) == decide (c < 0)) by cases decide (a < 0) <;> cases decide (b < 0) <;> cases decide (c < 0) <;> rfl]
    generalize evenDiv (a.natAbs * b.natAbs) c.natAbs = E at *
    have BK2 := Lib.hid (fun w => BK.out (!((!(decide (a < 0) == decide (b < 0))) == decide (c < 0))) w)
    have H4 := Lib.hid (sgn_ok E (!((!(decide (a < 0) == decide (b < 0))) == decide (c < 0))))
    clear BK
    generalize sgn E (!((!(decide (a < 0) == decide (b < 0))) == decide (c < 0))) = S at *
    go_enter Tryd.func13, Tryd.ntmps13
    go_wp2_with fail
    refine (SA.out w).mono ?_
    rintro e w1 ⟨rfl, hb1⟩
    go_wp2_with fail
    refine (SB.out _).mono ?_
    rintro e w2 ⟨rfl, hb2⟩
    go_wp2_with fail
    refine (TI.out _).mono ?_
    rintro e w3 ⟨rfl, hb3⟩
    go_wp2_with fail
    refine (SC.out _).mono ?_
    rintro e w4 ⟨rfl, hb4⟩
    go_wp2_with fail
    refine (EV.out _).mono ?_
    rintro e w5 ⟨rfl, hb5⟩
    go_wp2_with fail
    refine (BK2.out _).mono ?_
    rintro e w6 ⟨rfl, hb6⟩
    have HB : Hid (Below w.heap.size w w6) := Lib.hid ((((((hb1).trans (hb2.mono (by have := hb1.size; omega))).trans (hb3.mono (by have := hb1.size; have := hb2.size; omega))).trans (hb4.mono (by have := hb1.size; have := hb2.size; have := hb3.size; omega))).trans (hb5.mono (by have := hb1.size; have := hb2.size; have := hb3.size; have := hb4.size; omega))).trans (hb6.mono (by have := hb1.size; have := hb2.size; have := hb3.size; have := hb4.size; have := hb5.size; omega)))
    clear hb1 hb2 hb3 hb4 hb5 hb6 EV SA SB SC TI
    by_cases hok : S.2 = 0
    · rw [decide_eq_true hok]
      go_wp2
      go_ret2
      exact ⟨by rw [hok]; rfl, HB.out⟩
    · rw [decide_eq_false hok]
      obtain rfl : S = (0, 4) := H4.out.resolve_left hok
      go_wp2
      go_ret2
      exact ⟨rfl, HB.out⟩
set_option maxHeartbeats 2000000 in
theorem refInterest (p rate num den : Int) (w : World) (a0 : -9223372036854775808 ≤ p) (a1 : p ≤ 9223372036854775807) (b0 : -9223372036854775808 ≤ rate) (b1 : rate ≤ 9223372036854775807) (c0 : -9223372036854775808 ≤ num) (c1 : num ≤ 9223372036854775807) (d0 : -9223372036854775808 ≤ den) (d1 : den ≤ 9223372036854775807) :
    Calls Tryd.prog 15 #[.int .i64 p, .int .i64 rate, .int .i64 num, .int .i64 den] w fun e w' => e = .returned (.tuple #[.int .i64 (interestOf p rate num den).1, .int .i64 (interestOf p rate num den).2]) ∧ Below w.heap.size w w' := by
  have HDef : interestOf p rate num den = if p < -1000000000000000 ∨ 1000000000000000 < p ∨ rate < 0 ∨ 1000000000 < rate ∨ num < 0 ∨ 10000000 < num ∨ den < 1 ∨ 366 < den then (0, 2)
    else overOf (p.natAbs * rate.natAbs * num.natAbs) (1000000000 * den.natAbs) (decide (p < 0)) := rfl
  rw [HDef]
  clear HDef
  by_cases ho : p < -1000000000000000 ∨ 1000000000000000 < p ∨ rate < 0 ∨ 1000000000 < rate ∨ num < 0 ∨ 10000000 < num ∨ den < 1 ∨ 366 < den
  · rw [if_pos ho]
    go_enter Tryd.func15, Tryd.ntmps15
    go_wp2
    all_goals first
      | (exfalso; omega)
      | (go_ret2; exact ⟨rfl, Below.refl _ _⟩)
  · rw [if_neg ho]
    have SP := Lib.hid (fun w => Size_any p w a0 a1)
    have SR := Lib.hid (fun w => Size_any rate w b0 b1)
    have SN := Lib.hid (fun w => Size_any num w c0 c1)
    have SD := Lib.hid (fun w => Size_any den w d0 d1)
    have OF : Hid (∀ w, Calls Tryd.prog 38 #[.int .u64 1000000000] w fun e w' => e = .returned (natOf 1000000000) ∧ Below w.heap.size w w') := Lib.hid (fun w => Of_any 1000000000 w (by omega))
    have hA : p.natAbs ≤ 1000000000000000 := by omega
    have hB : rate.natAbs ≤ 1000000000 := by omega
    have hC : num.natAbs ≤ 10000000 := by omega
    have hD : den.natAbs ≤ 366 := by omega
    have hD0 : 0 < den.natAbs := by omega
    have hP1 : p.natAbs * rate.natAbs ≤ 1000000000000000 * 1000000000 := Nat.mul_le_mul hA hB
    have hP : p.natAbs * rate.natAbs * num.natAbs ≤ 1000000000000000 * 1000000000 * 10000000 := Nat.mul_le_mul hP1 hC
    have T1 := Lib.hid (fun w => Times_any p.natAbs rate.natAbs w (by have := pow20_big; omega))
    have T2 := Lib.hid (fun w => Times_any (p.natAbs * rate.natAbs) num.natAbs w (by have := pow20_big; omega))
    have T3 := Lib.hid (fun w => Times_any 1000000000 den.natAbs w (by have := pow20_big; omega))
    have EV := Lib.hid (fun w => Even_any (p.natAbs * rate.natAbs * num.natAbs) (1000000000 * den.natAbs) w (by omega) (by have := pow20_big; omega) (by have := pow20_big; omega))
    have BK := Lib.hid (fun w => Back_any (evenDiv (p.natAbs * rate.natAbs * num.natAbs) (1000000000 * den.natAbs)) (decide (p < 0)) w (by have := evenDiv_le (p.natAbs * rate.natAbs * num.natAbs) (1000000000 * den.natAbs); have := pow20_big; omega))
    have HX : Hid (overOf (p.natAbs * rate.natAbs * num.natAbs) (1000000000 * den.natAbs) (decide (p < 0)) = sgn (evenDiv (p.natAbs * rate.natAbs * num.natAbs) (1000000000 * den.natAbs)) (decide (p < 0))) := Lib.hid rfl
    rw [HX.out]
    clear HX hP hP1 hA hB hC hD hD0
    generalize evenDiv (p.natAbs * rate.natAbs * num.natAbs) (1000000000 * den.natAbs) = E at *
    have H4 := Lib.hid (sgn_ok E (decide (p < 0)))
    generalize sgn E (decide (p < 0)) = S at *
    generalize p.natAbs * rate.natAbs * num.natAbs = n2 at *
    generalize p.natAbs * rate.natAbs = n1 at *
    generalize 1000000000 * den.natAbs = n3 at *
    have o1 : ¬ p < -1000000000000000 := by omega
    have o2 : ¬ 1000000000000000 < p := by omega
    have o3 : ¬ rate < 0 := by omega
    have o4 : ¬ 1000000000 < rate := by omega
    have o5 : ¬ num < 0 := by omega
    have o6 : ¬ 10000000 < num := by omega
    have o7 : ¬ den < 1 := by omega
    have o8 : ¬ 366 < den := by omega
    clear ho a0 a1 b0 b1 c0 c1 d0 d1
    go_enter Tryd.func15, Tryd.ntmps15
    go_wp2_with fail
    refine (SP.out _).mono ?_
    rintro e w1 ⟨rfl, hb1⟩
    go_wp2_with fail
    refine (SR.out _).mono ?_
    rintro e w2 ⟨rfl, hb2⟩
    go_wp2_with fail
    refine (T1.out _).mono ?_
    rintro e w3 ⟨rfl, hb3⟩
    go_wp2_with fail
    refine (SN.out _).mono ?_
    rintro e w4 ⟨rfl, hb4⟩
    go_wp2_with fail
    refine (T2.out _).mono ?_
    rintro e w5 ⟨rfl, hb5⟩
    go_wp2_with fail
    refine (OF.out _).mono ?_
    rintro e w6 ⟨rfl, hb6⟩
    go_wp2_with fail
    refine (SD.out _).mono ?_
    rintro e w7 ⟨rfl, hb7⟩
    go_wp2_with fail
    refine (T3.out _).mono ?_
    rintro e w8 ⟨rfl, hb8⟩
    go_wp2_with fail
    refine (EV.out _).mono ?_
    rintro e w9 ⟨rfl, hb9⟩
    go_wp2_with fail
    refine (BK.out _).mono ?_
    rintro e w10 ⟨rfl, hb10⟩
    have HB : Hid (Below w.heap.size w w10) := Lib.hid ((((((((((hb1).trans (hb2.mono (by have := hb1.size; omega))).trans (hb3.mono (by have := hb1.size; have := hb2.size; omega))).trans (hb4.mono (by have := hb1.size; have := hb2.size; have := hb3.size; omega))).trans (hb5.mono (by have := hb1.size; have := hb2.size; have := hb3.size; have := hb4.size; omega))).trans (hb6.mono (by have := hb1.size; have := hb2.size; have := hb3.size; have := hb4.size; have := hb5.size; omega))).trans (hb7.mono (by have := hb1.size; have := hb2.size; have := hb3.size; have := hb4.size; have := hb5.size; have := hb6.size; omega))).trans (hb8.mono (by have := hb1.size; have := hb2.size; have := hb3.size; have := hb4.size; have := hb5.size; have := hb6.size; have := hb7.size; omega))).trans (hb9.mono (by have := hb1.size; have := hb2.size; have := hb3.size; have := hb4.size; have := hb5.size; have := hb6.size; have := hb7.size; have := hb8.size; omega))).trans (hb10.mono (by have := hb1.size; have := hb2.size; have := hb3.size; have := hb4.size; have := hb5.size; have := hb6.size; have := hb7.size; have := hb8.size; have := hb9.size; omega)))
    clear hb1 hb2 hb3 hb4 hb5 hb6 hb7 hb8 hb9 hb10 SP SR SN SD OF T1 T2 T3 EV BK
    by_cases hok : S.2 = 0
    · rw [decide_eq_true hok]
      go_wp2
      go_ret2
      exact ⟨by rw [hok]; rfl, HB.out⟩
    · rw [decide_eq_false hok]
      obtain rfl : S = (0, 4) := H4.out.resolve_left hok
      go_wp2
      go_ret2
      exact ⟨rfl, HB.out⟩
end Go.Proofs.YtjniclalobggpaaDoor
