/-
  The walk of AmountLaws.
-/
import Derived.Test.YtjniclalobggpaaDoorAmL
import Derived.Test.YtjniclalobggpaaDoorAmMD
import Derived.Test.YtjniclalobggpaaDoorAmWk
namespace Go.Proofs.YtjniclalobggpaaDoor
open Go.RowKit
set_option linter.unusedVariables false

theorem sgn_range (q : Nat) (m : Bool) : -9223372036854775808 ≤ (sgn q m).1 ∧ (sgn q m).1 ≤ 9223372036854775807 := by
  unfold sgn
  cases m
  · rw [if_neg (by simp)]
    split <;> (dsimp only; omega)
  · rw [if_pos rfl]
    split <;> (dsimp only; omega)
theorem mulDiv_range (a b c : Int) : -9223372036854775808 ≤ (mulDivOf a b c).1 ∧ (mulDivOf a b c).1 ≤ 9223372036854775807 := by
  unfold mulDivOf
  split
  · dsimp only; omega
  · exact sgn_range _ _
set_option maxRecDepth 100000 in
set_option maxHeartbeats 2000000 in
theorem AmountLaws_walk (a b c : Int) (w : World) (ht : Tabs w) (a0 : -9223372036854775808 ≤ a) (a1 : a ≤ 9223372036854775807) (b0 : -9223372036854775808 ≤ b) (b1 : b ≤ 9223372036854775807) (c0 : -9223372036854775808 ≤ c) (c1 : c ≤ 9223372036854775807) :
    Calls Tryd.prog 8 #[.int .i64 a, .int .i64 b, .int .i64 c] w fun e w' => e = .returned (.bool true) ∧ Below w.heap.size w w' := by
  have W := Lib.hid (wakes_any w ht)
  clear ht
  have M1 := Lib.hid (fun w => MulDiv_any a b b w a0 a1 b0 b1 b0 b1)
  by_cases hb : b = 0
  · subst hb
    rw [show mulDivOf a 0 0 = (0, 5) from if_pos rfl] at M1
    go_enter Tryd.func8, Tryd.ntmps8
    go_wp2_with fail
    refine W.out.mono ?_
    rintro e w1 ⟨rfl, hb1⟩
    go_wp2_with fail
    refine (M1.out _).mono ?_
    rintro e w2 ⟨rfl, hb2⟩
    go_wp2
    go_ret
    exact ⟨rfl, hb1.trans (hb2.mono hb1.size)⟩
  rw [mulDiv_same a b a0 a1 hb] at M1
  have hbb : (b == 0) = false := by rw [beq_eq_false_iff_ne]; exact hb
  have haa : (a == a) = true := by simp
  by_cases hc : c = 0
  · subst hc
    go_enter Tryd.func8, Tryd.ntmps8
    go_wp2_with fail
    refine W.out.mono ?_
    rintro e w1 ⟨rfl, hb1⟩
    go_wp2_with fail
    refine (M1.out _).mono ?_
    rintro e w2 ⟨rfl, hb2⟩
    go_wp2
    go_ret
    exact ⟨by simp, hb1.trans (hb2.mono hb1.size)⟩
  have hcc : (c == 0) = false := by rw [beq_eq_false_iff_ne]; exact hc
  have M2 := Lib.hid (fun w => MulDiv_any a b c w a0 a1 b0 b1 c0 c1)
  have M3 := Lib.hid (fun w => MulDiv_any b a c w b0 b1 a0 a1 c0 c1)
  rw [mulDiv_comm a b c] at M3
  have hr := mulDiv_range a b c
  have MN : Hid (∀ y, mulDivOf a b c = (y, 0) → -9223372036854775808 < y → mulDivOf (-a) b c = (-y, 0)) := Lib.hid (fun y h h' => mulDiv_neg a b c y hc h h')
  have M4 := Lib.hid (fun (h : -9223372036854775808 < a) w => MulDiv_any (-a) b c w (by omega) (by omega) b0 b1 c0 c1)
  generalize mulDivOf a b c = res at *
  obtain ⟨y, f⟩ := res
  dsimp only at *
  obtain ⟨hy0, hy1⟩ := hr
  have hyy : (y == y) = true := by simp
  have hff : (f == f) = true := by simp
  by_cases ha : -9223372036854775808 < a
  · by_cases hf : f = 0
    · subst hf
      by_cases hy : -9223372036854775808 < y
      · have M5 := Lib.hid (M4.out ha)
        rw [MN.out y rfl hy] at M5
        clear M4 MN
        go_enter Tryd.func8, Tryd.ntmps8
        go_wp2_with fail
        refine W.out.mono ?_
        rintro e w1 ⟨rfl, hb1⟩
        go_wp2_with fail
        refine (M1.out _).mono ?_
        rintro e w2 ⟨rfl, hb2⟩
        have hb02 := hb1.trans (hb2.mono hb1.size)
        go_wp2_with fail
        refine (M2.out _).mono ?_
        rintro e w3 ⟨rfl, hb3⟩
        have hb03 := hb02.trans (hb3.mono hb02.size)
        go_wp2_with fail
        refine (M3.out _).mono ?_
        rintro e w4 ⟨rfl, hb4⟩
        have hb04 := hb03.trans (hb4.mono hb03.size)
        go_wp2_with fail
        refine (M5.out _).mono ?_
        rintro e w5 ⟨rfl, hb5⟩
        have hb05 := hb04.trans (hb5.mono hb04.size)
        go_wp2
        go_ret
        exact ⟨by simp, hb05⟩
      · clear M4 MN
        go_enter Tryd.func8, Tryd.ntmps8
        go_wp2_with fail
        refine W.out.mono ?_
        rintro e w1 ⟨rfl, hb1⟩
        go_wp2_with fail
        refine (M1.out _).mono ?_
        rintro e w2 ⟨rfl, hb2⟩
        have hb02 := hb1.trans (hb2.mono hb1.size)
        go_wp2_with fail
        refine (M2.out _).mono ?_
        rintro e w3 ⟨rfl, hb3⟩
        have hb03 := hb02.trans (hb3.mono hb02.size)
        go_wp2_with fail
        refine (M3.out _).mono ?_
        rintro e w4 ⟨rfl, hb4⟩
        have hb04 := hb03.trans (hb4.mono hb03.size)
        go_wp2
        go_ret
        exact ⟨rfl, hb04⟩
    · have hf0 : (f == 0) = false := by rw [beq_eq_false_iff_ne]; exact hf
      clear M4 MN
      go_enter Tryd.func8, Tryd.ntmps8
      go_wp2_with fail
      refine W.out.mono ?_
      rintro e w1 ⟨rfl, hb1⟩
      go_wp2_with fail
      refine (M1.out _).mono ?_
      rintro e w2 ⟨rfl, hb2⟩
      have hb02 := hb1.trans (hb2.mono hb1.size)
      go_wp2_with fail
      refine (M2.out _).mono ?_
      rintro e w3 ⟨rfl, hb3⟩
      have hb03 := hb02.trans (hb3.mono hb02.size)
      go_wp2_with fail
      refine (M3.out _).mono ?_
      rintro e w4 ⟨rfl, hb4⟩
      have hb04 := hb03.trans (hb4.mono hb03.size)
      go_wp2
      go_ret
      exact ⟨rfl, hb04⟩
  · clear M4 MN
    go_enter Tryd.func8, Tryd.ntmps8
    go_wp2_with fail
    refine W.out.mono ?_
    rintro e w1 ⟨rfl, hb1⟩
    go_wp2_with fail
    refine (M1.out _).mono ?_
    rintro e w2 ⟨rfl, hb2⟩
    have hb02 := hb1.trans (hb2.mono hb1.size)
    go_wp2_with fail
    refine (M2.out _).mono ?_
    rintro e w3 ⟨rfl, hb3⟩
    have hb03 := hb02.trans (hb3.mono hb02.size)
    go_wp2_with fail
    refine (M3.out _).mono ?_
    rintro e w4 ⟨rfl, hb4⟩
    have hb04 := hb03.trans (hb4.mono hb03.size)
    go_wp2
    go_ret
    exact ⟨rfl, hb04⟩
end Go.Proofs.YtjniclalobggpaaDoor
