/-
  The walk of AmountAdds.
-/
import Derived.Test.YtjniclalobggpaaDoorAmWk
import Derived.Test.YtjniclalobggpaaDoorAmAd
namespace Go.Proofs.YtjniclalobggpaaDoor
open Go.RowKit
set_option linter.unusedVariables false

set_option maxHeartbeats 1000000 in
theorem AmountAdds_walk (a b : Int) (w : World) (ht : Tabs w) (a0 : -9223372036854775808 ≤ a) (a1 : a ≤ 9223372036854775807) (b0 : -9223372036854775808 ≤ b) (b1 : b ≤ 9223372036854775807) :
    Calls Tryd.prog 10 #[.int .i64 a, .int .i64 b] w fun e w' => e = .returned (.bool true) ∧ Below w.heap.size w w' := by
  have W := Lib.hid (wakes_any w ht)
  have A1 := Lib.hid (fun w => Add_any a b w a0 a1 b0 b1)
  have A2 := Lib.hid (fun w => Sub_any a b w a0 a1 b0 b1)
  have A3 := Lib.hid (fun w => refAdd_any a b w a0 a1 b0 b1)
  have A4 := Lib.hid (fun w => refSub_any a b w a0 a1 b0 b1)
  clear ht
  generalize fitOf (a + b) = x at *
  generalize fitOf (a - b) = y at *
  obtain ⟨x1, x2⟩ := x
  obtain ⟨y1, y2⟩ := y
  dsimp only at *
  go_enter Tryd.func10, Tryd.ntmps10
  go_wp2_with fail
  refine W.out.mono ?_
  rintro e w1 ⟨rfl, hb1⟩
  go_wp2_with fail
  refine (A1.out _).mono ?_
  rintro e w2 ⟨rfl, h2⟩
  subst h2
  go_wp2_with fail
  refine (A2.out _).mono ?_
  rintro e w3 ⟨rfl, h3⟩
  subst h3
  go_wp2_with fail
  refine (A3.out _).mono ?_
  rintro e w4 ⟨rfl, h4⟩
  subst h4
  go_wp2_with fail
  refine (A4.out _).mono ?_
  rintro e w5 ⟨rfl, h5⟩
  subst h5
  go_wp2
  go_ret
  exact ⟨by simp, hb1⟩
end Go.Proofs.YtjniclalobggpaaDoor
