/-
  The walk of AmountDivides.
-/
import Derived.Test.YtjniclalobggpaaDoorAmN11
import Derived.Test.YtjniclalobggpaaDoorAmMD
import Derived.Test.YtjniclalobggpaaDoorAmWk
namespace Go.Proofs.YtjniclalobggpaaDoor
open Go.RowKit
set_option linter.unusedVariables false

set_option maxHeartbeats 1000000 in
theorem AmountDivides_walk (a b c : Int) (w : World) (ht : Tabs w) (a0 : -9223372036854775808 ≤ a) (a1 : a ≤ 9223372036854775807) (b0 : -9223372036854775808 ≤ b) (b1 : b ≤ 9223372036854775807) (c0 : -9223372036854775808 ≤ c) (c1 : c ≤ 9223372036854775807) :
    Calls Tryd.prog 3 #[.int .i64 a, .int .i64 b, .int .i64 c] w fun e w' => e = .returned (.bool true) ∧ Below w.heap.size w w' := by
  have W := Lib.hid (wakes_any w ht)
  have A1 := Lib.hid (fun w => MulDiv_any a b c w a0 a1 b0 b1 c0 c1)
  have A2 := Lib.hid (fun w => refMulDiv a b c w a0 a1 b0 b1 c0 c1)
  clear ht
  generalize mulDivOf a b c = x at *
  obtain ⟨x1, x2⟩ := x
  dsimp only at *
  go_enter Tryd.func3, Tryd.ntmps3
  go_wp2_with fail
  refine W.out.mono ?_
  rintro e w1 ⟨rfl, hb1⟩
  go_wp2_with fail
  refine (A1.out _).mono ?_
  rintro e w2 ⟨rfl, hb2⟩
  go_wp2_with fail
  refine (A2.out _).mono ?_
  rintro e w3 ⟨rfl, hb3⟩
  have HB := Lib.hid ((hb1.trans (hb2.mono hb1.size)).trans (hb3.mono (Nat.le_trans hb1.size hb2.size)))
  clear hb1 hb2 hb3
  go_wp2
  go_ret
  exact ⟨by simp, HB.out⟩
end Go.Proofs.YtjniclalobggpaaDoor
