/-
  MulDiv and Interest of whatever numbers. No statement is proved here.
-/
import Derived.Test.YtjniclalobggpaaDoorAmK3
import Derived.Test.YtjniclalobggpaaDoorAmW4
namespace Go.Proofs.YtjniclalobggpaaDoor
open Go.RowKit
set_option linter.unusedVariables false

theorem Div64_any (hi lo y : Nat) (h0 : hi < y) (h1 : lo < 18446744073709551616) (h2 : y < 18446744073709551616) : DivAt hi lo y := by
  rcases Nat.eq_zero_or_pos hi with rfl | hh
  · exact Div64_small lo y h1 h2 h0
  · exact Div64_big hi lo y h0 h1 h2 hh
theorem MulDiv_any (a b c : Int) (w : World) (a0 : -9223372036854775808 ≤ a) (a1 : a ≤ 9223372036854775807) (b0 : -9223372036854775808 ≤ b) (b1 : b ≤ 9223372036854775807) (c0 : -9223372036854775808 ≤ c) (c1 : c ≤ 9223372036854775807) :
    Calls Tryd.prog 12 #[.int .i64 a, .int .i64 b, .int .i64 c] w fun e w' => e = .returned (.tuple #[.int .i64 (mulDivOf a b c).1, .int .i64 (mulDivOf a b c).2]) ∧ Below w.heap.size w w' :=
  MulDiv_of a b c w a0 a1 b0 b1 c0 c1 fun _ h => Div64_any _ _ _ h (Nat.mod_lt _ (by omega)) (by omega)
end Go.Proofs.YtjniclalobggpaaDoor
