/-
  The walk of AmountInterest.
-/
import Derived.Test.YtjniclalobggpaaDoorAmI
import Derived.Test.YtjniclalobggpaaDoorAmWk
namespace Go.Proofs.YtjniclalobggpaaDoor
open Go.RowKit
set_option linter.unusedVariables false

set_option maxHeartbeats 1000000 in
theorem AmountInterest_walk (p rate num den : Int) (w : World) (ht : Tabs w) (a0 : -9223372036854775808 ≤ p) (a1 : p ≤ 9223372036854775807) (b0 : -9223372036854775808 ≤ rate) (b1 : rate ≤ 9223372036854775807) (c0 : -9223372036854775808 ≤ num) (c1 : num ≤ 9223372036854775807) (d0 : -9223372036854775808 ≤ den) (d1 : den ≤ 9223372036854775807) :
    Calls Tryd.prog 4 #[.int .i64 p, .int .i64 rate, .agg #[.int .i64 num, .int .i64 den]] w fun e w' => e = .returned (.bool true) ∧ Below w.heap.size w w' := by
  have W := Lib.hid (fun w ht => wakes_any w ht)
  have A1 := Lib.hid (fun w => Interest_any p rate num den w)
  have A2 := Lib.hid (fun w => refInterest p rate num den w a0 a1 b0 b1 c0 c1 d0 d1)
  have HT := Lib.hid ht
  clear ht
  generalize interestOf p rate num den = x at *
  obtain ⟨x1, x2⟩ := x
  dsimp only at *
  go_enter Tryd.func4, Tryd.ntmps4
  go_wp2_with fail
  have hb0 := (Below.refl w.heap.size w).alloc (Nat.le_refl _) (.cells #[.int .i64 num, .int .i64 den] 29)
  have hg0 := heap_alloc_new w (.cells #[.int .i64 num, .int .i64 den] 29)
  refine (W.out _ (HT.out.below hb0)).mono ?_
  rintro e w1 ⟨rfl, hb1⟩
  have hg1 := (hb1.block _ (by simp)).trans hg0
  have HB1 := Lib.hid (hb0.trans (hb1.mono (by simp)))
  clear hb0 hg0 hb1
  have c0' : w1.cell? ⟨w.heap.size, 0, none⟩ = some (.int .i64 num) := by rw [cell_of_row _ _ _ _ _ _ hg1]; rfl
  have c1' : w1.cell? ⟨w.heap.size, 1, none⟩ = some (.int .i64 den) := by rw [cell_of_row _ _ _ _ _ _ hg1]; rfl
  have HG1 := Lib.hid hg1
  clear hg1
  go_wp2_with fail
  refine (A1.out _).mono ?_
  rintro e w2 ⟨rfl, hb2⟩
  have hg2 := (hb2.block _ (heap_lt HG1.out)).trans HG1.out
  have HB2 := Lib.hid (HB1.out.trans (hb2.mono (by have := heap_lt HG1.out; omega)))
  clear hb2 c0' c1' HG1 HB1
  have c0' : w2.cell? ⟨w.heap.size, 0, none⟩ = some (.int .i64 num) := by rw [cell_of_row _ _ _ _ _ _ hg2]; rfl
  have c1' : w2.cell? ⟨w.heap.size, 1, none⟩ = some (.int .i64 den) := by rw [cell_of_row _ _ _ _ _ _ hg2]; rfl
  have HG2 := Lib.hid hg2
  clear hg2
  go_wp2_with fail
  refine (A2.out _).mono ?_
  rintro e w3 ⟨rfl, hb3⟩
  have HB3 := Lib.hid (HB2.out.trans (hb3.mono (by have := heap_lt HG2.out; omega)))
  clear hb3 c0' c1' HG2 HB2
  go_wp2
  go_ret
  exact ⟨by simp, HB3.out⟩
end Go.Proofs.YtjniclalobggpaaDoor
