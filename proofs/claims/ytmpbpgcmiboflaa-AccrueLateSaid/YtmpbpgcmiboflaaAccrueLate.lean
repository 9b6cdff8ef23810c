/-
  The walk of AccrueLate.
-/
import Derived.Test.YtmpbpgcmiboflaaAcWW
import Derived.Test.YtmpbpgcmiboflaaAcYY
namespace Go.Proofs.Ytmpbpgcmiboflaa
open Go.RowKit
set_option linter.unusedVariables false

set_option maxRecDepth 100000 in
set_option maxHeartbeats 4000000 in
theorem AccrueLate_walk (p : Prod) (A : Option Addr) (n c : Nat) (a b r d : Int) (w : World) (hA : RdI w A n p.bounds) (hs : p.name.size ≤ 140737488351232) (hn : n ≤ c) (hc : c * 8 ≤ 140737488351232) (hb0 : -9223372036854775808 ≤ b) (hb1 : b ≤ 9223372036854775807) :
    Calls Try.prog 4 #[p.val (.slice A n c), .agg #[.int .i64 a, .int .i64 b, .int .i64 r, .int .i64 d]] w fun e w' => e = .returned (.bool true) ∧ Below w.heap.size w w' := by
  have WK := Lib.hid wakes_any
  have CP := Lib.hid fun W (h : RdI W A n p.bounds) => Copy_any p A n c W h (by omega)
  have LT := Lib.hid fun A' c' W (h : RdI W A' n p.bounds) => Late_any p A' n c' a b r d W h
  have RL := Lib.hid fun W (h : RdI W A n p.bounds) => refLate_any p A n c a b r d W h (by omega) (by omega) hb0 hb1
  generalize lateAns p a b r d = ans at *
  obtain ⟨x1, x2, x3⟩ := ans
  simp only at LT RL
  obtain ⟨name, rate, conv, step, count, o1, o2, o3, bounds⟩ := p
  unfold Prod.val pCells at *
  simp only at CP LT RL hA ⊢
  clear hs
  obtain ⟨w1, hw1⟩ : ∃ w1, w1 = (w.alloc (.cells #[.string name, .int .i64 rate, .int .i64 conv, .int .i64 step, .int .i64 count, .int .i64 o1, .int .i64 o2, .int .i64 o3, .slice A n c] 25)).alloc (.cells #[.int .i64 a, .int .i64 b, .int .i64 r, .int .i64 d] 39) := ⟨_, rfl⟩
  have hz1 : w1.heap.size = w.heap.size + 2 := by rw [hw1]; simp
  have hb1 : Below w.heap.size w w1 := by rw [hw1]; exact ((Below.refl _ _).alloc (Nat.le_refl _) _).alloc (by simp) _
  have hS1 : w1.heap[w.heap.size]? = some (.cells #[.string name, .int .i64 rate, .int .i64 conv, .int .i64 step, .int .i64 count, .int .i64 o1, .int .i64 o2, .int .i64 o3, .slice A n c] 25 (0, 0)) := by rw [hw1]; exact heap_old (heap_alloc_new _ _)
  have hT1 : w1.heap[w.heap.size + 1]? = some (.cells #[.int .i64 a, .int .i64 b, .int .i64 r, .int .i64 d] 39 (0, 0)) := by rw [hw1, ← World.size_alloc w]; exact heap_alloc_new _ _
  go_enter Try.func4, Try.ntmps4
  go_upto_region 1 with (fail)
  rw [← hw1]
  clear hw1
  go_wp2_with fail
  refine (WK.out _).mono ?_
  rintro e w2 ⟨rfl, hb2⟩
  have hb02 := hb1.trans (hb2.mono hb1.size)
  have hS2 := (hb2.block w.heap.size (by omega)).trans hS1
  have hT2 := (hb2.block (w.heap.size + 1) (by omega)).trans hT1
  have HA := Lib.hid fun W (hW : Below w2.heap.size w2 W) => (hA.below hb02).below hW
  have hl2 : w.heap.size + 1 < w2.heap.size := by have := hb2.size; omega
  have CS := Lib.hid fun W (hW : Below w2.heap.size w2 W) => show Below w2.heap.size w2 W ∧ W.cell? ⟨w.heap.size, 0, none⟩ = some (.string name) ∧ W.cell? ⟨w.heap.size, 1, none⟩ = some (.int .i64 rate) ∧ W.cell? ⟨w.heap.size, 2, none⟩ = some (.int .i64 conv) ∧ W.cell? ⟨w.heap.size, 3, none⟩ = some (.int .i64 step) ∧ W.cell? ⟨w.heap.size, 4, none⟩ = some (.int .i64 count) ∧ W.cell? ⟨w.heap.size, 5, none⟩ = some (.int .i64 o1) ∧ W.cell? ⟨w.heap.size, 6, none⟩ = some (.int .i64 o2) ∧ W.cell? ⟨w.heap.size, 7, none⟩ = some (.int .i64 o3) ∧ W.cell? ⟨w.heap.size, 8, none⟩ = some (.slice A n c) ∧ W.cell? ⟨w.heap.size + 1, 0, none⟩ = some (.int .i64 a) ∧ W.cell? ⟨w.heap.size + 1, 1, none⟩ = some (.int .i64 b) ∧ W.cell? ⟨w.heap.size + 1, 2, none⟩ = some (.int .i64 r) ∧ W.cell? ⟨w.heap.size + 1, 3, none⟩ = some (.int .i64 d) from ⟨hW, by rw [cell_of_row _ _ _ _ _ _ ((hW.block w.heap.size (by omega)).trans hS2)]; rfl, by rw [cell_of_row _ _ _ _ _ _ ((hW.block w.heap.size (by omega)).trans hS2)]; rfl, by rw [cell_of_row _ _ _ _ _ _ ((hW.block w.heap.size (by omega)).trans hS2)]; rfl, by rw [cell_of_row _ _ _ _ _ _ ((hW.block w.heap.size (by omega)).trans hS2)]; rfl, by rw [cell_of_row _ _ _ _ _ _ ((hW.block w.heap.size (by omega)).trans hS2)]; rfl, by rw [cell_of_row _ _ _ _ _ _ ((hW.block w.heap.size (by omega)).trans hS2)]; rfl, by rw [cell_of_row _ _ _ _ _ _ ((hW.block w.heap.size (by omega)).trans hS2)]; rfl, by rw [cell_of_row _ _ _ _ _ _ ((hW.block w.heap.size (by omega)).trans hS2)]; rfl, by rw [cell_of_row _ _ _ _ _ _ ((hW.block w.heap.size (by omega)).trans hS2)]; rfl, by rw [cell_of_row _ _ _ _ _ _ ((hW.block (w.heap.size + 1) (by omega)).trans hT2)]; rfl, by rw [cell_of_row _ _ _ _ _ _ ((hW.block (w.heap.size + 1) (by omega)).trans hT2)]; rfl, by rw [cell_of_row _ _ _ _ _ _ ((hW.block (w.heap.size + 1) (by omega)).trans hT2)]; rfl, by rw [cell_of_row _ _ _ _ _ _ ((hW.block (w.heap.size + 1) (by omega)).trans hT2)]; rfl⟩
  clear hb1 hb2 hS1 hT1 hA hS2 hT2 WK hz1
  go_upto_region 3 with (fail)
  go_cut [5, 6, 7] from 13 to 27 (fun t5 t6 t7 wx => t5 = .int .i64 x1 ∧ t6 = .int .i64 x2 ∧ t7 = .int .i64 x3 ∧ Below w2.heap.size w2 wx)
  case first =>
    have h0 : Below w2.heap.size w2 w2 := Below.refl _ _
    go_region_held3 (fun W => Below w2.heap.size w2 W ∧ W.cell? ⟨w.heap.size, 0, none⟩ = some (.string name) ∧ W.cell? ⟨w.heap.size, 1, none⟩ = some (.int .i64 rate) ∧ W.cell? ⟨w.heap.size, 2, none⟩ = some (.int .i64 conv) ∧ W.cell? ⟨w.heap.size, 3, none⟩ = some (.int .i64 step) ∧ W.cell? ⟨w.heap.size, 4, none⟩ = some (.int .i64 count) ∧ W.cell? ⟨w.heap.size, 5, none⟩ = some (.int .i64 o1) ∧ W.cell? ⟨w.heap.size, 6, none⟩ = some (.int .i64 o2) ∧ W.cell? ⟨w.heap.size, 7, none⟩ = some (.int .i64 o3) ∧ W.cell? ⟨w.heap.size, 8, none⟩ = some (.slice A n c) ∧ W.cell? ⟨w.heap.size + 1, 0, none⟩ = some (.int .i64 a) ∧ W.cell? ⟨w.heap.size + 1, 1, none⟩ = some (.int .i64 b) ∧ W.cell? ⟨w.heap.size + 1, 2, none⟩ = some (.int .i64 r) ∧ W.cell? ⟨w.heap.size + 1, 3, none⟩ = some (.int .i64 d))
      (refine CS.out _ ?_ <;> with_reducible (repeat (first | assumption | exact Below.refl _ _ | apply below_drewN | apply Below.drew | apply below_alloc)))
      (first
        | (go_simp; go_at_call 12; refine (CP.out _ (HA.out _ (by with_reducible (repeat (first | assumption | exact Below.refl _ _ | apply below_drewN | apply Below.drew | apply below_alloc))))).mono ?_; rintro e w5 ⟨⟨A5, c5, rfl, hA5⟩, hb5⟩; have HB5 : Below w2.heap.size w2 w5 := Below.then hb5 (by with_reducible (repeat (first | assumption | exact Below.refl _ _ | apply below_drewN | apply Below.drew | apply below_alloc))))
        | (go_simp; go_at_call 15; refine (LT.out _ _ _ hA5).mono ?_; rintro e w6 ⟨rfl, hb6⟩; have HB6 : Below w2.heap.size w2 w6 := Below.then hb6 (by with_reducible (repeat (first | assumption | exact Below.refl _ _ | apply below_drewN | apply Below.drew | apply below_alloc)))))
    all_goals go_wp2
    all_goals go_meet
    all_goals (case rel => exact ⟨rfl, rfl, rfl, by with_reducible (repeat (first | assumption | exact Below.refl _ _ | apply below_drewN | apply Below.drew | apply below_alloc))⟩)
  case rest =>
    obtain ⟨rfl, rfl, rfl, hbc⟩ := hcut
    obtain ⟨_, q0, q1, q2, q3, q4, q5, q6, q7, q8, z0, z1, z2, z3⟩ := CS.out _ hbc
    go_wp2_with fail
    refine (RL.out _ (HA.out _ hbc)).mono ?_
    rintro e w8 ⟨rfl, hb8⟩
    have HB8 := Below.then hb8 hbc
    clear q0 q1 q2 q3 q4 q5 q6 q7 q8 z0 z1 z2 z3 hb8 hbc
    go_wp2
    go_ret
    exact ⟨rfl, hb02.trans (HB8.mono hb02.size)⟩
end Go.Proofs.Ytmpbpgcmiboflaa
