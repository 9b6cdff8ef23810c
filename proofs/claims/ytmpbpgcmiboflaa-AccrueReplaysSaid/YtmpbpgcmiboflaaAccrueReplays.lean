/-
  The walk of AccrueReplays.
-/
import Derived.Test.YtmpbpgcmiboflaaAcWW
import Derived.Test.YtmpbpgcmiboflaaAcS
import Derived.Test.YtmpbpgcmiboflaaAcY4
namespace Go.Proofs.Ytmpbpgcmiboflaa
open Go.RowKit
set_option linter.unusedVariables false

set_option maxRecDepth 100000 in
set_option maxHeartbeats 4000000 in
theorem AccrueReplays_walk (p : Prod) (A : Option Addr) (n c : Nat) (E : Option Addr) (m ce : Nat) (l : List Ev) (v : Int) (w : World) (hA : RdI w A n p.bounds) (hs : p.name.size ≤ 140737488351232) (hn : n ≤ c) (hc : c * 8 ≤ 140737488351232) (hE : RdE w E m l) (hm : m ≤ ce) (hce : ce * 56 ≤ 140737488351232) (he : ∀ e ∈ l, e.loan.size ≤ 140737488351232 ∧ (-9223372036854775808 ≤ e.day ∧ e.day ≤ 9223372036854775807) ∧ (-9223372036854775808 ≤ e.seq ∧ e.seq ≤ 9223372036854775807)) (hv0 : -9223372036854775808 ≤ v) (hv1 : v ≤ 9223372036854775807) :
    Calls Try.prog 3 #[p.val (.slice A n c), .slice E m ce, .int .i64 v] w fun e w' => e = .returned (.bool true) ∧ Below w.heap.size w w' := by
  have WK := Lib.hid wakes_any
  have CP := Lib.hid fun W (h : RdI W A n p.bounds) => Copy_any p A n c W h (by omega)
  have EV := Lib.hid fun W (h : RdE W E m l) => events_any E m ce l W h (by omega)
  have RP := Lib.hid fun A' c' E' ce' W (h : RdI W A' n p.bounds) (h2 : RdE W E' m l) => Replay_any p A' n c' E' m ce' l v W h h2 (by omega)
  have RR := Lib.hid fun W (h : RdI W A n p.bounds) (h2 : RdE W E m l) => refReplay_any p A n c E m ce l v W h (by omega) (by omega) h2 (by omega) (fun e he' => by have := (he e he').1; omega)
  generalize hans : replayAns p l v = ans at RP RR
  have HANS := Lib.hid hans
  clear hans
  obtain ⟨⟨d, r, pr, i, f, cr, o, nn, a, ch, la, bk⟩, k⟩ := ans
  simp only [St.val, stCells] at RP RR
  obtain ⟨name, rate, conv, step, count, o1, o2, o3, bounds⟩ := p
  simp only [Prod.val, pCells] at CP RP RR ⊢
  obtain ⟨w1, hw1⟩ : ∃ w1, w1 = w.alloc (.cells #[.string name, .int .i64 rate, .int .i64 conv, .int .i64 step, .int .i64 count, .int .i64 o1, .int .i64 o2, .int .i64 o3, .slice A n c] 25) := ⟨_, rfl⟩
  have hb1 : Below w.heap.size w w1 := by rw [hw1]; exact (Below.refl _ _).alloc (Nat.le_refl _) _
  have hz1 : w1.heap.size = w.heap.size + 1 := by rw [hw1]; simp
  have hS1 : w1.heap[w.heap.size]? = some (.cells #[.string name, .int .i64 rate, .int .i64 conv, .int .i64 step, .int .i64 count, .int .i64 o1, .int .i64 o2, .int .i64 o3, .slice A n c] 25 (0, 0)) := by rw [hw1]; exact heap_alloc_new _ _
  go_enter Try.func3, Try.ntmps3
  go_upto_region 1 with (fail)
  rw [← hw1]
  clear hw1
  go_wp2_with fail
  refine (WK.out _).mono ?_
  rintro e w2 ⟨rfl, hb2⟩
  have hb02 := hb1.trans (hb2.mono hb1.size)
  have hl2 : w.heap.size < w2.heap.size := by have := hb2.size; omega
  have hS2 := (hb2.block w.heap.size (by omega)).trans hS1
  have HA := Lib.hid fun W (hW : Below w2.heap.size w2 W) => (hA.below hb02).below hW
  have HE := Lib.hid fun W (hW : Below w2.heap.size w2 W) => (hE.below hb02).below hW
  have CS := Lib.hid fun W (hW : Below w2.heap.size w2 W) => show W.cell? ⟨w.heap.size, 0, none⟩ = some (.string name) ∧ W.cell? ⟨w.heap.size, 1, none⟩ = some (.int .i64 rate) ∧ W.cell? ⟨w.heap.size, 2, none⟩ = some (.int .i64 conv) ∧ W.cell? ⟨w.heap.size, 3, none⟩ = some (.int .i64 step) ∧ W.cell? ⟨w.heap.size, 4, none⟩ = some (.int .i64 count) ∧ W.cell? ⟨w.heap.size, 5, none⟩ = some (.int .i64 o1) ∧ W.cell? ⟨w.heap.size, 6, none⟩ = some (.int .i64 o2) ∧ W.cell? ⟨w.heap.size, 7, none⟩ = some (.int .i64 o3) ∧ W.cell? ⟨w.heap.size, 8, none⟩ = some (.slice A n c) from ⟨by rw [cell_of_row _ _ _ _ _ _ ((hW.block w.heap.size hl2).trans hS2)]; rfl, by rw [cell_of_row _ _ _ _ _ _ ((hW.block w.heap.size hl2).trans hS2)]; rfl, by rw [cell_of_row _ _ _ _ _ _ ((hW.block w.heap.size hl2).trans hS2)]; rfl, by rw [cell_of_row _ _ _ _ _ _ ((hW.block w.heap.size hl2).trans hS2)]; rfl, by rw [cell_of_row _ _ _ _ _ _ ((hW.block w.heap.size hl2).trans hS2)]; rfl, by rw [cell_of_row _ _ _ _ _ _ ((hW.block w.heap.size hl2).trans hS2)]; rfl, by rw [cell_of_row _ _ _ _ _ _ ((hW.block w.heap.size hl2).trans hS2)]; rfl, by rw [cell_of_row _ _ _ _ _ _ ((hW.block w.heap.size hl2).trans hS2)]; rfl, by rw [cell_of_row _ _ _ _ _ _ ((hW.block w.heap.size hl2).trans hS2)]; rfl⟩
  clear hb1 hb2 hS1 hz1 hA hE hS2 WK
  have h22 : Below w2.heap.size w2 w2 := Below.refl _ _
  obtain ⟨q0, q1, q2, q3, q4, q5, q6, q7, q8⟩ := CS.out _ h22
  go_upto_region 3 with (fail)
  go_wp2_with fail
  refine (CP.out _ (HA.out _ h22)).mono ?_
  rintro e w5 ⟨⟨A5, c5, rfl, hA5⟩, hb5⟩
  go_wp2_with fail
  refine (EV.out _ (HE.out _ hb5)).mono ?_
  rintro e w6 ⟨⟨E6, c6, rfl, hE6⟩, hb6⟩
  have HB6 := Below.then hb6 hb5
  go_wp2_with fail
  refine (RP.out _ _ _ _ _ (hA5.below hb6) hE6).mono ?_
  rintro e w7 ⟨rfl, hb7⟩
  have HB7 := Below.then hb7 HB6
  clear q0 q1 q2 q3 q4 q5 q6 q7 q8 hb5 hb6 hb7 hA5 hE6 HB6
  go_upto_region 4 with (fail)
  refine wp_at (fun wx => wx.heap[w7.heap.size]? = some (.cells #[.int .i64 d, .int .i64 r, .int .i64 pr, .int .i64 i, .int .i64 f, .int .i64 cr, .int .i64 o, .int .i64 nn, .int .i64 a, .int .i64 ch, .int .i64 la, .int .i64 bk] 29 (0, 0)) ∧ Below w2.heap.size w2 wx) ⟨heap_alloc_new _ _, HB7.alloc HB7.size _⟩ ?_
  rintro w8 ⟨hr8, hb8⟩
  obtain ⟨g, hg⟩ : ∃ g, g = w7.heap.size := ⟨_, rfl⟩
  rw [← hg] at hr8 ⊢
  clear hg HB7
  obtain ⟨q0, q1, q2, q3, q4, q5, q6, q7, q8⟩ := CS.out _ hb8
  go_wp2_with fail
  refine (RR.out _ (HA.out _ hb8) (HE.out _ hb8)).mono ?_
  rintro e w9 ⟨rfl, hb9⟩
  have HB9 := Below.then hb9 hb8
  have hr9 := row_kept hr8 hb9
  clear q0 q1 q2 q3 q4 q5 q6 q7 q8 hb9 hr8 hb8
  go_upto_region 5 with (fail)
  refine wp_at (fun wx => wx.heap[g]? = some (.cells #[.int .i64 d, .int .i64 r, .int .i64 pr, .int .i64 i, .int .i64 f, .int .i64 cr, .int .i64 o, .int .i64 nn, .int .i64 a, .int .i64 ch, .int .i64 la, .int .i64 bk] 29 (0, 0)) ∧ wx.heap[w9.heap.size]? = some (.cells #[.int .i64 d, .int .i64 r, .int .i64 pr, .int .i64 i, .int .i64 f, .int .i64 cr, .int .i64 o, .int .i64 nn, .int .i64 a, .int .i64 ch, .int .i64 la, .int .i64 bk] 29 (0, 0)) ∧ Below w2.heap.size w2 wx) ⟨heap_old hr9, heap_alloc_new _ _, HB9.alloc HB9.size _⟩ ?_
  rintro wZ ⟨hrx, hry, hbz⟩
  clear hr9 HB9
  obtain ⟨x0, x1, x2, x3, x4, x5, x6, x7, x8, x9, x10, x11⟩ : wZ.cell? ⟨g, 0, none⟩ = some (.int .i64 d) ∧ wZ.cell? ⟨g, 1, none⟩ = some (.int .i64 r) ∧ wZ.cell? ⟨g, 2, none⟩ = some (.int .i64 pr) ∧ wZ.cell? ⟨g, 3, none⟩ = some (.int .i64 i) ∧ wZ.cell? ⟨g, 4, none⟩ = some (.int .i64 f) ∧ wZ.cell? ⟨g, 5, none⟩ = some (.int .i64 cr) ∧ wZ.cell? ⟨g, 6, none⟩ = some (.int .i64 o) ∧ wZ.cell? ⟨g, 7, none⟩ = some (.int .i64 nn) ∧ wZ.cell? ⟨g, 8, none⟩ = some (.int .i64 a) ∧ wZ.cell? ⟨g, 9, none⟩ = some (.int .i64 ch) ∧ wZ.cell? ⟨g, 10, none⟩ = some (.int .i64 la) ∧ wZ.cell? ⟨g, 11, none⟩ = some (.int .i64 bk) := ⟨by rw [cell_of_row _ _ _ _ _ _ hrx]; rfl, by rw [cell_of_row _ _ _ _ _ _ hrx]; rfl, by rw [cell_of_row _ _ _ _ _ _ hrx]; rfl, by rw [cell_of_row _ _ _ _ _ _ hrx]; rfl, by rw [cell_of_row _ _ _ _ _ _ hrx]; rfl, by rw [cell_of_row _ _ _ _ _ _ hrx]; rfl, by rw [cell_of_row _ _ _ _ _ _ hrx]; rfl, by rw [cell_of_row _ _ _ _ _ _ hrx]; rfl, by rw [cell_of_row _ _ _ _ _ _ hrx]; rfl, by rw [cell_of_row _ _ _ _ _ _ hrx]; rfl, by rw [cell_of_row _ _ _ _ _ _ hrx]; rfl, by rw [cell_of_row _ _ _ _ _ _ hrx]; rfl⟩
  obtain ⟨y0, y1, y2, y3, y4, y5, y6, y7, y8, y9, y10, y11⟩ : wZ.cell? ⟨w9.heap.size, 0, none⟩ = some (.int .i64 d) ∧ wZ.cell? ⟨w9.heap.size, 1, none⟩ = some (.int .i64 r) ∧ wZ.cell? ⟨w9.heap.size, 2, none⟩ = some (.int .i64 pr) ∧ wZ.cell? ⟨w9.heap.size, 3, none⟩ = some (.int .i64 i) ∧ wZ.cell? ⟨w9.heap.size, 4, none⟩ = some (.int .i64 f) ∧ wZ.cell? ⟨w9.heap.size, 5, none⟩ = some (.int .i64 cr) ∧ wZ.cell? ⟨w9.heap.size, 6, none⟩ = some (.int .i64 o) ∧ wZ.cell? ⟨w9.heap.size, 7, none⟩ = some (.int .i64 nn) ∧ wZ.cell? ⟨w9.heap.size, 8, none⟩ = some (.int .i64 a) ∧ wZ.cell? ⟨w9.heap.size, 9, none⟩ = some (.int .i64 ch) ∧ wZ.cell? ⟨w9.heap.size, 10, none⟩ = some (.int .i64 la) ∧ wZ.cell? ⟨w9.heap.size, 11, none⟩ = some (.int .i64 bk) := ⟨by rw [cell_of_row _ _ _ _ _ _ hry]; rfl, by rw [cell_of_row _ _ _ _ _ _ hry]; rfl, by rw [cell_of_row _ _ _ _ _ _ hry]; rfl, by rw [cell_of_row _ _ _ _ _ _ hry]; rfl, by rw [cell_of_row _ _ _ _ _ _ hry]; rfl, by rw [cell_of_row _ _ _ _ _ _ hry]; rfl, by rw [cell_of_row _ _ _ _ _ _ hry]; rfl, by rw [cell_of_row _ _ _ _ _ _ hry]; rfl, by rw [cell_of_row _ _ _ _ _ _ hry]; rfl, by rw [cell_of_row _ _ _ _ _ _ hry]; rfl, by rw [cell_of_row _ _ _ _ _ _ hry]; rfl, by rw [cell_of_row _ _ _ _ _ _ hry]; rfl⟩
  have i29 : (Try.prog.info? 29).map (·.size) = some 12 := by kernel_rfl
  have u29 := Try.underlying29
  have g29 : Try.prog.eqGuardType Try.prog.depth 29 = false := by kernel_rfl
  have heq : ∀ W, (Op.equalIn 10000 29 (.agg #[.int .i64 d, .int .i64 r, .int .i64 pr, .int .i64 i, .int .i64 f, .int .i64 cr, .int .i64 o, .int .i64 nn, .int .i64 a, .int .i64 ch, .int .i64 la, .int .i64 bk]) (.agg #[.int .i64 d, .int .i64 r, .int .i64 pr, .int .i64 i, .int .i64 f, .int .i64 cr, .int .i64 o, .int .i64 nn, .int .i64 a, .int .i64 ch, .int .i64 la, .int .i64 bk])).run Try.prog W = .ok true W := fun W => st_equal ⟨d, r, pr, i, f, cr, o, nn, a, ch, la, bk⟩ W
  go_wp2
  go_ret
  exact ⟨rfl, hb02.trans (hbz.mono hb02.size)⟩
end Go.Proofs.Ytmpbpgcmiboflaa
