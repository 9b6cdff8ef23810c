/-
  The walk of AccrueEven.
-/
import Derived.Test.YtmpbpgcmiboflaaAcWW
import Derived.Test.YtmpbpgcmiboflaaAcS
import Derived.Test.YtmpbpgcmiboflaaAcU
namespace Go.Proofs.Ytmpbpgcmiboflaa
open Go.RowKit
set_option linter.unusedVariables false

set_option maxRecDepth 100000 in
set_option maxHeartbeats 4000000 in
theorem AccrueEven_walk (p : Prod) (A : Option Addr) (n c : Nat) (E : Option Addr) (m ce : Nat) (l : List Ev) (v : Int) (w : World) (hA : RdI w A n p.bounds) (hs : p.name.size ≤ 140737488351232) (hn : n ≤ c) (hc : c * 8 ≤ 140737488351232) (hE : RdE w E m l) (hm : m ≤ ce) (hce : ce * 56 ≤ 140737488351232) (he : ∀ e ∈ l, e.loan.size ≤ 140737488351232 ∧ (-9223372036854775808 ≤ e.day ∧ e.day ≤ 9223372036854775807) ∧ (-9223372036854775808 ≤ e.seq ∧ e.seq ≤ 9223372036854775807)) (hv0 : -9223372036854775808 ≤ v) (hv1 : v ≤ 9223372036854775807) :
    Calls Try.prog 5 #[p.val (.slice A n c), .slice E m ce, .int .i64 v] w fun e w' => e = .returned (.bool true) ∧ Below w.heap.size w w' := by
  have WK := Lib.hid wakes_any
  have CP := Lib.hid fun W (h : RdI W A n p.bounds) => Copy_any p A n c W h (by omega)
  have EV := Lib.hid fun W (h : RdE W E m l) => events_any E m ce l W h (by omega)
  have RP := Lib.hid fun A' c' E' ce' W (h : RdI W A' n p.bounds) (h2 : RdE W E' m l) => Replay_any p A' n c' E' m ce' l v W h h2 (by omega)
  have RC := Lib.hid (replay_cases p l v)
  generalize hans : replayAns p l v = ans at RP
  have HANS := Lib.hid hans
  clear hans
  obtain ⟨⟨d, r, pr, i, f, cr, o, nn, a, ch, la, bk⟩, k⟩ := ans
  simp only [St.val, stCells] at RP
  obtain ⟨name, rate, conv, step, count, o1, o2, o3, bounds⟩ := p
  simp only [Prod.val, pCells] at CP RP ⊢
  obtain ⟨w1, hw1⟩ : ∃ w1, w1 = w.alloc (.cells #[.string name, .int .i64 rate, .int .i64 conv, .int .i64 step, .int .i64 count, .int .i64 o1, .int .i64 o2, .int .i64 o3, .slice A n c] 25) := ⟨_, rfl⟩
  have hb1 : Below w.heap.size w w1 := by rw [hw1]; exact (Below.refl _ _).alloc (Nat.le_refl _) _
  have hz1 : w1.heap.size = w.heap.size + 1 := by rw [hw1]; simp
  have hS1 : w1.heap[w.heap.size]? = some (.cells #[.string name, .int .i64 rate, .int .i64 conv, .int .i64 step, .int .i64 count, .int .i64 o1, .int .i64 o2, .int .i64 o3, .slice A n c] 25 (0, 0)) := by rw [hw1]; exact heap_alloc_new _ _
  go_enter Try.func5, Try.ntmps5
  go_upto_region 1 with (fail)
  rw [← hw1]
  clear hw1
  go_wp2_with fail
  refine (WK.out _).mono ?_
  rintro e w2 ⟨rfl, hb2⟩
  have hb02 := hb1.trans (hb2.mono hb1.size)
  have hl2 : w.heap.size < w2.heap.size := by have := hb2.size; omega
  have hS2 := (hb2.block w.heap.size (by omega)).trans hS1
  have HA := Lib.hid fun W (hW : Below w2.heap.size w2 W) => (hA.below hb02).below hW
  have HE := Lib.hid fun W (hW : Below w2.heap.size w2 W) => (hE.below hb02).below hW
  have CS := Lib.hid fun W (hW : Below w2.heap.size w2 W) => show W.cell? ⟨w.heap.size, 0, none⟩ = some (.string name) ∧ W.cell? ⟨w.heap.size, 1, none⟩ = some (.int .i64 rate) ∧ W.cell? ⟨w.heap.size, 2, none⟩ = some (.int .i64 conv) ∧ W.cell? ⟨w.heap.size, 3, none⟩ = some (.int .i64 step) ∧ W.cell? ⟨w.heap.size, 4, none⟩ = some (.int .i64 count) ∧ W.cell? ⟨w.heap.size, 5, none⟩ = some (.int .i64 o1) ∧ W.cell? ⟨w.heap.size, 6, none⟩ = some (.int .i64 o2) ∧ W.cell? ⟨w.heap.size, 7, none⟩ = some (.int .i64 o3) ∧ W.cell? ⟨w.heap.size, 8, none⟩ = some (.slice A n c) from ⟨by rw [cell_of_row _ _ _ _ _ _ ((hW.block w.heap.size hl2).trans hS2)]; rfl, by rw [cell_of_row _ _ _ _ _ _ ((hW.block w.heap.size hl2).trans hS2)]; rfl, by rw [cell_of_row _ _ _ _ _ _ ((hW.block w.heap.size hl2).trans hS2)]; rfl, by rw [cell_of_row _ _ _ _ _ _ ((hW.block w.heap.size hl2).trans hS2)]; rfl, by rw [cell_of_row _ _ _ _ _ _ ((hW.block w.heap.size hl2).trans hS2)]; rfl, by rw [cell_of_row _ _ _ _ _ _ ((hW.block w.heap.size hl2).trans hS2)]; rfl, by rw [cell_of_row _ _ _ _ _ _ ((hW.block w.heap.size hl2).trans hS2)]; rfl, by rw [cell_of_row _ _ _ _ _ _ ((hW.block w.heap.size hl2).trans hS2)]; rfl, by rw [cell_of_row _ _ _ _ _ _ ((hW.block w.heap.size hl2).trans hS2)]; rfl⟩
  clear hb1 hb2 hS1 hz1 hA hE hS2 WK
  have h22 : Below w2.heap.size w2 w2 := Below.refl _ _
  obtain ⟨q0, q1, q2, q3, q4, q5, q6, q7, q8⟩ := CS.out _ h22
  go_upto_region 3 with (fail)
  go_wp2_with fail
  refine (CP.out _ (HA.out _ h22)).mono ?_
  rintro e w5 ⟨⟨A5, c5, rfl, hA5⟩, hb5⟩
  go_wp2_with fail
  refine (EV.out _ (HE.out _ hb5)).mono ?_
  rintro e w6 ⟨⟨E6, c6, rfl, hE6⟩, hb6⟩
  have HB6 := Below.then hb6 hb5
  go_wp2_with fail
  refine (RP.out _ _ _ _ _ (hA5.below hb6) hE6).mono ?_
  rintro e w7 ⟨rfl, hb7⟩
  have HB7 := Below.then hb7 HB6
  clear q0 q1 q2 q3 q4 q5 q6 q7 q8 hb5 hb6 hb7 hA5 hE6 HB6
  go_upto_region 4 with (fail)
  refine wp_at (fun wx => wx.heap[w7.heap.size]? = some (.cells #[.int .i64 d, .int .i64 r, .int .i64 pr, .int .i64 i, .int .i64 f, .int .i64 cr, .int .i64 o, .int .i64 nn, .int .i64 a, .int .i64 ch, .int .i64 la, .int .i64 bk] 29 (0, 0)) ∧ Below w2.heap.size w2 wx) ⟨heap_alloc_new _ _, HB7.alloc HB7.size _⟩ ?_
  rintro w8 ⟨hr8, hb8⟩
  obtain ⟨g, hg⟩ : ∃ g, g = w7.heap.size := ⟨_, rfl⟩
  rw [← hg] at hr8 ⊢
  clear hg HB7
  obtain ⟨z0, z1, z2, z3, z4, z5, z6, z7, z8, z9, z10, z11⟩ : w8.cell? ⟨g, 0, none⟩ = some (.int .i64 d) ∧ w8.cell? ⟨g, 1, none⟩ = some (.int .i64 r) ∧ w8.cell? ⟨g, 2, none⟩ = some (.int .i64 pr) ∧ w8.cell? ⟨g, 3, none⟩ = some (.int .i64 i) ∧ w8.cell? ⟨g, 4, none⟩ = some (.int .i64 f) ∧ w8.cell? ⟨g, 5, none⟩ = some (.int .i64 cr) ∧ w8.cell? ⟨g, 6, none⟩ = some (.int .i64 o) ∧ w8.cell? ⟨g, 7, none⟩ = some (.int .i64 nn) ∧ w8.cell? ⟨g, 8, none⟩ = some (.int .i64 a) ∧ w8.cell? ⟨g, 9, none⟩ = some (.int .i64 ch) ∧ w8.cell? ⟨g, 10, none⟩ = some (.int .i64 la) ∧ w8.cell? ⟨g, 11, none⟩ = some (.int .i64 bk) := ⟨by rw [cell_of_row _ _ _ _ _ _ hr8]; rfl, by rw [cell_of_row _ _ _ _ _ _ hr8]; rfl, by rw [cell_of_row _ _ _ _ _ _ hr8]; rfl, by rw [cell_of_row _ _ _ _ _ _ hr8]; rfl, by rw [cell_of_row _ _ _ _ _ _ hr8]; rfl, by rw [cell_of_row _ _ _ _ _ _ hr8]; rfl, by rw [cell_of_row _ _ _ _ _ _ hr8]; rfl, by rw [cell_of_row _ _ _ _ _ _ hr8]; rfl, by rw [cell_of_row _ _ _ _ _ _ hr8]; rfl, by rw [cell_of_row _ _ _ _ _ _ hr8]; rfl, by rw [cell_of_row _ _ _ _ _ _ hr8]; rfl, by rw [cell_of_row _ _ _ _ _ _ hr8]; rfl⟩
  have i29 : (Try.prog.info? 29).map (·.size) = some 12 := by kernel_rfl
  have u29 := Try.underlying29
  have g29 : Try.prog.eqGuardType Try.prog.depth 29 = false := by kernel_rfl
  rcases RC.out with ⟨k', hk, h⟩ | ⟨L, s, hwent, h⟩
  · rw [HANS.out] at h
    injection h with h1 h2
    subst h2
    injection h1 with h1 h2 h3 h4 h5 h6 h7 h8 h9 h10 h11 h12
    subst h1 h2 h3 h4 h5 h6 h7 h8 h9 h10 h11 h12
    have hk1 : (k == 0) = false := by simpa using hk
    have hk2 : (k != 0) = true := by simpa using hk
    have heq : ∀ W, (Op.equalIn 10000 29 (.agg #[.int .i64 0, .int .i64 0, .int .i64 0, .int .i64 0, .int .i64 0, .int .i64 0, .int .i64 0, .int .i64 0, .int .i64 0, .int .i64 0, .int .i64 0, .int .i64 0]) (.agg #[.int .i64 0, .int .i64 0, .int .i64 0, .int .i64 0, .int .i64 0, .int .i64 0, .int .i64 0, .int .i64 0, .int .i64 0, .int .i64 0, .int .i64 0, .int .i64 0])).run Try.prog W = .ok true W := fun W => st_equal St.zero W
    go_wp2
    go_ret
    exact ⟨rfl, hb02.trans (hb8.mono hb02.size)⟩
  · rw [HANS.out] at h
    injection h with h1 h2
    subst h1 h2
    obtain ⟨b1, b2, b3, b4, b5, b6, b7, b8, b9, b10, b11, b12, b13, b14, b15, b16, b17, b18, b19, b20, b21, b22⟩ := hwent.good
    simp only at b1 b2 b3 b4 b5 b6 b7 b8 b9 b10 b11 b12 b13 b14 b15 b16 b17 b18 b19 b20 b21 b22
    obtain ⟨_, q0, q1, q2, q3, q4, q5, q6, q7, q8⟩ := show Below w2.heap.size w2 w8 ∧ _ from ⟨hb8, CS.out _ hb8⟩
    have hlen : bounds.length = n := (HA.out _ hb8).len
    have t1 : decide (pr < 0) = false := decide_eq_false (by omega)
    have t2 : decide (i < 0) = false := decide_eq_false (by omega)
    have t3 : decide (f < 0) = false := decide_eq_false (by omega)
    have t4 : decide (cr < 0) = false := decide_eq_false (by omega)
    have t5 : decide (la < 0) = false := decide_eq_false (by omega)
    have t6 : decide (bk < 0) = false := decide_eq_false (by omega)
    have t7 : decide ((n : Int) < bk) = false := decide_eq_false (by omega)
    have t8 : (d == v) = true := by simpa using b20
    have t9 : (d != v) = false := by simpa using b20
    clear b20
    have e1 : pr + i + f - cr = o + a + ch - nn := b21
    have t10 : (pr + i + f - cr == o + a + ch - nn) = true := by simpa using e1
    clear b21 e1
    by_cases hcz : cr = 0
    · have t11 : (cr == 0) = true := by simpa using hcz
      clear hcz b22
      go_wp2
      all_goals (go_ret; exact ⟨rfl, hb02.trans (hb8.mono hb02.size)⟩)
    · have t11 : (cr == 0) = false := by simpa using hcz
      have t12 : (pr + i + f == 0) = true := by simp only [beq_iff_eq]; omega
      clear hcz b22
      go_wp2
      all_goals (go_ret; exact ⟨rfl, hb02.trans (hb8.mono hb02.size)⟩)
end Go.Proofs.Ytmpbpgcmiboflaa
