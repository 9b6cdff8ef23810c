/-
  The walk of LedgerNil.
-/
import Derived.Test.YtpmbbhefcejjlaaLedN
namespace Go.Proofs.Ytpmbbhefcejjlaa
open Go.RowKit
set_option linter.unusedVariables false

set_option maxRecDepth 100000 in
set_option maxHeartbeats 4000000 in
theorem LedgerNil_walk (a : Ac) (w : World) :
    Calls Try.prog 7 #[a.val] w fun e w' => e = .returned (.bool true) ∧ Below w.heap.size w w' := by
  have HW := Lib.hid wakes_any
  have HP := Lib.hid (fun W => Post_nil a.was a.now W a.day a.loan)
  rw [show a.was.val = .agg (stCells a.was) from rfl, show a.now.val = .agg (stCells a.now) from rfl] at HP
  have H1 := Lib.hid (ac_heads a)
  have H2 := Lib.hid (ac_was a)
  have H3 := Lib.hid (ac_now a)
  have hiS := st_info a.was
  have hiT := st_info a.now
  have HX1 := Lib.hid Close_nil
  have HX2 := Lib.hid Closed_nil
  have HX3 := Lib.hid Postings_nil
  have HX4 := Lib.hid Trial_nil
  have HX5 := Lib.hid Balance_nil
  rw [show a.val = .agg (acCells a) from rfl]
  generalize acCells a = C at *
  generalize stCells a.was = S at *
  generalize stCells a.now = T at *
  generalize a.day = day at *
  generalize a.till = till at *
  generalize a.loan = loan at *
  obtain ⟨w1, hw1⟩ : ∃ w1, w1 = w.alloc (.cells C 55) := ⟨_, rfl⟩
  have hz1 : w1.heap.size = w.heap.size + 1 := by rw [hw1]; simp
  have hb1 : Below w.heap.size w w1 := by rw [hw1]; exact (Below.refl _ _).alloc (Nat.le_refl _) _
  have hC1 : w1.heap[w.heap.size]? = some (.cells C 55 (0, 0)) := by rw [hw1]; exact heap_alloc_new _ _
  have HC : Hid (∀ W, Below w1.heap.size w1 W → W.cell? ⟨w.heap.size, 1, none⟩ = some (.int .i64 day) ∧ W.cell? ⟨w.heap.size, 2, none⟩ = some (.int .i64 till) ∧ W.cell? ⟨w.heap.size, 3, none⟩ = some (.string loan)) := Lib.hid fun W hW => by
    have hr := (hW.block w.heap.size (by omega)).trans hC1
    exact ⟨by rw [cell_of_row _ _ _ _ _ _ hr]; exact H1.out.1, by rw [cell_of_row _ _ _ _ _ _ hr]; exact H1.out.2.1, by rw [cell_of_row _ _ _ _ _ _ hr]; exact H1.out.2.2⟩
  have HS : Hid (∀ j u, S.toList[j]? = some u → w1.cell? ⟨w.heap.size, 4 + j, none⟩ = some u) := Lib.hid fun j u h => by
    rw [cell_of_row _ _ _ _ _ _ hC1]; exact H2.out j u h
  have HT : Hid (∀ j u, T.toList[j]? = some u → w1.cell? ⟨w.heap.size, 16 + j, none⟩ = some u) := Lib.hid fun j u h => by
    rw [cell_of_row _ _ _ _ _ _ hC1]; exact H3.out j u h
  obtain ⟨d1, d2, d3⟩ := HC.out w1 (Below.refl _ _)
  clear H1 H2 H3 hC1
  go_enter Try.func7, Try.ntmps7
  go_upto_region 1 with (fail)
  rw [← hw1]
  clear hw1
  go_wp2_with (first
    | (refine load_mid rfl 23 _ rfl w.heap.size 4 rfl S _ HS.out Try.underlying23 rfl hiS ?_)
    | (refine load_mid rfl 23 _ rfl w.heap.size 16 rfl T _ HT.out Try.underlying23 rfl hiT ?_))
  refine (HP.out _).mono ?_
  rintro e w2 ⟨rfl, hb2⟩
  unfold pval
  clear HP HS HT hiS hiT d1 d2 d3
  go_upto_region 3 with (fail)
  obtain ⟨w3, hw3⟩ : ∃ w3, w3 = w2.alloc (.cells #[.int .i64 0, .int .i64 0, .string ⟨#[]⟩, .slice none 0 0] 49) := ⟨_, rfl⟩
  have hz2 := hb2.size
  have hz3 : w3.heap.size = w2.heap.size + 1 := by rw [hw3]; simp
  have hP3 : w3.heap[w2.heap.size]? = some (.cells #[.int .i64 0, .int .i64 0, .string ⟨#[]⟩, .slice none 0 0] 49 (0, 0)) := by rw [hw3]; exact heap_alloc_new _ _
  have hb3 : Below w1.heap.size w1 w3 := by rw [hw3]; exact hb2.alloc hb2.size _
  rw [← hw3]
  clear hw3
  have HK : Hid (∀ W, Below w3.heap.size w3 W → W.cell? ⟨w.heap.size, 1, none⟩ = some (.int .i64 day) ∧ W.cell? ⟨w.heap.size, 2, none⟩ = some (.int .i64 till) ∧ W.cell? ⟨w.heap.size, 3, none⟩ = some (.string loan) ∧ W.cell? ⟨w2.heap.size, 0, none⟩ = some (.int .i64 0) ∧ W.cell? ⟨w2.heap.size, 3, none⟩ = some (.slice none 0 0)) := Lib.hid fun W hW => by
    obtain ⟨x1, x2, x3⟩ := HC.out W (hb3.trans (hW.mono hb3.size))
    have hr := (hW.block w2.heap.size (by omega)).trans hP3
    exact ⟨x1, x2, x3, by rw [cell_of_row _ _ _ _ _ _ hr]; rfl, by rw [cell_of_row _ _ _ _ _ _ hr]; rfl⟩
  clear HC hP3
  go_wp2_with fail
  refine (HW.out _).mono ?_
  rintro e w4 ⟨rfl, hb4⟩
  obtain ⟨a1, a2, a3, a4, a5⟩ := HK.out w4 hb4
  go_wp2_with fail
  refine (HX1.out _ _).mono ?_
  rintro e w5 ⟨rfl, rfl⟩
  go_wp2_with fail
  refine (HX2.out _).mono ?_
  rintro e w5 ⟨rfl, rfl⟩
  go_wp2_with fail
  refine (HX3.out _ _ _).mono ?_
  rintro e w5 ⟨rfl, rfl⟩
  go_wp2_with fail
  refine (HX4.out _ _ _).mono ?_
  rintro e w5 ⟨rfl, hb5⟩
  have hb45 := hb4.trans (hb5.mono hb4.size)
  obtain ⟨b1, b2, b3, b4, b5⟩ := HK.out w5 hb45
  go_wp2_with fail
  refine (HX5.out _ _).mono ?_
  rintro e w6 ⟨rfl, hb6⟩
  go_wp2
  go_ret
  exact ⟨rfl, hb1.trans ((hb3.trans ((hb45.trans (hb6.mono hb45.size)).mono hb3.size)).mono hb1.size)⟩
end Go.Proofs.Ytpmbbhefcejjlaa
