/-
  The walk of LedgerLines.
-/
import Derived.Test.YtpmbbhefcejjlaaLedW8
namespace Go.Proofs.Ytpmbbhefcejjlaa
open Go.RowKit
set_option linter.unusedVariables false

set_option maxRecDepth 100000 in
set_option maxHeartbeats 4000000 in
theorem LedgerLines_walk (s t : St) (w : World) :
    Calls Try.prog 3 #[s.val, t.val] w fun e w' => e = .returned (.bool true) ∧ Below w.heap.size w w' := by
  have HW := Lib.hid wakes_any
  have HL := Lib.hid (fun W => Lines_any s t W)
  have HR := Lib.hid (fun W => refLines_any s t W)
  have HLE : Hid ((linesAt s t).1.length ≤ 7) := Lib.hid (by
    unfold linesAt
    split
    · simp
    · split
      · simp
      · exact upTo_len s t 7)
  have hiS := st_info s
  have hiT := st_info t
  rw [show s.val = .agg (stCells s) from rfl, show t.val = .agg (stCells t) from rfl] at *
  generalize stCells s = S at *
  generalize stCells t = T at *
  generalize linesAt s t = R at *
  obtain ⟨l, r⟩ := R
  obtain ⟨w1, hw1⟩ : ∃ w1, w1 = (w.alloc (.cells S 23)).alloc (.cells T 23) := ⟨_, rfl⟩
  have hz1 : w1.heap.size = w.heap.size + 2 := by rw [hw1]; simp
  have hb1 : Below w.heap.size w w1 := by rw [hw1]; exact ((Below.refl _ _).alloc (Nat.le_refl _) _).alloc (by simp) _
  have hS1 : w1.heap[w.heap.size]? = some (.cells S 23 (0, 0)) := by rw [hw1]; exact heap_alloc_old (heap_alloc_new _ _)
  have hT1 : w1.heap[w.heap.size + 1]? = some (.cells T 23 (0, 0)) := by rw [hw1, ← World.size_alloc w]; exact heap_alloc_new _ _
  go_enter Try.func3, Try.ntmps3
  go_upto_region 1 with (fail)
  rw [← hw1]
  clear hw1
  go_wp2_with fail
  refine (HW.out _).mono ?_
  rintro e w2 ⟨rfl, hb2⟩
  have hz2 := hb2.size
  have hS2 := (hb2.block w.heap.size (by omega)).trans hS1
  have hT2 := (hb2.block (w.heap.size + 1) (by omega)).trans hT1
  have hb02 := hb1.trans (hb2.mono hb1.size)
  clear hS1 hT1
  go_wp2_with (first
    | (refine wpList_load_row rfl 23 _ rfl _ rfl _ _ _ _ hS2 Try.underlying23 rfl hiS ?_)
    | (refine wpList_load_row rfl 23 _ rfl _ rfl _ _ _ _ hT2 Try.underlying23 rfl hiT ?_))
  refine (HL.out _).mono ?_
  rintro e w3 ⟨v3, rfl, hv3, hb3⟩
  have hz3 := hb3.size
  have hS3 := (hb3.block w.heap.size (by omega)).trans hS2
  have hT3 := (hb3.block (w.heap.size + 1) (by omega)).trans hT2
  have hb03 := hb02.trans (hb3.mono hb02.size)
  clear hS2 hT2
  go_wp2_with (first
    | (refine wpList_load_row rfl 23 _ rfl _ rfl _ _ _ _ hS3 Try.underlying23 rfl hiS ?_)
    | (refine wpList_load_row rfl 23 _ rfl _ rfl _ _ _ _ hT3 Try.underlying23 rfl hiT ?_))
  refine (HR.out _).mono ?_
  rintro e w4 ⟨v4, rfl, hv4, hb4⟩
  obtain ⟨A3, m3, c3, he3, hm3, _, _, hr3, _⟩ := hv3.form
  obtain ⟨A4, m4, c4, he4, hm4, _, _, hr4, _⟩ := hv4.form
  have k3 : m3 ≤ 7 := by have := hm3.out; have := HLE.out; simp only at *; omega
  have k4 : m4 ≤ 7 := by have := hm4.out; have := HLE.out; simp only at *; omega
  have hc := Same_any A3 A4 m3 m4 c3 c4 l l w4 (hr3.below hb4) hr4 (by omega) (by omega)
  rw [show decide (l = l) = true from decide_eq_true rfl] at hc
  have HC := Lib.hid hc
  have hb04 := hb03.trans (hb4.mono hb03.size)
  subst he3 he4
  clear hc hv3 hv4 hr3 hr4 hm3 hm4 HL HR hS3 hT3 hiS hiT
  go_wp2_with fail
  refine HC.out.mono ?_
  rintro e w5 ⟨rfl, hb5⟩
  go_wp2
  go_ret
  exact ⟨rfl, hb04.trans (hb5.mono hb04.size)⟩
end Go.Proofs.Ytpmbbhefcejjlaa
