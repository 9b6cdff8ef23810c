/-
  The walk of wakes.
-/
import Derived.Test.YtpmbbhefcejjlaaLedW5
import Derived.Test.YtpmbbhefcejjlaaLedW7
namespace Go.Proofs.Ytpmbbhefcejjlaa
open Go.RowKit
set_option linter.unusedVariables false

def S0 : St := ⟨0, 0, 0, 0, 0, 0, 0, 0, 0, 0, 0, 0⟩
def S1 : St := ⟨0, 0, 10000, 0, 0, 0, 10000, 0, 0, 0, 0, 0⟩
def S2 : St := ⟨0, 0, 1, 0, 0, 0, 0, 0, 0, 0, 0, 0⟩
theorem built_S0 : Try.prog.built 23 [] = some (stCells S0) := by kernel_rfl
theorem built_S1 : Try.prog.built 23 [(2, .int .i64 10000), (6, .int .i64 10000)] = some (stCells S1) := by kernel_rfl
theorem built_S2 : Try.prog.built 23 [(2, .int .i64 1)] = some (stCells S2) := by kernel_rfl
def L1 : List (Int × Int) := [(1, -10000), (2, 10000)]
theorem lines_S1 : linesAt S0 S1 = (L1, 0) := by decide
theorem lines_S2 : linesAt S0 S2 = ([], 52) := by decide
theorem build_S0 (a : Act) : Try.prog.built 23 ((#[] : Array (Nat × Operand)).map fun (i, x) => (i, a.eval x)).toList = some (stCells S0) := by rw [← built_S0]; simp
theorem build_S1 (a : Act) : Try.prog.built 23 ((#[(2, .const (.int .i64 10000)), (6, .const (.int .i64 10000))] : Array (Nat × Operand)).map fun (i, x) => (i, a.eval x)).toList = some (stCells S1) := by rw [← built_S1]; simp [Act.eval]
theorem build_S2 (a : Act) : Try.prog.built 23 ((#[(2, .const (.int .i64 1))] : Array (Nat × Operand)).map fun (i, x) => (i, a.eval x)).toList = some (stCells S2) := by rw [← built_S2]; simp [Act.eval]
set_option maxRecDepth 100000 in
set_option maxHeartbeats 8000000 in
theorem wakes_any (w : World) :
    Calls Try.prog 9 #[] w fun e w' => e = .returned (.bool true) ∧ Below w.heap.size w w' := by
  have HL1 : Hid (∀ W, Calls Try.prog 10 #[.agg (stCells S0), .agg (stCells S1)] W (Says W (L1, 0))) := Lib.hid fun W => by have := Lines_any S0 S1 W; rw [lines_S1] at this; exact this
  have HL2 : Hid (∀ W, Calls Try.prog 10 #[.agg (stCells S0), .agg (stCells S2)] W (Says W ([], 52))) := Lib.hid fun W => by have := Lines_any S0 S2 W; rw [lines_S2] at this; exact this
  have HP := Lib.hid (fun g W => Post_first S0 S1 g W L1 lines_S1 (by decide) (by decide))
  rw [show S0.val = .agg (stCells S0) from rfl, show S1.val = .agg (stCells S1) from rfl] at HP
  have HB0 := Lib.hid build_S0
  have HB1 := Lib.hid build_S1
  have HB2 := Lib.hid build_S2
  generalize stCells S0 = C0 at *
  generalize stCells S1 = C1 at *
  generalize stCells S2 = C2 at *
  go_enter Try.func9, Try.ntmps9
  go_wp2_with (first
    | (refine wpList_buildTo rfl 23 _ rfl _ rfl _ (HB0.out _) ?_)
    | (refine wpList_buildTo rfl 23 _ rfl _ rfl _ (HB1.out _) ?_))
  refine (HL1.out _).mono ?_
  rintro e w1 ⟨v1, rfl, hv1, hb1⟩
  go_wp2_with (first
    | (refine wpList_buildTo rfl 23 _ rfl _ rfl _ (HB0.out _) ?_)
    | (refine wpList_buildTo rfl 23 _ rfl _ rfl _ (HB2.out _) ?_))
  refine (HL2.out _).mono ?_
  rintro e w2 ⟨v2, rfl, hv2, hb2⟩
  go_wp2_with fail
  refine (New_any _).mono ?_
  rintro e w3 ⟨rfl, hw3⟩
  have hz3 : w3.heap.size = w2.heap.size + 1 := by rw [hw3]; simp
  have hJ3 : w3.heap[w2.heap.size]? = some (.cells #[.slice none 0 0, .int .i64 (-719163)] 70 (0, 0)) := by rw [hw3]; exact heap_alloc_new _ _
  have hb3 : Below w2.heap.size w2 w3 := by rw [hw3]; exact (Below.refl _ _).alloc (Nat.le_refl _) _
  clear hw3
  go_wp2_with fail
  refine (Closed_any _ _ _ _ hJ3).mono ?_
  rintro e w' ⟨rfl, rfl⟩
  go_wp2_with fail
  refine (Close_ok _ _ _ _ 5 (by omega) (by omega) (by omega) hJ3).mono ?_
  rintro e w4 ⟨rfl, hw4⟩
  have hz4 : w4.heap.size = w2.heap.size + 1 := by rw [hw4, setRow_size, hz3]
  have hJ4 : w4.heap[w2.heap.size]? = some (.cells #[.slice none 0 0, .int .i64 5] 70 (0, 0)) := by rw [hw4]; exact setRow_heap _ _ _ _ _ _ hJ3
  have hb4 : Below w2.heap.size w2 w4 := by rw [hw4]; exact below_setRow hb3 (Nat.le_refl _) _
  clear hw4 hJ3
  go_wp2_with fail
  refine (Close_late _ _ _ _ 5 (by omega) (by omega) (by omega) hJ4).mono ?_
  rintro e w' ⟨rfl, rfl⟩
  go_wp2_with (first
    | (refine wpList_buildTo rfl 23 _ rfl _ rfl _ (HB0.out _) ?_)
    | (refine wpList_buildTo rfl 23 _ rfl _ rfl _ (HB1.out _) ?_))
  refine (HP.out w2.heap.size _ (by omega) hJ4).mono ?_
  rintro e w5 ⟨v5, rfl, hv5, hb5⟩
  have hb05 : Below w2.heap.size w2 w5 := hb4.trans hb5
  have hz1 := hb1.size
  have hz2 := hb2.size
  have hz5 := hb5.size
  obtain ⟨A5, m5, c5, he5, hm5, _, _, hr5, _⟩ := hv5.form
  obtain ⟨A1, m1, c1, he1, hm1, _, _, hr1, hlo1⟩ := hv1.form
  have hm5' : m5 = 2 := hm5.out.symm
  have hm1' : m1 = 2 := hm1.out.symm
  subst he5 he1 hm5' hm1'
  have hr15 : RdL w5 A1 2 L1 := by
    cases A1 with
    | none => obtain ⟨_, _, h⟩ := hr1.addr (by omega); cases h
    | some a =>
      obtain ⟨k, rfl, _, hk⟩ := hlo1 a rfl
      exact (hr1.below hb2).lo (by omega) hb05
  have hb06 : Below w.heap.size w w5 := hb1.trans ((hb2.trans (hb05.mono hz2)).mono hz1)
  have HR5 := Lib.hid hr5
  have HR15 := Lib.hid hr15
  unfold pval
  clear hr5 hr15 hr1 hv5 hv1 hv2 hm5 hm1 hlo1 HP HL1 HL2 HB0 HB1 HB2 hJ4
  go_upto_region 7 with (fail)
  obtain ⟨w6, hw6⟩ : ∃ w6, w6 = w5.alloc (.cells #[.int .i64 1, .int .i64 6, .string ⟨#[97]⟩, .slice A5 2 c5] 49) := ⟨_, rfl⟩
  have hP6 : w6.heap[w5.heap.size]? = some (.cells #[.int .i64 1, .int .i64 6, .string ⟨#[97]⟩, .slice A5 2 c5] 49 (0, 0)) := by rw [hw6]; exact heap_alloc_new _ _
  have hb56 : Below w.heap.size w w6 := by rw [hw6]; exact hb06.alloc hb06.size _
  have HR6 : Hid (RdL w6 A5 2 L1) := Lib.hid (by rw [hw6]; exact HR5.out.alloc _)
  have HR16 : Hid (RdL w6 A1 2 L1) := Lib.hid (by rw [hw6]; exact HR15.out.alloc _)
  have hz6 : w6.heap.size = w5.heap.size + 1 := by rw [hw6]; simp
  rw [← hw6]
  clear hw6 HR5 HR15
  have q0 : w6.cell? ⟨w5.heap.size, 0, none⟩ = some (.int .i64 1) := by rw [cell_of_row _ _ _ _ _ _ hP6]; rfl
  have q1 : w6.cell? ⟨w5.heap.size, 1, none⟩ = some (.int .i64 6) := by rw [cell_of_row _ _ _ _ _ _ hP6]; rfl
  have hLit : Hid (#[.int .i64 1, .int .i64 (-10000), .int .i64 2, .int .i64 10000] = (lcs L1).toArray) := Lib.hid rfl
  have hc7 : Calls Try.prog 12 #[.slice A1 2 c1, .slice (some ⟨w6.heap.size, 0, none⟩) 2 2] (w6.alloc (.cells #[.int .i64 1, .int .i64 (-10000), .int .i64 2, .int .i64 10000] 35)) fun e w' => e = .returned (.bool (decide (L1 = L1))) ∧ Below (w6.heap.size + 1) (w6.alloc (.cells #[.int .i64 1, .int .i64 (-10000), .int .i64 2, .int .i64 10000] 35)) w' := by
    rw [← World.size_alloc w6]
    exact Same_any A1 (some ⟨w6.heap.size, 0, none⟩) 2 2 c1 2 L1 L1 _ (HR16.out.alloc _) (RdL.lit w6 _ _ hLit.out 2 rfl _) (by omega) (by omega)
  rw [show decide (L1 = L1) = true from decide_eq_true rfl, hz6] at hc7
  have HC7 := Lib.hid hc7
  clear hc7
  go_wp2_with fail
  refine HC7.out.mono ?_
  rintro e w7 ⟨rfl, hb7⟩
  have hb67 : Below w6.heap.size w6 w7 := ((Below.refl _ _).alloc (Nat.le_refl _) _).trans (hb7.mono (by omega))
  have q3 : w7.cell? ⟨w5.heap.size, 3, none⟩ = some (.slice A5 2 c5) := by rw [cell_of_row _ _ _ _ _ _ ((hb67.block w5.heap.size (by omega)).trans hP6)]; rfl
  have hc8 := Same_any A5 A1 2 2 c5 c1 L1 L1 w7 (HR6.out.below hb67) (HR16.out.below hb67) (by omega) (by omega)
  rw [show decide (L1 = L1) = true from decide_eq_true rfl] at hc8
  have HC8 := Lib.hid hc8
  have hb8 := hb56.trans (hb67.mono hb56.size)
  clear hc8 HC7 hb67 hb7
  go_wp2_with fail
  refine HC8.out.mono ?_
  rintro e w8 ⟨rfl, hb9⟩
  go_wp2
  go_ret
  exact ⟨rfl, hb8.trans (hb9.mono hb8.size)⟩
end Go.Proofs.Ytpmbbhefcejjlaa
