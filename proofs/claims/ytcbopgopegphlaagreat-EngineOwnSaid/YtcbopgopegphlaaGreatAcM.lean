/-
  The laws' comparisons of lists of events and of products that are alike. No statement is proved here.
-/
import Derived.Test.YtcbopgopegphlaaGreatAcWW
import Derived.Laws.StructEq
namespace Go.Proofs.YtcbopgopegphlaaGreat
open Go.RowKit
set_option linter.unusedVariables false

set_option maxRecDepth 100000 in
set_option maxHeartbeats 1000000 in
theorem ev_equal (e : Ev) (w : World) : (Op.equalIn 10000 39 (.agg (evCells e)) (.agg (evCells e))).run Tryz.prog w = .ok true w := by
  have hf : Tryz.prog.fieldsOf 39 = (match Tryz.prog.underlying 39 with | some (.struct fs) => fs | _ => #[]) := rfl
  rw [Tryz.underlying39] at hf
  simp only at hf
  have e1 := fun a W => run_equalIn_int (P := Tryz.prog) W 9998 3 .i64 .i64 a a Tryz.underlying3
  have e2 := fun a W => run_equalIn_int (P := Tryz.prog) W 9998 2 .i64 .i64 a a Tryz.underlying2
  have e3 := fun a W => run_equalIn_string (P := Tryz.prog) W 9998 9 a a Tryz.underlying9
  obtain ⟨a0, a1, a2, a3, a4, a5⟩ := e
  unfold evCells
  rw [show (10000 : Nat) = 9999 + 1 from rfl, run_equalIn_struct w 9999 _ _ _ (by rw [hf]; exact Tryz.underlying39) (by kernel_rfl), hf]
  have p0 : ∀ W, (part 3 #[.int .i64 a0, .string a1, .int .i64 a2, .int .i64 a3, .int .i64 a4, .int .i64 a5] 0).run Tryz.prog W = .ok (.int .i64 a0) W := fun W => by kernel_rfl
  have p1 : ∀ W, (part 9 #[.int .i64 a0, .string a1, .int .i64 a2, .int .i64 a3, .int .i64 a4, .int .i64 a5] 1).run Tryz.prog W = .ok (.string a1) W := fun W => by kernel_rfl
  have p2 : ∀ W, (part 3 #[.int .i64 a0, .string a1, .int .i64 a2, .int .i64 a3, .int .i64 a4, .int .i64 a5] 2).run Tryz.prog W = .ok (.int .i64 a2) W := fun W => by kernel_rfl
  have p3 : ∀ W, (part 3 #[.int .i64 a0, .string a1, .int .i64 a2, .int .i64 a3, .int .i64 a4, .int .i64 a5] 3).run Tryz.prog W = .ok (.int .i64 a3) W := fun W => by kernel_rfl
  have p4 : ∀ W, (part 2 #[.int .i64 a0, .string a1, .int .i64 a2, .int .i64 a3, .int .i64 a4, .int .i64 a5] 4).run Tryz.prog W = .ok (.int .i64 a4) W := fun W => by kernel_rfl
  have p5 : ∀ W, (part 3 #[.int .i64 a0, .string a1, .int .i64 a2, .int .i64 a3, .int .i64 a4, .int .i64 a5] 5).run Tryz.prog W = .ok (.int .i64 a5) W := fun W => by kernel_rfl
  have q1 : ∀ a W, (Op.equalIn 9999 3 (.int .i64 a) (.int .i64 a)).run Tryz.prog W = .ok true W := fun a W => by rw [show (9999 : Nat) = 9998 + 1 from rfl, e1]; simp
  have q2 : ∀ a W, (Op.equalIn 9999 2 (.int .i64 a) (.int .i64 a)).run Tryz.prog W = .ok true W := fun a W => by rw [show (9999 : Nat) = 9998 + 1 from rfl, e2]; simp
  have q3 : ∀ a W, (Op.equalIn 9999 9 (.string a) (.string a)).run Tryz.prog W = .ok true W := fun a W => by rw [show (9999 : Nat) = 9998 + 1 from rfl, e3]; simp
  simp only [Op.eqFields, Sem.run_bind, Sem.run_ite, p0, p1, p2, p3, p4, p5, q1, q2, q3, Result.andThen_ok]
  simp
theorem ev_guard : Tryz.prog.eqGuardType Tryz.prog.depth 39 = false := by kernel_rfl
set_option maxRecDepth 100000 in
set_option maxHeartbeats 2000000 in
theorem SameE_any (E F : Option Addr) (m c d : Nat) (l : List Ev) (w : World) (hE : RdE w E m l) (hF : RdE w F m l) (hm : m ≤ 8796093022208) :
    Calls Tryz.prog 14 #[.slice E m c, .slice F m d] w fun e w' => e = .returned (.bool true) ∧ Below w.heap.size w w' := by
  have hl1 := Lib.hid hE.1
  go_enter Tryz.func14, Tryz.ntmps14
  go_wp2
  go_loopw [13] (fun i wr => ∃ j : Nat, j ≤ m ∧ i = .int .i64 j ∧ Hid (Below w.heap.size w wr)) (fun i _ => m - (intOf i).toNat)
  case atStart => exact ⟨0, by omega, rfl, Lib.hid (Below.refl _ _)⟩
  case round =>
    obtain ⟨j, hj, rfl, hb⟩ := hrel
    obtain ⟨wa, rfl⟩ : ∃ x, x = wr := ⟨_, rfl⟩
    by_cases hlt : j < m
    · obtain ⟨a, o, rfl, hc⟩ := (hE.below hb.out).2 (by omega)
      obtain ⟨b, q, rfl, hd⟩ := (hF.below hb.out).2 (by omega)
      have h1 : j < l.length := by rw [hl1.out]; exact hlt
      have hc0 := hc j h1
      have hd0 := hd j h1
      have g1 : ∀ W, (Op.equalIn 10000 39 (.agg (evCells l[j])) (.agg (evCells l[j]))).run Tryz.prog W = .ok true W := fun W => ev_equal l[j] W
      clear hE hF hc hd
      generalize l[j] = x at *
      obtain ⟨x0, x1, x2, x3, x4, x5⟩ := x
      unfold evCells at *
      have c0 := hc0 0 (.int .i64 x0) rfl
      have c1 := hc0 1 (.string x1) rfl
      have c2 := hc0 2 (.int .i64 x2) rfl
      have c3 := hc0 3 (.int .i64 x3) rfl
      have c4 := hc0 4 (.int .i64 x4) rfl
      have c5 := hc0 5 (.int .i64 x5) rfl
      simp only [Nat.add_zero] at c0
      have d0 := hd0 0 (.int .i64 x0) rfl
      have d1 := hd0 1 (.string x1) rfl
      have d2 := hd0 2 (.int .i64 x2) rfl
      have d3 := hd0 3 (.int .i64 x3) rfl
      have d4 := hd0 4 (.int .i64 x4) rfl
      have d5 := hd0 5 (.int .i64 x5) rfl
      simp only [Nat.add_zero] at d0
      clear hc0 hd0 h1
      have g4 := ev_guard
      go_upto_region 6 with (fail)
      go_quiet (fail)
      go_wp2
      go_roundw
      case rel => exact ⟨j + 1, by omega, by go_num, Lib.hid (by first | exact belowD hb.out _ | exact below_drewN hb.out _ | exact Below.drew hb.out)⟩
      case measure => simp [intOf]; omega
    · go_wp2
      go_ret
      exact ⟨rfl, hb.out⟩
set_option maxRecDepth 100000 in
set_option maxHeartbeats 4000000 in
theorem SameP_any (p : Prod) (A B : Option Addr) (n c d : Nat) (w : World) (hA : RdI w A n p.bounds) (hB : RdI w B n p.bounds) (hn : n ≤ 17592186044416) :
    Calls Tryz.prog 16 #[p.val (.slice A n c), p.val (.slice B n d)] w fun e w' => e = .returned (.bool true) ∧ Below w.heap.size w w' := by
  obtain ⟨name, rate, conv, step, count, o1, o2, o3, bounds⟩ := p
  simp only [Prod.val, pCells] at hA hB ⊢
  obtain ⟨w1, hw1⟩ : ∃ w1, w1 = (w.alloc (.cells #[.string name, .int .i64 rate, .int .i64 conv, .int .i64 step, .int .i64 count, .int .i64 o1, .int .i64 o2, .int .i64 o3, .slice A n c] 25)).alloc (.cells #[.string name, .int .i64 rate, .int .i64 conv, .int .i64 step, .int .i64 count, .int .i64 o1, .int .i64 o2, .int .i64 o3, .slice B n d] 25) := ⟨_, rfl⟩
  have hb1 : Below w.heap.size w w1 := by rw [hw1]; exact ((Below.refl _ _).alloc (Nat.le_refl _) _).alloc (by simp) _
  have hS1 : w1.heap[w.heap.size]? = some (.cells #[.string name, .int .i64 rate, .int .i64 conv, .int .i64 step, .int .i64 count, .int .i64 o1, .int .i64 o2, .int .i64 o3, .slice A n c] 25 (0, 0)) := by rw [hw1]; exact heap_old (heap_alloc_new _ _)
  have hT1 : w1.heap[w.heap.size + 1]? = some (.cells #[.string name, .int .i64 rate, .int .i64 conv, .int .i64 step, .int .i64 count, .int .i64 o1, .int .i64 o2, .int .i64 o3, .slice B n d] 25 (0, 0)) := by rw [hw1, ← World.size_alloc w]; exact heap_alloc_new _ _
  have hz1 : w1.heap.size = w.heap.size + 2 := by rw [hw1]; simp
  have HA := Lib.hid (hA.below hb1)
  have HB := Lib.hid (hB.below hb1)
  have hlen := Lib.hid hA.len
  clear hA hB
  have a0 : w1.cell? ⟨w.heap.size, 0, none⟩ = some (.string name) := by rw [cell_of_row _ _ _ _ _ _ hS1]; rfl
  have a1 : w1.cell? ⟨w.heap.size, 1, none⟩ = some (.int .i64 rate) := by rw [cell_of_row _ _ _ _ _ _ hS1]; rfl
  have a2 : w1.cell? ⟨w.heap.size, 2, none⟩ = some (.int .i64 conv) := by rw [cell_of_row _ _ _ _ _ _ hS1]; rfl
  have a3 : w1.cell? ⟨w.heap.size, 3, none⟩ = some (.int .i64 step) := by rw [cell_of_row _ _ _ _ _ _ hS1]; rfl
  have a4 : w1.cell? ⟨w.heap.size, 4, none⟩ = some (.int .i64 count) := by rw [cell_of_row _ _ _ _ _ _ hS1]; rfl
  have a5 : w1.cell? ⟨w.heap.size, 5, none⟩ = some (.int .i64 o1) := by rw [cell_of_row _ _ _ _ _ _ hS1]; rfl
  have a6 : w1.cell? ⟨w.heap.size, 6, none⟩ = some (.int .i64 o2) := by rw [cell_of_row _ _ _ _ _ _ hS1]; rfl
  have a7 : w1.cell? ⟨w.heap.size, 7, none⟩ = some (.int .i64 o3) := by rw [cell_of_row _ _ _ _ _ _ hS1]; rfl
  have a8 : w1.cell? ⟨w.heap.size, 8, none⟩ = some (.slice A n c) := by rw [cell_of_row _ _ _ _ _ _ hS1]; rfl
  have b0 : w1.cell? ⟨w.heap.size + 1, 0, none⟩ = some (.string name) := by rw [cell_of_row _ _ _ _ _ _ hT1]; rfl
  have b1 : w1.cell? ⟨w.heap.size + 1, 1, none⟩ = some (.int .i64 rate) := by rw [cell_of_row _ _ _ _ _ _ hT1]; rfl
  have b2 : w1.cell? ⟨w.heap.size + 1, 2, none⟩ = some (.int .i64 conv) := by rw [cell_of_row _ _ _ _ _ _ hT1]; rfl
  have b3 : w1.cell? ⟨w.heap.size + 1, 3, none⟩ = some (.int .i64 step) := by rw [cell_of_row _ _ _ _ _ _ hT1]; rfl
  have b4 : w1.cell? ⟨w.heap.size + 1, 4, none⟩ = some (.int .i64 count) := by rw [cell_of_row _ _ _ _ _ _ hT1]; rfl
  have b5 : w1.cell? ⟨w.heap.size + 1, 5, none⟩ = some (.int .i64 o1) := by rw [cell_of_row _ _ _ _ _ _ hT1]; rfl
  have b6 : w1.cell? ⟨w.heap.size + 1, 6, none⟩ = some (.int .i64 o2) := by rw [cell_of_row _ _ _ _ _ _ hT1]; rfl
  have b7 : w1.cell? ⟨w.heap.size + 1, 7, none⟩ = some (.int .i64 o3) := by rw [cell_of_row _ _ _ _ _ _ hT1]; rfl
  have b8 : w1.cell? ⟨w.heap.size + 1, 8, none⟩ = some (.slice B n d) := by rw [cell_of_row _ _ _ _ _ _ hT1]; rfl
  have heq : ∀ W, (Op.equalIn 10000 22 (.agg #[.int .i64 o1, .int .i64 o2, .int .i64 o3]) (.agg #[.int .i64 o1, .int .i64 o2, .int .i64 o3])).run Tryz.prog W = .ok true W := fun W => by
    rw [equal3]
    simp
  have g22 : Tryz.prog.eqGuardType Tryz.prog.depth 22 = false := by kernel_rfl
  have hself : (name.toList == name.toList) = true := by simp
  go_enter Tryz.func16, Tryz.ntmps16
  go_upto_region 1 with (fail)
  rw [← hw1]
  clear hw1
  go_upto_region 3 with (fail)
  clear a0 a1 a2 a3 a4 a5 a6 a7 b0 b1 b2 b3 b4 b5 b6 b7 heq g22 hself
  go_wp2
  go_loopw [58] (fun i wr => ∃ j : Nat, j ≤ n ∧ i = .int .i64 j ∧ Hid (Below w1.heap.size w1 wr)) (fun i _ => n - (intOf i).toNat)
  case atStart => exact ⟨0, by omega, rfl, Lib.hid (Below.refl _ _)⟩
  case round =>
    obtain ⟨j, hj, rfl, hb⟩ := hrel
    obtain ⟨wa, rfl⟩ : ∃ x, x = wr := ⟨_, rfl⟩
    by_cases hlt : j < n
    · have hA2 := HA.out.below hb.out
      have hB2 := HB.out.below hb.out
      obtain ⟨b, off, rfl⟩ := hA2.addr (by omega)
      obtain ⟨b', off', rfl⟩ := hB2.addr (by omega)
      have hj' : j < bounds.length := by rw [hlen.out]; exact hlt
      have yj := hA2.cell j hj'
      have zj := hB2.cell j hj'
      have y8 := cell_later hb.out a8
      have z8 := cell_later hb.out b8
      clear hA2 hB2
      generalize bounds[j] = bj at *
      go_upto_region 6 with (fail)
      go_quiet (fail)
      go_wp2
      go_roundw
      case rel => exact ⟨j + 1, by omega, by go_num, Lib.hid (by first | exact belowD hb.out _ | exact below_drewN hb.out _ | exact Below.drew hb.out)⟩
      case measure => simp [intOf]; omega
    · have y8 := cell_later hb.out a8
      go_wp2
      go_ret
      exact ⟨rfl, hb1.trans (hb.out.mono hb1.size)⟩
end Go.Proofs.YtcbopgopegphlaaGreat
