/-
  A nil engine refuses; Events. No statement is proved here.
-/
import Derived.Test.YtcbopgopegphlaaGreatEnH
namespace Go.Proofs.YtcbopgopegphlaaGreat
open Go.RowKit
set_option linter.unusedVariables false
set_option maxRecDepth 100000 in
set_option maxHeartbeats 1000000 in
theorem Add_nil (e : Ev) (w : World) : Calls Tryz.prog 9 #[.pointer none, e.val] w fun x w' => x = .returned (.int .i64 1) ∧ Below w.heap.size w w' := by
  unfold Ev.val evCells
  go_enter Tryz.func9, Tryz.ntmps9
  go_wp2
  go_ret
  exact ⟨rfl, (Below.refl _ _).alloc (Nat.le_refl _) _⟩
set_option maxRecDepth 100000 in
set_option maxHeartbeats 1000000 in
theorem Events_nil (w : World) : Calls Tryz.prog 15 #[.pointer none] w fun x w' => x = .returned (.slice none 0 0) ∧ w' = w := by
  go_enter Tryz.func15, Tryz.ntmps15
  go_wp2
  go_ret
  exact ⟨rfl, rfl⟩
theorem rowSt (w : World) : (w.alloc (.cells #[.int .i64 0, .int .i64 0, .int .i64 0, .int .i64 0, .int .i64 0, .int .i64 0, .int .i64 0, .int .i64 0, .int .i64 0, .int .i64 0, .int .i64 0, .int .i64 0] 45)).heap[w.heap.size]? = some (.cells (stCells St.zero) 45 (0, 0)) := heap_alloc_new _ _
set_option maxRecDepth 100000 in
set_option maxHeartbeats 1000000 in
theorem At_nil (v : Int) (w : World) : Calls Tryz.prog 11 #[.pointer none, .int .i64 v] w fun x w' => x = .returned (.tuple #[St.zero.val, .int .i64 1]) ∧ Below w.heap.size w w' := by
  have hT := rowSt w
  have hb : Below w.heap.size w (w.alloc (.cells #[.int .i64 0, .int .i64 0, .int .i64 0, .int .i64 0, .int .i64 0, .int .i64 0, .int .i64 0, .int .i64 0, .int .i64 0, .int .i64 0, .int .i64 0, .int .i64 0] 45)) := (Below.refl _ _).alloc (Nat.le_refl _) _
  go_enter Tryz.func11, Tryz.ntmps11
  go_upto_region 1 with (fail)
  generalize w.alloc _ = w1 at *
  go_wp2_with (first
    | (refine wpList_buildTo rfl 45 _ rfl _ rfl _ built_z ?_)
    | (refine wpList_store_rowTo rfl 45 _ _ rfl rfl _ _ rfl rfl _ _ hT (info_st St.zero) rfl (st_one _) ?_))
  exact bodyPost_ret (results_cell2E (fn := Tryz.f11) rfl _ _ w.heap.size 45 (stCells St.zero) (0, 0) _ rfl (setRow_heap _ _ _ _ _ _ hT) Tryz.underlying45 rfl (info_st St.zero)) rfl ⟨rfl, below_row hb (Nat.le_refl _) _⟩
set_option maxRecDepth 100000 in
set_option maxHeartbeats 1000000 in
theorem AsOf_nil (v b : Int) (w : World) : Calls Tryz.prog 13 #[.pointer none, .int .i64 v, .int .i64 b] w fun x w' => x = .returned (.tuple #[St.zero.val, .int .i64 1]) ∧ Below w.heap.size w w' := by
  have hT := rowSt w
  have hb : Below w.heap.size w (w.alloc (.cells #[.int .i64 0, .int .i64 0, .int .i64 0, .int .i64 0, .int .i64 0, .int .i64 0, .int .i64 0, .int .i64 0, .int .i64 0, .int .i64 0, .int .i64 0, .int .i64 0] 45)) := (Below.refl _ _).alloc (Nat.le_refl _) _
  go_enter Tryz.func13, Tryz.ntmps13
  go_upto_region 1 with (fail)
  generalize w.alloc _ = w1 at *
  go_wp2_with (first
    | (refine wpList_buildTo rfl 45 _ rfl _ rfl _ built_z ?_)
    | (refine wpList_store_rowTo rfl 45 _ _ rfl rfl _ _ rfl rfl _ _ hT (info_st St.zero) rfl (st_one _) ?_))
  exact bodyPost_ret (results_cell2E (fn := Tryz.f13) rfl _ _ w.heap.size 45 (stCells St.zero) (0, 0) _ rfl (setRow_heap _ _ _ _ _ _ hT) Tryz.underlying45 rfl (info_st St.zero)) rfl ⟨rfl, below_row hb (Nat.le_refl _) _⟩
theorem own_rdE {w : World} {base n : Nat} {v : Value} {l : List Ev} (h : w.ownsRow base 39 6 v n (flatE l)) : ∃ A c, v = .slice A n c ∧ RdE w A n l := by
  obtain ⟨A, c, hv⟩ := own_slice h
  refine ⟨A, c, hv, ?_⟩
  rw [hv] at h
  exact (Rd.of_own h).ev
set_option maxRecDepth 100000 in
set_option maxHeartbeats 1000000 in
theorem Events_any (ge gm : Nat) (p : Prod) (A : Option Addr) (n c : Nat) (v : Value) (l : List Ev) (M : List ((Int × Int) × Ln)) (w : World) (h : EngAt w ge gm p A n c v l M) (hl : l.length ≤ 1000000) :
    Calls Tryz.prog 15 #[.pointer (some ⟨ge, 0, none⟩)] w fun x w' => ∃ u, x = .returned u ∧ w'.ownsRow w.heap.size 39 6 u l.length (flatE l) ∧ Below w.heap.size w w' := by
  obtain ⟨E, m, rfl, hE⟩ := own_rdE h.row
  have c9 : w.cell? ⟨ge, 9, none⟩ = some (.slice E l.length m) := by rw [cell_of_row _ _ _ _ _ _ h.cells]; rfl
  have HC := Lib.hid (CloneE_any E l.length m l w hE hl)
  clear h hE
  generalize l.length = k at *
  go_enter Tryz.func15, Tryz.ntmps15
  go_wp2_with (first | (refine HC.out.mono ?_; rintro e w' ⟨u, rfl, hu, hb⟩))
  go_ret
  exact ⟨_, rfl, hu, hb⟩
end Go.Proofs.YtcbopgopegphlaaGreat
