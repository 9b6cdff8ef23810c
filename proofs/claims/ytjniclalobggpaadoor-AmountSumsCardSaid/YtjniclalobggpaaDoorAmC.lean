/-
  The walks of the sort's inner functions where nothing has to move. No statement is proved here.
-/
import Derived.Test.YtjniclalobggpaaDoorAmW2
import Derived.Deep.RegionHeld3
import Derived.BigQuiet
import Derived.StillTailTactics
import Derived.BigGuard
import Derived.BigCall
import Derived.Deep.Cut
import Derived.Deep.DeepCutAuto
namespace Go.Proofs.YtjniclalobggpaaDoor
open Go.RowKit Go.Shelf
set_option linter.unusedVariables false

theorem nan_any (x : Nat) (w : World) : Calls Tryd.prog 58 #[.int .u64 x] w fun e w' => e = .returned (.bool false) ∧ w' = w := by
  go_enter Tryd.func58, Tryd.ntmps58
  go_wp2
  go_ret
  exact ⟨by simp, rfl⟩
theorem cmp_eq (x : Nat) (w : World) : Calls Tryd.prog 42 #[.int .u64 x, .int .u64 x] w fun e w' => e = .returned (.int .i64 0) ∧ w' = w := by
  have N := Lib.hid nan_any
  go_enter Tryd.func42, Tryd.ntmps42
  go_wp2_with fail
  refine (N.out _ _).mono ?_
  rintro e w' ⟨rfl, rfl⟩
  go_wp2_with fail
  refine (N.out _ _).mono ?_
  rintro e w' ⟨rfl, rfl⟩
  go_wp2
  go_ret
  exact ⟨rfl, rfl⟩
theorem less_eq (a b : Int) (x : Nat) (w : World) : Calls Tryd.prog 41 #[.agg #[.int .i64 a, .int .u64 x], .agg #[.int .i64 b, .int .u64 x]] w fun e w' => e = .returned (.int .i64 0) ∧ Below w.heap.size w w' := by
  have N := Lib.hid cmp_eq
  go_enter Tryd.func41, Tryd.ntmps41
  go_wp2_with fail
  refine (N.out _ _).mono ?_
  rintro e w' ⟨rfl, rfl⟩
  go_wp2
  go_ret
  exact ⟨rfl, ((Below.refl _ _).alloc (Nat.le_refl _) _).alloc (by simp) _⟩
set_option maxHeartbeats 2000000 in
theorem wr0 : IntKind.i64.wrap 0 = 0 := by decide
theorem wr1 : IntKind.i64.wrap 1 = 1 := by decide
attribute [local go_sem] wr0 wr1
set_option maxRecDepth 100000 in
theorem ins3 (g : Nat) (w : World) (hg : w.heap[g]? = some (.cells #[.int .i64 0, .int .u64 1, .int .i64 1, .int .u64 1, .int .i64 2, .int .u64 1] 69 (0, 0))) :
    Calls Tryd.prog 67 #[.slice (some ⟨g, 0, none⟩) 3 3, .int .i64 0, .int .i64 3, .func (.func 41) #[] #[]] w fun e w' => e = .returned (.tuple #[]) ∧ Below w.heap.size w w' := by
  have L := Lib.hid less_eq
  have HG := Lib.hid hg
  clear hg
  go_enter Tryd.func67, Tryd.ntmps67
  go_wp2_with fail
  go_loopw [8] (fun i wr => ∃ j : Nat, 1 ≤ j ∧ j ≤ 3 ∧ i = .int .i64 j ∧ Below w.heap.size w wr) (fun i _ => 3 - (intOf i).toNat)
  case atStart => exact ⟨1, by omega, by omega, rfl, Below.refl _ _⟩
  case round =>
    obtain ⟨wa, rfl⟩ : ∃ x, x = wr := ⟨_, rfl⟩
    obtain ⟨j, hj1, hj, rfl, hb⟩ := hrel
    by_cases hlt : j < 3
    · have hgr := (hb.block g (Array.getElem?_eq_some_iff.1 HG.out).1).trans HG.out
      have c0 : wa.cell? ⟨g, 0, none⟩ = some (.int .i64 0) := by rw [cell_of_row _ _ _ _ _ _ hgr]; rfl
      have c1 : wa.cell? ⟨g, 1, none⟩ = some (.int .u64 1) := by rw [cell_of_row _ _ _ _ _ _ hgr]; rfl
      have c2 : wa.cell? ⟨g, 2, none⟩ = some (.int .i64 1) := by rw [cell_of_row _ _ _ _ _ _ hgr]; rfl
      have c3 : wa.cell? ⟨g, 3, none⟩ = some (.int .u64 1) := by rw [cell_of_row _ _ _ _ _ _ hgr]; rfl
      have c4 : wa.cell? ⟨g, 4, none⟩ = some (.int .i64 2) := by rw [cell_of_row _ _ _ _ _ _ hgr]; rfl
      have c5 : wa.cell? ⟨g, 5, none⟩ = some (.int .u64 1) := by rw [cell_of_row _ _ _ _ _ _ hgr]; rfl
      clear hgr
      go_wp2_with fail
      go_loopw [9] (fun i wr => i = .int .i64 j ∧ wr = wa) (fun i _ => 0)
      case atStart => exact ⟨rfl, rfl⟩
      case round =>
        obtain ⟨rfl, rfl⟩ := hrel
        have : j = 1 ∨ j = 2 := by omega
        rcases this with rfl | rfl
        all_goals
          go_upto_region 4 with (fail)
          go_still_tail 14, (by kernel_rfl)
          change wpList _ _ _ _ _ wr.drew
          have hbd : Below w.heap.size w wr.drew := below_drewN hb 1
          generalize wr.drew = w2 at hbd ⊢
          go_wp2_with fail
          refine (L.out _ _ 1 _).mono ?_
          rintro e w3 ⟨rfl, hb3⟩
          have hb03 := hbd.trans (hb3.mono hbd.size)
          go_wp2
          go_roundw
          case rel => first | exact ⟨2, by omega, by omega, rfl, hb03⟩ | exact ⟨3, by omega, by omega, rfl, hb03⟩
          case measure => simp [intOf]
    · go_wp2
      exact bodyPost_end (results_none rfl _ _ _) rfl ⟨rfl, hb⟩
set_option maxRecDepth 100000 in
theorem stable3 (g : Nat) (w : World) (hg : w.heap[g]? = some (.cells #[.int .i64 0, .int .u64 1, .int .i64 1, .int .u64 1, .int .i64 2, .int .u64 1] 69 (0, 0))) :
    Calls Tryd.prog 57 #[.slice (some ⟨g, 0, none⟩) 3 3, .int .i64 3, .func (.func 41) #[] #[]] w fun e w' => e = .returned (.tuple #[]) ∧ Below w.heap.size w w' := by
  have I := Lib.hid (ins3 g w hg)
  clear hg
  go_enter Tryd.func57, Tryd.ntmps57
  go_wp2_with fail
  go_loopw [7, 8] (fun a b wr => a = .int .i64 0 ∧ b = .int .i64 20 ∧ wr = w) (fun _ _ _ => 0)
  case atStart => exact ⟨rfl, rfl, rfl⟩
  case round =>
    obtain ⟨rfl, rfl, rfl⟩ := hrel
    go_wp2_with fail
    refine I.out.mono ?_
    rintro e w2 ⟨rfl, hb⟩
    go_wp2_with fail
    go_loopw [6] (fun s wq => s = .int .i64 20 ∧ Below wr.heap.size wr wq) (fun _ _ => 0)
    case atStart => exact ⟨rfl, hb⟩
    case round =>
      obtain ⟨rfl, hbq⟩ := hrel
      go_wp2_with fail
      exact bodyPost_end (results_none rfl _ _ _) rfl ⟨rfl, hbq⟩
theorem sort3 (g : Nat) (w : World) (hg : w.heap[g]? = some (.cells #[.int .i64 0, .int .u64 1, .int .i64 1, .int .u64 1, .int .i64 2, .int .u64 1] 69 (0, 0))) :
    Calls Tryd.prog 40 #[.slice (some ⟨g, 0, none⟩) 3 3, .func (.func 41) #[] #[]] w fun e w' => e = .returned (.tuple #[]) ∧ Below w.heap.size w w' := by
  have I := Lib.hid (stable3 g w hg)
  clear hg
  go_enter Tryd.func40, Tryd.ntmps40
  go_wp2_with fail
  refine I.out.mono ?_
  rintro e w2 ⟨rfl, hb⟩
  go_wp2_with fail
  exact bodyPost_end (results_none rfl _ _ _) rfl ⟨rfl, hb⟩
end Go.Proofs.YtjniclalobggpaaDoor
