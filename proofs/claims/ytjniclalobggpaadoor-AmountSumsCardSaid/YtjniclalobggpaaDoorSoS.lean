/-
  amount.Split's order: its closure compares two shares by their rests, the greater one first; slices.SortStableFunc at shares. No statement is proved here.
-/
import Derived.Test.YtjniclalobggpaaDoorSoW2
namespace Go.Proofs.YtjniclalobggpaaDoor
open Go.Shelf Go.RowKit Go.Lib Go.Sort
set_option linter.unusedVariables false
theorem isNaNU_any (x : Int) (w : World) : Calls Tryd.prog 58 #[.int .u64 x] w fun e w' => e = .returned (.bool false) ∧ w' = w := by
  go_enter Tryd.func58, Tryd.ntmps58
  go_wp2
  go_ret
  exact ⟨by simp, rfl⟩
set_option maxHeartbeats 1000000 in
theorem compareU_any (x y : Int) (w : World) : Calls Tryd.prog 42 #[.int .u64 x, .int .u64 y] w fun e w' => e = .returned (.int .i64 (Lib.compareInt x y)) ∧ w' = w := by
  have HN := Lib.hid fun x w => isNaNU_any x w
  go_enter Tryd.func42, Tryd.ntmps42
  go_wp2_with (first | (refine (HN.out _ _).mono ?_; rintro e w' ⟨rfl, hw⟩; rw [hw]))
  all_goals (go_ret; refine ⟨?_, rfl⟩; unfold Lib.compareInt; (repeat' split) <;> first | rfl | (exfalso; omega))
/-- A share: its place and its rest. -/
def encS (x : Nat × Nat) : List Value := [.int .i64 x.1, .int .u64 x.2]
def cfS (x y : Nat × Nat) : Int := Lib.compareInt (y.2 : Int) (x.2 : Int)
set_option maxHeartbeats 1000000 in
theorem closS_any (x y : Nat × Nat) (W : World) : Calls Tryd.prog 41 #[.agg #[.int .i64 x.1, .int .u64 x.2], .agg #[.int .i64 y.1, .int .u64 y.2]] W fun e w' => e = .returned (.int .i64 (cfS x y)) ∧ ∃ q os', w' = grow (W.drewN q) os' := by
  have hcon := fun W' => compareU_any (y.2 : Int) (x.2 : Int) W'
  unfold cfS
  generalize Lib.compareInt (y.2 : Int) (x.2 : Int) = r at hcon ⊢
  go_enter Tryd.func41, Tryd.ntmps41
  go_wp2_with (first | (refine (hcon _).mono ?_; rintro e w' ⟨rfl, rfl⟩))
  go_ret
  exact ⟨rfl, 0, _, by rw [alloc_eq_grow, alloc_eq_grow, grow_grow]; rfl⟩
theorem cmpLaysS (blk off size : Nat) (w : World) : CmpLays Tryd.prog 41 #[] encS 2 cfS blk off size w := fun _ _ _ _ x y => closS_any x y _
theorem sizeS (w : World) : (Go.sizeOf 69).run Tryd.prog w = .ok 2 w := by kernel_rfl
theorem entersS : ∀ args w, (callFunc 41 args).run Tryd.prog w = .ok (.enter 41 args) w := enters_of Tryd.func41 (by kernel_rfl) rfl
set_option maxHeartbeats 1000000 in
theorem sortStable_any (blk off cap N : Nat) (d : Array (Nat × Nat)) (w0 : World) (hH : HoldsK encS 2 w0 blk off d) (hblk : blk < w0.heap.size) (hsz : N ≤ 1000000000) (hN : d.size = N) :
    Calls Tryd.prog 40 #[.slice (some ⟨blk, off, none⟩) N cap, .func (.func 41) #[] #[]] w0 fun e w' => e = .returned (.tuple #[]) ∧ ∃ n os, w' = sortWorldK encS 2 w0 blk off n (stable (ltOf cfS) d) os := by
  have R : RowK encS 2 w0 blk off d := ⟨fun _ => rfl, fun x v hv => by simp [encS] at hv; rcases hv with rfl | rfl <;> rfl, hH, hblk⟩
  have HS := Lib.hid (stable_any 2 sizeS encS cfS 41 #[] blk off cap N d w0 R hsz entersS (cmpLaysS blk off N w0) hN)
  clear R hH
  generalize stable (ltOf cfS) d = r at HS ⊢
  go_enter Tryd.func40, Tryd.ntmps40
  go_wp2_with (first | (refine HS.out.mono ?_; rintro e w' ⟨rfl, n, os, rfl⟩))
  go_end0
  exact ⟨rfl, n, os, rfl⟩
#print axioms sortStable_any
end Go.Proofs.YtjniclalobggpaaDoor
