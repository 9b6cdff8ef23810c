/-
  What bitemp.Known sorts by: its closure; slices.SortStableFunc at events. No statement is proved here.
-/
import Derived.Test.YtcbopgopegphlaaGreatSoW2
import Derived.Test.YtcbopgopegphlaaGreatEnP
import Derived.Deep.RegionHeld3
namespace Go.Proofs.YtcbopgopegphlaaGreat
open Go.Shelf Go.RowKit Go.Lib Go.Sort
set_option linter.unusedVariables false
theorem isNaNI_any (x : Int) (w : World) : Calls Tryz.prog 59 #[.int .i64 x] w fun e w' => e = .returned (.bool false) ∧ w' = w := by
  go_enter Tryz.func59, Tryz.ntmps59
  go_wp2
  go_ret
  exact ⟨by simp, rfl⟩
set_option maxHeartbeats 1000000 in
theorem compareI_any (x y : Int) (w : World) : Calls Tryz.prog 45 #[.int .i64 x, .int .i64 y] w fun e w' => e = .returned (.int .i64 (Lib.compareInt x y)) ∧ w' = w := by
  have HN := Lib.hid fun x w => isNaNI_any x w
  go_enter Tryz.func45, Tryz.ntmps45
  go_wp2_with (first | (refine (HN.out _ _).mono ?_; rintro e w' ⟨rfl, hw⟩; rw [hw]))
  all_goals (go_ret; refine ⟨?_, rfl⟩; unfold Lib.compareInt; (repeat' split) <;> first | rfl | (exfalso; omega))
def orI (x y : Int) : Int := if x ≠ 0 then x else y
set_option maxHeartbeats 1000000 in
theorem Or_any (g : Nat) (x y : Int) (w : World) (h0 : w.cell? ⟨g, 0, none⟩ = some (.int .i64 x)) (h1 : w.cell? ⟨g, 1, none⟩ = some (.int .i64 y)) :
    Calls Tryz.prog 44 #[.slice (some ⟨g, 0, none⟩) 2 2] w fun e w' => e = .returned (.int .i64 (orI x y)) ∧ w' = w := by
  have HO := Lib.hid (show orI x y = if x ≠ 0 then x else y from rfl)
  generalize orI x y = r at HO ⊢
  go_enter Tryz.func44, Tryz.ntmps44
  go_wp2_with fail
  go_loopw [8] (fun i wr => ∃ j : Nat, j ≤ 2 ∧ i = .int .i64 j ∧ w = wr ∧ Hid (0 < j → x = 0) ∧ Hid (1 < j → y = 0)) (fun i _ => 2 - (intOf i).toNat)
  case atStart => exact ⟨0, by omega, rfl, rfl, fun h => by omega, fun h => by omega⟩
  case round =>
    obtain ⟨j, hj, rfl, rfl, hx, hy⟩ := hrel
    by_cases h2 : j < 2
    · by_cases e0 : j = 0
      · subst e0
        by_cases ex : x = 0
        · have t0 : (x != 0) = false := by simp [ex]
          have HX := Lib.hid ex
          clear ex hx hy
          go_wp2
          go_roundw
          case rel => exact ⟨1, by omega, by go_num, by first | rfl | trivial, fun _ => HX.out, fun h => by omega⟩
          case measure => simp [intOf]
        · have t0 : (x != 0) = true := by simp [ex]
          have HR : Hid (r = x) := Lib.hid (by rw [HO.out, if_pos ex])
          clear ex hx hy
          go_wp2
          go_ret
          exact ⟨ret_int HR.out.symm, rfl⟩
      · obtain rfl : j = 1 := by omega
        have ex : x = 0 := hx.out (by omega)
        have HR : Hid (r = y) := Lib.hid (by rw [HO.out, if_neg (by simp [ex])])
        have EX := Lib.hid ex
        clear ex hx
        by_cases ey : y = 0
        · have t0 : (y != 0) = false := by simp [ey]
          have HY := Lib.hid ey
          clear ey hy
          go_wp2
          go_roundw
          case rel => exact ⟨2, by omega, by go_num, by first | rfl | trivial, fun _ => EX.out, fun _ => HY.out⟩
          case measure => simp [intOf]
        · have t0 : (y != 0) = true := by simp [ey]
          clear ey hy
          go_wp2
          go_ret
          exact ⟨ret_int HR.out.symm, rfl⟩
    · obtain rfl : j = 2 := by omega
      have HR : Hid (r = 0) := Lib.hid (by rw [HO.out, if_neg (by have := hx.out (by omega); simp [this]), hy.out (by omega)])
      clear hx hy
      go_wp2
      go_ret
      exact ⟨ret_int HR.out.symm, rfl⟩
def encE (e : Ev) : List Value := [.int .i64 e.seq, .string e.loan, .int .i64 e.day, .int .i64 e.kind, .int .i64 e.amount, .int .i64 e.ref]
def cfE (a b : Ev) : Int := orI (Lib.compareInt a.day b.day) (Lib.compareInt a.seq b.seq)
theorem ltOf_cfE : ltOf cfE = evLt := by
  funext a b
  unfold ltOf cfE evLt orI Lib.compareInt
  rw [decide_eq_decide]
  (repeat' split) <;> constructor <;> intro h <;> omega
def GrewD (w0 w : World) : Prop := ∃ q os, w = grow (w0.drewN q) os
theorem drewN_add (w : World) (q n : Nat) : (w.drewN q).drewN n = w.drewN (q + n) := by unfold World.drewN; simp [Nat.add_assoc]
theorem GrewD.refl (w : World) : GrewD w w := ⟨0, #[], by rw [grow_empty]; rfl⟩
theorem GrewD.drew {w0 w : World} (h : GrewD w0 w) : GrewD w0 w.drew := by
  obtain ⟨q, os, rfl⟩ := h
  exact ⟨q + 1, os, rfl⟩
theorem GrewD.drewN {w0 w : World} (h : GrewD w0 w) (n : Nat) : GrewD w0 (w.drewN n) := by
  obtain ⟨q, os, rfl⟩ := h
  exact ⟨q + n, os, by rw [← drewN_add]; rfl⟩
theorem GrewD.alloc {w0 w : World} (h : GrewD w0 w) (o : Obj) : GrewD w0 (w.alloc o) := by
  obtain ⟨q, os, rfl⟩ := h
  exact ⟨q, os ++ #[o], by rw [alloc_eq_grow, grow_grow]⟩
theorem GrewD.trans {w0 w w1 : World} (h : GrewD w0 w) (h1 : GrewD w w1) : GrewD w0 w1 := by
  obtain ⟨q, os, rfl⟩ := h
  obtain ⟨q', os', rfl⟩ := h1
  exact ⟨q + q', os ++ os', by rw [← grow_grow, ← drewN_add]; rfl⟩
/-- What the closure's region keeps. -/
structure ClSt (w0 w : World) (n : Nat) (xd xs yd ys : Int) : Prop where
  grew : GrewD w0 w
  x2 : w.cell? ⟨n, 2, none⟩ = some (.int .i64 xd)
  x0 : w.cell? ⟨n, 0, none⟩ = some (.int .i64 xs)
  y2 : w.cell? ⟨n + 1, 2, none⟩ = some (.int .i64 yd)
  y0 : w.cell? ⟨n + 1, 0, none⟩ = some (.int .i64 ys)
theorem ClSt.drew {w0 w : World} {n : Nat} {xd xs yd ys : Int} (h : ClSt w0 w n xd xs yd ys) : ClSt w0 w.drew n xd xs yd ys := ⟨h.grew.drew, h.x2, h.x0, h.y2, h.y0⟩
theorem ClSt.drewN {w0 w : World} {n : Nat} {xd xs yd ys : Int} (h : ClSt w0 w n xd xs yd ys) (k : Nat) : ClSt w0 (w.drewN k) n xd xs yd ys := ⟨h.grew.drewN k, h.x2, h.x0, h.y2, h.y0⟩
theorem ClSt.alloc {w0 w : World} {n : Nat} {xd xs yd ys : Int} (h : ClSt w0 w n xd xs yd ys) (o : Obj) : ClSt w0 (w.alloc o) n xd xs yd ys := ⟨h.grew.alloc o, cell?_alloc_some o h.x2, cell?_alloc_some o h.x0, cell?_alloc_some o h.y2, cell?_alloc_some o h.y0⟩
theorem cell_dr {w : World} {a : Addr} {v : Value} (h : w.cell? a = some v) : w.drew.cell? a = some v := h
theorem cell_drN {w : World} {a : Addr} {v : Value} (n : Nat) (h : w.cell? a = some v) : (w.drewN n).cell? a = some v := h
set_option maxRecDepth 100000 in
set_option maxHeartbeats 2000000 in
theorem closE_any (x y : Ev) (W : World) : Calls Tryz.prog 43 #[.agg #[.int .i64 x.seq, .string x.loan, .int .i64 x.day, .int .i64 x.kind, .int .i64 x.amount, .int .i64 x.ref], .agg #[.int .i64 y.seq, .string y.loan, .int .i64 y.day, .int .i64 y.kind, .int .i64 y.amount, .int .i64 y.ref]] W fun e w' => e = .returned (.int .i64 (cfE x y)) ∧ ∃ q os', w' = grow (W.drewN q) os' := by
  have CM := Lib.hid fun a b w => compareI_any a b w
  have HC := Lib.hid (show cfE x y = orI (Lib.compareInt x.day y.day) (Lib.compareInt x.seq y.seq) from rfl)
  obtain ⟨xs, xl, xd, xk, xa, xr⟩ := x
  obtain ⟨ys, yl, yd, yk, ya, yr⟩ := y
  dsimp only at HC ⊢
  generalize cfE _ _ = r at HC ⊢
  have OR := Lib.hid fun g w h0 h1 => Or_any g (Lib.compareInt xd yd) (Lib.compareInt xs ys) w h0 h1
  rw [← HC.out] at OR
  have CX := Lib.hid (CM.out xd yd)
  have CY := Lib.hid (CM.out xs ys)
  clear HC CM
  generalize Lib.compareInt xd yd = c1 at *
  generalize Lib.compareInt xs ys = c2 at *
  have HS := Lib.hid (show ClSt W ((W.alloc (.cells #[.int .i64 xs, .string xl, .int .i64 xd, .int .i64 xk, .int .i64 xa, .int .i64 xr] 39)).alloc (.cells #[.int .i64 ys, .string yl, .int .i64 yd, .int .i64 yk, .int .i64 ya, .int .i64 yr] 39)) W.heap.size xd xs yd ys from
    ⟨((GrewD.refl W).alloc _).alloc _, cell?_alloc_some _ (by rw [cell_of_row _ _ _ _ _ _ (heap_alloc_new W _)]; rfl), cell?_alloc_some _ (by rw [cell_of_row _ _ _ _ _ _ (heap_alloc_new W _)]; rfl),
      by rw [← World.size_alloc W (.cells #[.int .i64 xs, .string xl, .int .i64 xd, .int .i64 xk, .int .i64 xa, .int .i64 xr] 39), cell_of_row _ _ _ _ _ _ (heap_alloc_new _ _)]; rfl, by rw [← World.size_alloc W (.cells #[.int .i64 xs, .string xl, .int .i64 xd, .int .i64 xk, .int .i64 xa, .int .i64 xr] 39), cell_of_row _ _ _ _ _ _ (heap_alloc_new _ _)]; rfl⟩)
  go_enter Tryz.func43, Tryz.ntmps43
  go_upto_region 1 with (fail)
  generalize (W.alloc _).alloc _ = w0 at *
  generalize hn : W.heap.size = n at *
  have HS' := HS.out
  obtain ⟨G0, a1, a2, a3, a4⟩ := HS'
  have HF := Lib.hid fun (w : World) (a b : Int) => (⟨by rw [cell_of_row _ _ _ _ _ _ (heap_alloc_new w _)]; rfl, by rw [cell_of_row _ _ _ _ _ _ (heap_alloc_new w _)]; rfl⟩ : (w.alloc (.cells #[.int .i64 a, .int .i64 b] 3)).cell? ⟨w.heap.size, 0, none⟩ = some (.int .i64 a) ∧ (w.alloc (.cells #[.int .i64 a, .int .i64 b] 3)).cell? ⟨w.heap.size, 1, none⟩ = some (.int .i64 b))
  clear HS
  have OO := Lib.hid (OR.out w0.heap.size (w0.alloc (.cells #[.int .i64 c1, .int .i64 c2] 3)).drew (cell_dr (HF.out w0 c1 c2).1) (cell_dr (HF.out w0 c1 c2).2))
  have S0 := Lib.hid (show w0.drew.cell? ⟨n, 2, none⟩ = some (.int .i64 xd) ∧ w0.drew.cell? ⟨n, 0, none⟩ = some (.int .i64 xs) ∧ w0.drew.cell? ⟨n + 1, 2, none⟩ = some (.int .i64 yd) ∧ w0.drew.cell? ⟨n + 1, 0, none⟩ = some (.int .i64 ys) ∧ GrewD W w0.drew from ⟨a1, a2, a3, a4, G0.drew⟩)
  have S1 := Lib.hid (show ((w0.alloc (.cells #[.int .i64 c1, .int .i64 c2] 3)).drew.cell? ⟨n, 2, none⟩ = some (.int .i64 xd) ∧ (w0.alloc (.cells #[.int .i64 c1, .int .i64 c2] 3)).drew.cell? ⟨n, 0, none⟩ = some (.int .i64 xs) ∧ (w0.alloc (.cells #[.int .i64 c1, .int .i64 c2] 3)).drew.cell? ⟨n + 1, 2, none⟩ = some (.int .i64 yd) ∧ (w0.alloc (.cells #[.int .i64 c1, .int .i64 c2] 3)).drew.cell? ⟨n + 1, 0, none⟩ = some (.int .i64 ys) ∧ GrewD W (w0.alloc (.cells #[.int .i64 c1, .int .i64 c2] 3)).drew) from
    ⟨cell_dr (cell?_alloc_some _ a1), cell_dr (cell?_alloc_some _ a2), cell_dr (cell?_alloc_some _ a3), cell_dr (cell?_alloc_some _ a4), (G0.alloc _).drew⟩)
  clear OR HF G0 a1 a2 a3 a4
  go_region_held3 (fun w' => w'.cell? ⟨n, 2, none⟩ = some (.int .i64 xd) ∧ w'.cell? ⟨n, 0, none⟩ = some (.int .i64 xs) ∧ w'.cell? ⟨n + 1, 2, none⟩ = some (.int .i64 yd) ∧ w'.cell? ⟨n + 1, 0, none⟩ = some (.int .i64 ys) ∧ GrewD W w') (first | with_reducible assumption | with_reducible exact S0.out | with_reducible exact S1.out) (first
    | (go_simp; go_at_call_of 45 xd; refine (CX.out _).mono ?_; rintro e w' ⟨rfl, hw⟩; rw [hw])
    | (go_simp; go_at_call_of 45 xs; refine (CY.out _).mono ?_; rintro e w' ⟨rfl, hw⟩; rw [hw])
    | (go_simp; go_at_call 44; refine OO.out.mono ?_; rintro e w' ⟨rfl, hw⟩; rw [hw]))
  all_goals
    go_wp2
    go_ret
    exact ⟨rfl, S1.out.2.2.2.2⟩
theorem cmpLaysE (blk off size : Nat) (w : World) : CmpLays Tryz.prog 43 #[] encE 6 cfE blk off size w := fun _ _ _ _ x y => closE_any x y _
theorem sizeE (w : World) : (Go.sizeOf 39).run Tryz.prog w = .ok 6 w := by kernel_rfl
theorem entersE : ∀ args w, (callFunc 43 args).run Tryz.prog w = .ok (.enter 43 args) w := enters_of Tryz.func43 (by kernel_rfl) rfl
set_option maxHeartbeats 1000000 in
theorem sortStable_any (blk off cap N : Nat) (d : Array Ev) (w0 : World) (hH : HoldsK encE 6 w0 blk off d) (hblk : blk < w0.heap.size) (hsz : N ≤ 1000000000) (hN : d.size = N) :
    Calls Tryz.prog 42 #[.slice (some ⟨blk, off, none⟩) N cap, .func (.func 43) #[] #[]] w0 fun e w' => e = .returned (.tuple #[]) ∧ ∃ n os, w' = sortWorldK encE 6 w0 blk off n (stable (ltOf cfE) d) os := by
  have R : RowK encE 6 w0 blk off d := ⟨fun _ => rfl, fun x v hv => by simp [encE] at hv; rcases hv with rfl | rfl | rfl | rfl | rfl | rfl <;> rfl, hH, hblk⟩
  have HS := Lib.hid (stable_any 6 sizeE encE cfE 43 #[] blk off cap N d w0 R hsz entersE (cmpLaysE blk off N w0) hN)
  clear R hH
  generalize stable (ltOf cfE) d = r at HS ⊢
  go_enter Tryz.func42, Tryz.ntmps42
  go_wp2_with (first | (refine HS.out.mono ?_; rintro e w' ⟨rfl, n, os, rfl⟩))
  go_end0
  exact ⟨rfl, n, os, rfl⟩
/-- Nothing is sorted. -/
theorem insertion_nil (f : Value) (w : World) : Calls Tryz.prog 89 #[.slice none 0 0, .int .i64 0, .int .i64 0, f] w fun e w' => e = .returned (.tuple #[]) ∧ w' = w := by
  go_enter Tryz.func89, Tryz.ntmps89
  go_wp2_with fail
  go_loopw [8] (fun a wr => a = .int .i64 1 ∧ w = wr) (fun _ _ => 0)
  case atStart => exact ⟨rfl, rfl⟩
  case round =>
    obtain ⟨rfl, rfl⟩ := hrel
    go_wp2
    go_end0
    exact ⟨rfl, rfl⟩
theorem stable_nil (f : Value) (w : World) : Calls Tryz.prog 58 #[.slice none 0 0, .int .i64 0, f] w fun e w' => e = .returned (.tuple #[]) ∧ w' = w := by
  have HI := Lib.hid (insertion_nil f w)
  go_enter Tryz.func58, Tryz.ntmps58
  go_wp2_with fail
  go_loopw [7, 8] (fun a b wr => a = .int .i64 0 ∧ b = .int .i64 20 ∧ w = wr) (fun _ _ _ => 0)
  case atStart => exact ⟨rfl, rfl, rfl⟩
  case round =>
    obtain ⟨rfl, rfl, rfl⟩ := hrel
    go_wp2_with (first | (refine HI.out.mono ?_; rintro e w' ⟨rfl, hw⟩; rw [hw]))
    go_loopw [6] (fun a wr => a = .int .i64 20 ∧ w = wr) (fun _ _ => 0)
    case atStart => exact ⟨rfl, rfl⟩
    case round =>
      obtain ⟨rfl, rfl⟩ := hrel
      go_wp2
      go_end0
      exact ⟨rfl, rfl⟩
theorem sortStable_nil (f : Value) (w : World) : Calls Tryz.prog 42 #[.slice none 0 0, f] w fun e w' => e = .returned (.tuple #[]) ∧ w' = w := by
  have HI := Lib.hid (stable_nil f w)
  go_enter Tryz.func42, Tryz.ntmps42
  go_wp2_with (first | (refine HI.out.mono ?_; rintro e w' ⟨rfl, hw⟩; rw [hw]))
  go_end0
  exact ⟨rfl, rfl⟩
end Go.Proofs.YtcbopgopegphlaaGreat
