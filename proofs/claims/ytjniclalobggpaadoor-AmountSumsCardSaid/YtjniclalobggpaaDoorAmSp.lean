/-
  The walk of Split at one total and three even weights. No statement is proved here.
-/
import Derived.Test.YtjniclalobggpaaDoorAmC
import Derived.Test.YtjniclalobggpaaDoorAmW3
namespace Go.Proofs.YtjniclalobggpaaDoor
open Go.RowKit Go.Shelf
set_option linter.unusedVariables false

theorem row_set {w : World} {g : Nat} {cs : Array Value} {t : TypeId} {fr : Nat × Nat} (h : w.heap[g]? = some (.cells cs t fr)) (i : Nat) (v : Value) : (w.setCell ⟨g, i, none⟩ v).heap[g]? = some (.cells (cs.setIfInBounds i v) t fr) := by
  rw [setCell_eq_setRow w g i _ _ _ v h]
  exact setRow_heap _ _ _ _ _ _ h
theorem row_keep {w : World} {g g' : Nat} {o : Option Obj} (h : w.heap[g]? = o) (hn : g ≠ g') (i : Nat) (v : Value) : (w.setCell ⟨g', i, none⟩ v).heap[g]? = o := (heap_setCell_other _ _ _ _ hn).trans h
theorem infoI64 : (Tryd.prog.info? 2).map (fun i => (i.zero, i.size, i.bytes)) = some (some (.int .i64 0), 1, 8) := by kernel_rfl
theorem infoShare : (Tryd.prog.info? 69).map (fun i => (i.zero, i.size, i.bytes)) = some (some (.agg #[.int .i64 0, .int .u64 0]), 2, 16) := by kernel_rfl
theorem make3 (w : World) : (Instr.makeSlice 33 (.int .i64 3) (.int .i64 3)).run Tryd.prog w = .ok (.slice (some ⟨w.heap.size, 0, none⟩) 3 3) (w.alloc (.cells #[.int .i64 0, .int .i64 0, .int .i64 0] 2)) := by
  obtain ⟨i0, hi, hz0, hz1, hz2⟩ := info_parts infoI64
  have h := run_make (P := Tryd.prog) w 33 2 i0 (.int .i64 0) Tryd.underlying33 hi hz0 .i64 .i64 3 3 (by omega) (by omega) (by rw [hz2]; omega) (by omega)
  rw [hz1, show madeCells (Value.int .i64 0).cells (Int.toNat 3 * 1) = #[.int .i64 0, .int .i64 0, .int .i64 0] by kernel_rfl] at h
  exact h
theorem makeS3 (w : World) : (Instr.makeSlice 66 (.int .i64 3) (.int .i64 3)).run Tryd.prog w = .ok (.slice (some ⟨w.heap.size, 0, none⟩) 3 3) (w.alloc (.cells #[.int .i64 0, .int .u64 0, .int .i64 0, .int .u64 0, .int .i64 0, .int .u64 0] 69)) := by
  obtain ⟨i0, hi, hz0, hz1, hz2⟩ := info_parts infoShare
  have h := run_make (P := Tryd.prog) w 66 69 i0 (.agg #[.int .i64 0, .int .u64 0]) Tryd.underlying66 hi hz0 .i64 .i64 3 3 (by omega) (by omega) (by rw [hz2]; omega) (by omega)
  rw [hz1, show madeCells (Value.agg #[.int .i64 0, .int .u64 0]).cells (Int.toNat 3 * 2) = #[.int .i64 0, .int .u64 0, .int .i64 0, .int .u64 0, .int .i64 0, .int .u64 0] by kernel_rfl] at h
  exact h
def outA (j : Nat) : Array Value := (((List.replicate j (Value.int .i64 33)) ++ List.replicate (3 - j) (Value.int .i64 0))).toArray
def ordA : Nat → Array Value
  | 0 => #[.int .i64 0, .int .u64 0, .int .i64 0, .int .u64 0, .int .i64 0, .int .u64 0]
  | 1 => #[.int .i64 0, .int .u64 1, .int .i64 0, .int .u64 0, .int .i64 0, .int .u64 0]
  | 2 => #[.int .i64 0, .int .u64 1, .int .i64 1, .int .u64 1, .int .i64 0, .int .u64 0]
  | _ => #[.int .i64 0, .int .u64 1, .int .i64 1, .int .u64 1, .int .i64 2, .int .u64 1]
theorem outS (j : Nat) (h : j = 0 ∨ j = 1 ∨ j = 2) : (outA j).setIfInBounds j (.int .i64 33) = outA (j + 1) := by
  rcases h with rfl | rfl | rfl <;> rfl
theorem ordS (j : Nat) (h : j = 0 ∨ j = 1 ∨ j = 2) : ((ordA j).setIfInBounds (2 * j) (.int .i64 j)).setIfInBounds (2 * j + 1) (.int .u64 1) = ordA (j + 1) := by
  rcases h with rfl | rfl | rfl <;> rfl
theorem alloc2_first (w : World) (a b : Obj) : ((w.alloc a).alloc b).heap[w.heap.size]? = some a :=
  (((Below.refl (w.alloc a).heap.size (w.alloc a)).alloc (Nat.le_refl _) b).block w.heap.size (by simp)).trans (heap_alloc_new w a)
theorem has_cell {w : World} {W : Nat} {cs : Array Value} {t : TypeId} {fr : Nat × Nat} (h : w.heap[W]? = some (.cells cs t fr)) (k : Nat) (hk : k < cs.size) : ∃ x, w.cell? ⟨W, k, none⟩ = some x :=
  ⟨cs[k], by rw [cell_of_row _ _ _ _ _ _ h]; exact Array.getElem?_eq_getElem hk⟩
theorem outN (j : Nat) (hj : j ≤ 3) : (outA j).size = 3 := by
  rcases (show j = 0 ∨ j = 1 ∨ j = 2 ∨ j = 3 by omega) with rfl | rfl | rfl | rfl <;> rfl
theorem ordN (j : Nat) : (ordA j).size = 6 := by
  match j with
  | 0 => rfl
  | 1 => rfl
  | 2 => rfl
  | _ + 3 => rfl
theorem out_cells {w : World} {W j : Nat} (hj : j ≤ 3) (h : w.heap[W]? = some (.cells (outA j) 2 (0, 0))) : (∃ x, w.cell? ⟨W, 0, none⟩ = some x) ∧ (∃ x, w.cell? ⟨W, 1, none⟩ = some x) ∧ (∃ x, w.cell? ⟨W, 2, none⟩ = some x) :=
  ⟨has_cell h 0 (by rw [outN j hj]; omega), has_cell h 1 (by rw [outN j hj]; omega), has_cell h 2 (by rw [outN j hj]; omega)⟩
theorem ord_cells {w : World} {W j : Nat} (h : w.heap[W]? = some (.cells (ordA j) 69 (0, 0))) : (∃ x, w.cell? ⟨W, 0, none⟩ = some x) ∧ (∃ x, w.cell? ⟨W, 1, none⟩ = some x) ∧ (∃ x, w.cell? ⟨W, 2, none⟩ = some x) ∧ (∃ x, w.cell? ⟨W, 3, none⟩ = some x) ∧ (∃ x, w.cell? ⟨W, 4, none⟩ = some x) ∧ (∃ x, w.cell? ⟨W, 5, none⟩ = some x) :=
  ⟨has_cell h 0 (by rw [ordN]; omega), has_cell h 1 (by rw [ordN]; omega), has_cell h 2 (by rw [ordN]; omega), has_cell h 3 (by rw [ordN]; omega), has_cell h 4 (by rw [ordN]; omega), has_cell h 5 (by rw [ordN]; omega)⟩
theorem sp1 (J : Nat) (hJ : J = 0 ∨ J = 1 ∨ J = 2) {w : World} {W : Nat} (h : w.heap[W]? = some (.cells (outA J) 2 (0, 0))) (a b : Nat) (x y : Value) :
    (((w.setCell ⟨W, J, none⟩ (.int .i64 33)).setCell ⟨W + 1, a, none⟩ x).setCell ⟨W + 1, b, none⟩ y).heap[W]? = some (.cells (outA (J + 1)) 2 (0, 0)) := by
  rw [← outS J hJ]
  exact row_keep (row_keep (row_set h _ _) (by omega) _ _) (by omega) _ _
theorem sp2 (J : Nat) (hJ : J = 0 ∨ J = 1 ∨ J = 2) {w : World} {W : Nat} (h : w.heap[W + 1]? = some (.cells (ordA J) 69 (0, 0))) (a : Nat) (x : Value) :
    (((w.setCell ⟨W, a, none⟩ x).setCell ⟨W + 1, 2 * J, none⟩ (.int .i64 J)).setCell ⟨W + 1, 2 * J + 1, none⟩ (.int .u64 1)).heap[W + 1]? = some (.cells (ordA (J + 1)) 69 (0, 0)) := by
  rw [← ordS J hJ]
  exact row_set (row_set (row_keep h (by omega) _ _) _ _) _ _
theorem elemSizeS (W : World) : (sizeOf (Tryd.prog.elem 66)).run Tryd.prog W = .ok 2 W := by kernel_rfl
theorem elemUndS : Tryd.prog.underlying 66 = some (.slice (Tryd.prog.elem 66)) := by kernel_rfl
theorem cutS (g : Nat) (W : World) : (Instr.slice 66 (.slice (some ⟨g, 0, none⟩) 3 3) none (some (.int .u64 1)) none).run Tryd.prog W = .ok (.slice (some ⟨g, 0, none⟩) 1 3) W := by
  rw [run_slice_h W 66 (some ⟨g, 0, none⟩) 3 3 elemUndS .u64 _ (by omega) (by omega), elemSizeS]
  simp [Result.andThen, sliced, Addr.add]
theorem cell_lt {w : World} {b o : Nat} {x : Value} (h : w.cell? ⟨b, o, none⟩ = some x) : b < w.heap.size := by
  rcases Nat.lt_or_ge b w.heap.size with h1 | h1
  · exact h1
  · simp [World.cell?, Array.getElem?_eq_none h1] at h
theorem or34 : wrap64 (34 * bits .or .i64 0 1) = 34 := by decide +kernel
theorem or33 : wrap64 (33 * bits .or .i64 0 1) = 33 := by decide +kernel
def outB : Nat → Array Value
  | 0 => #[.int .i64 33, .int .i64 33, .int .i64 33]
  | _ => #[.int .i64 34, .int .i64 33, .int .i64 33]
set_option maxRecDepth 100000 in
set_option maxHeartbeats 4000000 in
theorem Split_one (g : Nat) (w : World) (fr : Nat × Nat) (hg : w.heap[g]? = some (.cells #[.int .i64 1, .int .i64 1, .int .i64 1] 2 fr)) :
    Calls Tryd.prog 16 #[.int .i64 100, .slice (some ⟨g, 0, none⟩) 3 3] w fun e w' => ∃ G, e = .returned (.tuple #[.slice (some ⟨G, 0, none⟩) 3 3, .int .i64 0]) ∧ w'.cell? ⟨G, 0, none⟩ = some (.int .i64 34) ∧ Below w.heap.size w w' := by
  have SZ := Lib.hid (fun w => size_any 100 w (by omega) (by omega))
  have MU := Lib.hid (fun w => mul_any 100 1 w (by omega) (by omega))
  have DV := Lib.hid (Div64_small 100 3 (by omega) (by omega) (by omega))
  rw [show ((100 : Int).natAbs) = 100 from rfl] at SZ
  rw [show 100 * 1 / 18446744073709551616 = 0 from rfl, show 100 * 1 % 18446744073709551616 = 100 from rfl] at MU
  unfold DivAt at DV
  rw [wd_zero, show 100 / 3 = 33 from rfl, show 100 % 3 = 1 from rfl] at DV
  have SO := Lib.hid sort3
  have MK := make3
  have MS := makeS3
  have HG := Lib.hid hg
  have hgl : g < w.heap.size := (Array.getElem?_eq_some_iff.1 hg).1
  clear hg
  go_enter Tryd.func16, Tryd.ntmps16
  go_wp2_with fail
  go_loopw [6, 32] (fun s i wr => ∃ j : Nat, j ≤ 3 ∧ s = .int .u64 j ∧ i = .int .i64 j ∧ wr = w) (fun _ i _ => 3 - (intOf i).toNat)
  case atStart => exact ⟨0, by omega, rfl, rfl, rfl⟩
  case round =>
    obtain ⟨j, hj, rfl, rfl, rfl⟩ := hrel
    by_cases hlt : j < 3
    · have hc : wr.cell? ⟨g, j, none⟩ = some (.int .i64 1) := by
        have : j = 0 ∨ j = 1 ∨ j = 2 := by omega
        rcases this with rfl | rfl | rfl <;> (rw [cell_of_row _ _ _ _ _ _ HG.out]; rfl)
      go_wp2
      go_roundw
      case rel => exact ⟨j + 1, by omega, by go_num, by go_num, by simp⟩
      case measure => simp [intOf]; omega
    · obtain rfl : j = 3 := by omega
      go_wp2_with fail
      refine (SZ.out _).mono ?_
      rintro e w' ⟨rfl, rfl⟩
      go_wp2_with fail
      go_loopw [10, 70] (fun l i wr => ∃ j : Nat, j ≤ 3 ∧ l = .int .u64 (100 - 33 * j) ∧ i = .int .i64 j ∧ wr.heap[w'.heap.size]? = some (.cells (outA j) 2 (0, 0)) ∧ wr.heap[w'.heap.size + 1]? = some (.cells (ordA j) 69 (0, 0)) ∧ Below w'.heap.size w' wr) (fun _ i _ => 3 - (intOf i).toNat)
      case atStart => exact ⟨0, by omega, rfl, rfl, alloc2_first _ _ _, by rw [← World.size_alloc w']; exact heap_alloc_new _ _, ((Below.refl _ _).alloc (Nat.le_refl _) _).alloc (by simp) _⟩
      case round =>
        obtain ⟨j, hj, rfl, rfl, h1, h2, hb⟩ := hrel
        by_cases hlt : j < 3
        · have : j = 0 ∨ j = 1 ∨ j = 2 := by omega
          have hc : wr.cell? ⟨g, j, none⟩ = some (.int .i64 1) := by
            have hh := (hb.block g hgl).trans HG.out
            rcases this with rfl | rfl | rfl <;> (rw [cell_of_row _ _ _ _ _ _ hh]; rfl)
          rcases this with rfl | rfl | rfl
          all_goals
            go_wp2_with fail
            refine (SZ.out _).mono ?_
            rintro e w5 ⟨rfl, hw5⟩
            subst hw5
            go_wp2_with fail
            refine (MU.out _).mono ?_
            rintro e w5 ⟨rfl, hw5⟩
            subst hw5
            go_wp2_with fail
            refine (DV.out _).mono ?_
            rintro e w6 ⟨rfl, hb6⟩
            have hl1 : w'.heap.size < w5.heap.size := (Array.getElem?_eq_some_iff.1 h1).1
            have hl2 : w'.heap.size + 1 < w5.heap.size := (Array.getElem?_eq_some_iff.1 h2).1
            have h1' := (hb6.block _ hl1).trans h1
            have h2' := (hb6.block _ hl2).trans h2
            obtain ⟨⟨x0, o0⟩, ⟨x1, o1⟩, ⟨x2, o2⟩⟩ := out_cells (by omega) h1'
            obtain ⟨⟨y0, d0⟩, ⟨y1, d1⟩, ⟨y2, d2⟩, ⟨y3, d3⟩, ⟨y4, d4⟩, ⟨y5, d5⟩⟩ := ord_cells h2'
            have p0 := frozen_of_row _ _ 0 _ _ h1'
            have p1 := frozen_of_row _ _ 1 _ _ h1'
            have p2 := frozen_of_row _ _ 2 _ _ h1'
            have q0 := frozen_of_row _ _ 0 _ _ h2'
            have q1 := frozen_of_row _ _ 1 _ _ h2'
            have q2 := frozen_of_row _ _ 2 _ _ h2'
            have q3 := frozen_of_row _ _ 3 _ _ h2'
            have q4 := frozen_of_row _ _ 4 _ _ h2'
            have q5 := frozen_of_row _ _ 5 _ _ h2'
            have hb06 := hb.trans (hb6.mono hb.size)
            have H1 := Lib.hid h1'
            have H2 := Lib.hid h2'
            clear h1 h2 h1' h2' hl1 hl2
            go_wp2
            go_roundw
            case measure => simp [intOf]
            case rel =>
              first
                | (refine ⟨1, by omega, congrArg (Value.int .u64) (by decide), congrArg (Value.int .i64) (by decide), ?_, ?_, ?_⟩
                   · exact sp1 0 (by omega) H1.out _ _ _ _
                   · exact sp2 0 (by omega) H2.out _ _
                   · exact ((hb06.setCell (Nat.le_refl _) _).setCell (Nat.le_succ _) _).setCell (Nat.le_succ _) _)
                | (refine ⟨2, by omega, congrArg (Value.int .u64) (by decide), congrArg (Value.int .i64) (by decide), ?_, ?_, ?_⟩
                   · exact sp1 1 (by omega) H1.out _ _ _ _
                   · exact sp2 1 (by omega) H2.out _ _
                   · exact ((hb06.setCell (Nat.le_refl _) _).setCell (Nat.le_succ _) _).setCell (Nat.le_succ _) _)
                | (refine ⟨3, by omega, congrArg (Value.int .u64) (by decide), congrArg (Value.int .i64) (by decide), ?_, ?_, ?_⟩
                   · exact sp1 2 (by omega) H1.out _ _ _ _
                   · exact sp2 2 (by omega) H2.out _ _
                   · exact ((hb06.setCell (Nat.le_refl _) _).setCell (Nat.le_succ _) _).setCell (Nat.le_succ _) _)
        · obtain rfl : j = 3 := by omega
          have CS := cutS (w'.heap.size + 1)
          rw [show (100 - 33 * ((3 : Nat) : Int)) = 1 by decide]
          go_wp2_with fail
          refine (SO.out (w'.heap.size + 1) wr h2).mono ?_
          rintro e w3 ⟨rfl, hb3⟩
          have hl1 : w'.heap.size < wr.heap.size := (Array.getElem?_eq_some_iff.1 h1).1
          have hl2 : w'.heap.size + 1 < wr.heap.size := (Array.getElem?_eq_some_iff.1 h2).1
          have h1' := (hb3.block _ hl1).trans h1
          have h2' := (hb3.block _ hl2).trans h2
          have hb03 := hb.trans (hb3.mono hb.size)
          clear h1 h2 hl1 hl2
          go_wp2_with fail
          go_loopw [111] (fun i wq => ∃ j : Nat, j ≤ 1 ∧ i = .int .i64 j ∧ wq.heap[w'.heap.size]? = some (.cells (outB j) 2 (0, 0)) ∧ Below w'.heap.size w' wq ∧ wq.cell? ⟨w'.heap.size + 1, 0, none⟩ = some (.int .i64 0) ∧ wq.cell? ⟨w'.heap.size + 1, 1, none⟩ = some (.int .u64 1)) (fun i _ => 1 - (intOf i).toNat)
          case atStart => exact ⟨0, by omega, rfl, h1', hb03, (cell_of_row _ _ _ _ _ _ h2').trans rfl, (cell_of_row _ _ _ _ _ _ h2').trans rfl⟩
          case round =>
            obtain ⟨wq, rfl⟩ : ∃ x, x = wr := ⟨_, rfl⟩
            clear h1' h2' hb hb03
            obtain ⟨j, hj, rfl, h1, hb, d0, d1⟩ := hrel
            by_cases hlt : j < 1
            · obtain rfl : j = 0 := by omega
              have hl1 : w'.heap.size < wq.heap.size := (Array.getElem?_eq_some_iff.1 h1).1
              have fh : ∀ o, (wq.alloc o).heap[w'.heap.size]? = some (.cells #[.int .i64 33, .int .i64 33, .int .i64 33] 2 (0, 0)) := fun o => (((Below.refl wq.heap.size wq).alloc (Nat.le_refl _) o).block _ hl1).trans h1
              have fa : ∀ o, (wq.alloc o).cell? ⟨w'.heap.size, 0, none⟩ = some (.int .i64 33) := fun o => (cell_of_row _ _ _ _ _ _ (fh o)).trans rfl
              have ff : ∀ o, (wq.alloc o).frozen? ⟨w'.heap.size, 0, none⟩ = false := fun o => frozen_of_row _ _ 0 _ _ (fh o)
              have fa0 : wq.cell? ⟨w'.heap.size, 0, none⟩ = some (.int .i64 33) := (cell_of_row _ _ _ _ _ _ h1).trans rfl
              have ff0 : wq.frozen? ⟨w'.heap.size, 0, none⟩ = false := frozen_of_row _ _ 0 _ _ h1
              have FH := Lib.hid fh
              clear fh
              go_wp2_with fail
              go_roundw
              case measure => simp [intOf]
              case rel =>
                have hv : (wq.setCell ⟨w'.heap.size, 0, none⟩ (.int .i64 34)).heap[w'.heap.size]? = some (.cells (outB 1) 2 (0, 0)) := row_set h1 0 (.int .i64 34)
                have hbv : Below w'.heap.size w' (wq.setCell ⟨w'.heap.size, 0, none⟩ (.int .i64 34)) := hb.setCell (Nat.le_refl _) _
                have e0 : (wq.setCell ⟨w'.heap.size, 0, none⟩ (.int .i64 34)).cell? ⟨w'.heap.size + 1, 0, none⟩ = some (.int .i64 0) := (World.cell?_of_block (heap_setCell_other _ _ _ _ (by simp))).trans d0
                have e1 : (wq.setCell ⟨w'.heap.size, 0, none⟩ (.int .i64 34)).cell? ⟨w'.heap.size + 1, 1, none⟩ = some (.int .u64 1) := (World.cell?_of_block (heap_setCell_other _ _ _ _ (by simp))).trans d1
                generalize wq.setCell ⟨w'.heap.size, 0, none⟩ (.int .i64 34) = v at *
                have hva : ∀ o, Below v.heap.size v (v.alloc o) := fun o => (Below.refl _ _).alloc (Nat.le_refl _) o
                have hl1v : w'.heap.size < v.heap.size := (Array.getElem?_eq_some_iff.1 hv).1
                have hl2v : w'.heap.size + 1 < v.heap.size := by
                  exact cell_lt e0
                exact ⟨1, by omega, rfl, ((hva _).block _ hl1v).trans hv, hbv.trans ((hva _).mono hbv.size), ((hva _).cell (p := ⟨w'.heap.size + 1, 0, none⟩) hl2v).trans e0, ((hva _).cell (p := ⟨w'.heap.size + 1, 1, none⟩) hl2v).trans e1⟩
            · obtain rfl : j = 1 := by omega
              clear d0 d1
              go_wp2_with fail
              go_loopw [125] (fun i wz => ∃ j : Nat, j ≤ 3 ∧ i = .int .i64 j ∧ wz.heap[w'.heap.size]? = some (.cells (outB 1) 2 (0, 0)) ∧ Below w'.heap.size w' wz) (fun i _ => 3 - (intOf i).toNat)
              case atStart => exact ⟨0, by omega, rfl, h1, hb⟩
              case round =>
                obtain ⟨wz, rfl⟩ : ∃ x, x = wr := ⟨_, rfl⟩
                clear h1 hb
                obtain ⟨j, hj, rfl, h1, hb⟩ := hrel
                by_cases hlt : j < 3
                · have : j = 0 ∨ j = 1 ∨ j = 2 := by omega
                  have c0 : wz.cell? ⟨w'.heap.size, 0, none⟩ = some (.int .i64 34) := (cell_of_row _ _ _ _ _ _ h1).trans rfl
                  have c1 : wz.cell? ⟨w'.heap.size, 1, none⟩ = some (.int .i64 33) := (cell_of_row _ _ _ _ _ _ h1).trans rfl
                  have c2 : wz.cell? ⟨w'.heap.size, 2, none⟩ = some (.int .i64 33) := (cell_of_row _ _ _ _ _ _ h1).trans rfl
                  have f0 := frozen_of_row _ _ 0 _ _ h1
                  have f1 := frozen_of_row _ _ 1 _ _ h1
                  have f2 := frozen_of_row _ _ 2 _ _ h1
                  have H1 := Lib.hid h1
                  clear h1
                  rcases this with rfl | rfl | rfl
                  all_goals
                    go_wp2_with fail
                    go_roundw
                    case measure => simp [intOf]
                    case rel =>
                      first | rw [or34] | rw [or33]
                      first
                        | (refine ⟨1, by omega, congrArg (Value.int .i64) (by decide), ?_, ?_⟩
                           · exact row_set H1.out 0 (.int .i64 34)
                           · exact hb.setCell (Nat.le_refl _) _)
                        | (refine ⟨2, by omega, congrArg (Value.int .i64) (by decide), ?_, ?_⟩
                           · exact row_set H1.out 1 (.int .i64 33)
                           · exact hb.setCell (Nat.le_refl _) _)
                        | (refine ⟨3, by omega, congrArg (Value.int .i64) (by decide), ?_, ?_⟩
                           · exact row_set H1.out 2 (.int .i64 33)
                           · exact hb.setCell (Nat.le_refl _) _)
                · obtain rfl : j = 3 := by omega
                  go_wp2_with fail
                  go_ret2
                  exact ⟨_, rfl, (cell_of_row _ _ _ _ _ _ h1).trans rfl, hb⟩
end Go.Proofs.YtjniclalobggpaaDoor
