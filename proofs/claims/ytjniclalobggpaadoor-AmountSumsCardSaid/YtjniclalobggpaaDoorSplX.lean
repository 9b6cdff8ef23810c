/-
  The walk of amount.Split at a total that is shared. No statement is proved here.
-/
import Derived.Test.YtjniclalobggpaaDoorSplW
namespace Go.Proofs.YtjniclalobggpaaDoor
open Go.RowKit Go.Shelf Go.Sort
set_option linter.unusedVariables false

theorem sortW_block (w : World) (g off m : Nat) (d : Array (Nat × Nat)) (os : Array Obj) (b : Nat) (hb : b ≠ g) (hl : b < w.heap.size) : (sortWorldK encS 2 w g off m d os).heap[b]? = w.heap[b]? := by
  unfold sortWorldK putRowK
  rw [heap_grow_old _ _ (by simpa [putRow, mapBlock] using hl)]
  simp only [putRow, mapBlock, Array.getElem?_modify]
  rw [if_neg (fun h => hb h.symm)]
  rfl
theorem sortW_below (w : World) (g off m : Nat) (d : Array (Nat × Nat)) (os : Array Obj) (B : Nat) (hB : B ≤ g) (hw : B ≤ w.heap.size) : Below B w (sortWorldK encS 2 w g off m d os) := by
  refine ⟨rfl, rfl, rfl, show w.heap.size ≤ _ from ?_, fun i hi => sortW_block w g off m d os i (by omega) (by omega)⟩
  unfold sortWorldK
  rw [size_grow, size_putRowK]
  show w.heap.size ≤ w.heap.size + os.size
  omega
theorem below_refl' (w : World) : Below w.heap.size w w := Below.refl _ _
/-- A share's cells, wherever the order's block has stayed. -/
theorem share_cells {w w' : World} {g : Nat} {d : Array (Nat × Nat)} (h : HoldsK encS 2 w g 0 d) (he : w'.heap[g]? = w.heap[g]?) (j : Nat) (hj : j < d.size) :
    w'.cell? ⟨g, j * 2, none⟩ = some (.int .i64 (d[j]!).1) ∧ w'.cell? ⟨g, j * 2 + 1, none⟩ = some (.int .u64 (d[j]!).2) := by
  have h0 := (h.cell (c := 0) hj (by omega)).1
  have h1 := (h.cell (c := 1) hj (by omega)).1
  rw [← World.cell?_of_block (a := ⟨g, 0 + j * 2 + 0, none⟩) he] at h0
  rw [← World.cell?_of_block (a := ⟨g, 0 + j * 2 + 1, none⟩) he] at h1
  rw [show 0 + j * 2 + 0 = j * 2 by omega] at h0
  rw [show 0 + j * 2 + 1 = j * 2 + 1 by omega] at h1
  exact ⟨h0, h1⟩
theorem ltOf_cfS : ltOf cfS = ltSh := by
  funext x y
  unfold ltOf cfS ltSh Lib.compareInt
  rw [decide_eq_decide]
  split
  · constructor <;> intro h <;> omega
  · split <;> constructor <;> intro h <;> omega
theorem holds_of_row {w : World} {g : Nat} {d : Array (Nat × Nat)} {T : TypeId} (h : w.heap[g]? = some (.cells (flatK encS 2 d) T (0, 0))) : HoldsK encS 2 w g 0 d := fun j hj => by
  rw [Nat.zero_add]
  refine ⟨?_, frozen_of_row _ _ _ _ _ h⟩
  rw [cell_of_row _ _ _ _ _ _ h, Array.getElem?_eq_getElem hj, getElem!_pos _ j hj]
  rfl
def sg (total : Int) : Int := if total < 0 then -1 else 1
theorem elemSizeSh (W : World) : (sizeOf (Tryd.prog.elem 66)).run Tryd.prog W = .ok 2 W := by kernel_rfl
theorem cutSh (g L k : Nat) (hk : k ≤ L) (W : World) : (Instr.slice 66 (.slice (some ⟨g, 0, none⟩) L L) none (some (.int .u64 (k : Int))) none).run Tryd.prog W = .ok (.slice (some ⟨g, 0, none⟩) k L) W := by
  rw [run_slice_h W 66 (some ⟨g, 0, none⟩) L L elemUndS .u64 _ (by omega) (by omega), elemSizeSh]
  simp [Result.andThen, sliced, Addr.add]
theorem div_of (N a S : Nat) (hN : N ≤ 1000000000000000) (ha : a ≤ 1000000000) (hS : 0 < S) (haS : a ≤ S) (hS2 : S < 18446744073709551616) :
    ∀ w : World, Calls Tryd.prog 39 #[.int .u64 (N * a / 18446744073709551616 : Nat), .int .u64 (N * a % 18446744073709551616 : Nat), .int .u64 S] w fun e w' =>
      e = .returned (.tuple #[.int .u64 (N * a / S : Nat), .int .u64 (N * a % S : Nat)]) ∧ Below w.heap.size w w' := by
  have h1 : N * a ≤ 1000000000000000 * S := Nat.mul_le_mul hN haS
  have h := Div64_any (N * a / 18446744073709551616) (N * a % 18446744073709551616) S (by omega) (Nat.mod_lt _ (by omega)) hS2
  unfold DivAt at h
  rw [wd_split] at h
  exact h
set_option maxRecDepth 100000 in
set_option maxHeartbeats 4000000 in
theorem Split_ok (total : Int) (c : Nat) (ws : List Nat) (b off n S : Nat) (w : World) (h1 : 1 ≤ n) (h2 : n ≤ 1024) (hbl : b < w.heap.size) (hc : ∀ j, j < n → w.cell? ⟨b, off + j, none⟩ = some (.int .i64 (wAt ws j : Nat)))
    (hok : ∀ j, j < n → wAt ws j ≤ 1000000000) (hS : wsum ws n = S) (hS0 : 0 < S) (t1 : -1000000000000000 ≤ total) (t2 : total ≤ 1000000000000000) :
    Calls Tryd.prog 16 #[.int .i64 total, .slice (some ⟨b, off, none⟩) n c] w fun e w' => e = .returned (.tuple #[.slice (some ⟨w.heap.size, 0, none⟩) n n, .int .i64 0]) ∧
      w'.heap[w.heap.size]? = some (.cells (rowI n fun i => sg total * (shareF total.natAbs ws S n (left0 total.natAbs ws S n) i : Nat)) 2 (0, 0)) ∧ Below w.heap.size w w' := by
  have g1 : ¬ (n : Int) < 1 := by omega
  have g2 : ¬ (1024 : Int) < n := by omega
  have HC := Lib.hid hc
  have HK := Lib.hid hok
  have HS : Hid (∀ j, j ≤ n → wsum ws j ≤ j * 1000000000) := Lib.hid fun j hj => sumTo_le _ _ _ fun i hi => hok i (by omega)
  have HSS := Lib.hid hS
  have hS3 : S ≤ 1024000000000 := by have := HS.out n (Nat.le_refl _); rw [hS] at this; omega
  have HW : Hid (∀ j, j < n → wAt ws j ≤ S) := Lib.hid fun j hj => by
    have h := sumTo_mono (wAt ws) n (j + 1) hj
    rw [sumTo] at h
    unfold wsum at hS
    omega
  have hz : ((S : Int) == 0) = false := by rw [beq_eq_false_iff_ne]; omega
  obtain ⟨N, hN⟩ : ∃ N, N = total.natAbs := ⟨_, rfl⟩
  have SZ := Lib.hid (fun w => size_any total w (by omega) (by omega))
  rw [← hN] at SZ ⊢
  have hN2 : N ≤ 1000000000000000 := by omega
  obtain ⟨hq, hl, hlt⟩ := left_law N ws S n hS hS0
  have MK := makeI n h2
  have MS := makeS n h2
  have g3 : ¬ total < -1000000000000000 := by omega
  have g4 : ¬ 1000000000000000 < total := by omega
  obtain ⟨sv, hsv⟩ : ∃ sv, sv = sg total := ⟨_, rfl⟩
  have HSG : Hid (bits .or .i64 (total / 9223372036854775808) 1 = sv) := Lib.hid (by
    rw [hsv]; unfold sg
    split
    · rw [show total / 9223372036854775808 = -1 by omega]; decide +kernel
    · rw [show total / 9223372036854775808 = 0 by omega]; decide +kernel)
  have HSV : Hid (sv = 1 ∨ sv = -1) := Lib.hid (by rw [hsv]; unfold sg; split <;> simp)
  rw [← hsv]
  have HN := Lib.hid hN
  have HSV2 := Lib.hid hsv
  clear hc hok hS hN hsv hl
  go_enter Tryd.func16, Tryd.ntmps16
  go_wp2_with fail
  go_loopw [6, 32] (fun s i wr => ∃ j : Nat, j ≤ n ∧ s = .int .u64 (wsum ws j : Nat) ∧ i = .int .i64 j ∧ wr = w) (fun _ i _ => n - (intOf i).toNat)
  case atStart => exact ⟨0, by omega, rfl, rfl, rfl⟩
  case round =>
    obtain ⟨j, hj, rfl, rfl, rfl⟩ := hrel
    by_cases hlt1 : j < n
    · have hcj := HC.out j hlt1
      have hjn : (j : Int) < (n : Int) := by omega
      have hs := HS.out j (by omega)
      have hs2 := HS.out (j + 1) (by omega)
      have e2 := HK.out j hlt1
      have q1 : ¬ (wAt ws j : Int) < 0 := by omega
      have q2 : ¬ (1000000000 : Int) < (wAt ws j : Int) := by omega
      have q3 : IntKind.u64.wrap ((wsum ws j : Int) + (wAt ws j : Int)) = ((wsum ws (j + 1) : Nat) : Int) := by
        show IntKind.u64.wrap _ = ((sumTo (wAt ws) j + wAt ws j : Nat) : Int)
        rw [IntKind.wrap_u64]
        unfold wsum at *
        omega
      have q4 : IntKind.u64.wrap (wAt ws j : Int) = (wAt ws j : Int) := wrapU _ (by omega)
      have Q3 := Lib.hid q3
      clear q3 hs hs2
      generalize wAt ws j = a at *
      generalize wsum ws j = s at *
      go_wp2_with fail
      go_roundw
      case rel => exact ⟨j + 1, by omega, by (first | rw [Q3.out] | (rw [← Q3.out]; rw [IntKind.wrap_u64]; congr 1; omega)), by go_num, by simp⟩
      case measure => simp [intOf]; omega
    · obtain rfl : n = j := by omega
      rw [HSS.out]
      go_wp2_with fail
      rw [HSG.out]
      refine (SZ.out _).mono ?_
      rintro e w1 ⟨rfl, rfl⟩
      go_wp2_with fail
      clear MK MS
      go_loopw [10, 70] (fun l i wr => ∃ j : Nat, j ≤ n ∧ l = .int .u64 (N - sumTo (qq N ws S) j : Nat) ∧ i = .int .i64 j ∧ wr.heap[w1.heap.size]? = some (.cells (rowI n fun i => if i < j then (qq N ws S i : Int) else 0) 2 (0, 0)) ∧ wr.heap[w1.heap.size + 1]? = some (.cells (flatK encS 2 (upTo n j (shares0 N ws S n))) 69 (0, 0)) ∧ Below w1.heap.size w1 wr) (fun _ i _ => n - (intOf i).toNat)
      case atStart => exact ⟨0, by omega, rfl, rfl, alloc2_first _ _ _, by rw [← World.size_alloc w1, upTo_zero]; exact heap_alloc_new _ _, ((Below.refl _ _).alloc (Nat.le_refl _) _).alloc (by simp) _⟩
      case round =>
        obtain ⟨j, hj, rfl, rfl, r1, r2, hb⟩ := hrel
        by_cases hlt2 : j < n
        · have hcj := cell_later hb (HC.out j hlt2)
          have hjn : (j : Int) < (n : Int) := by omega
          have e2 := HK.out j hlt2
          have e3 := HW.out j hlt2
          have q4 : IntKind.u64.wrap (wAt ws j : Int) = (wAt ws j : Int) := wrapU _ (by omega)
          have MU := Lib.hid (fun w => mul_any N (wAt ws j) w (by omega) (by omega))
          have DV : Hid (∀ w : World, Calls Tryd.prog 39 #[.int .u64 (N * wAt ws j / 18446744073709551616 : Nat), .int .u64 (N * wAt ws j % 18446744073709551616 : Nat), .int .u64 S] w fun e w' =>
            e = .returned (.tuple #[.int .u64 (qq N ws S j : Nat), .int .u64 (rr N ws S j : Nat)]) ∧ Below w.heap.size w w') := Lib.hid (div_of N (wAt ws j) S hN2 e2 hS0 e3 (by omega))
          have hqN : sumTo (qq N ws S) j + qq N ws S j ≤ N := by
            have h := sumTo_mono (qq N ws S) n (j + 1) hlt2
            rw [sumTo] at h
            omega
          have hsh := shares0_at N ws S n j hlt2
          have R2 : Hid ((upTo n j (shares0 N ws S n)).setIfInBounds j (j, rr N ws S j) = upTo n (j + 1) (shares0 N ws S n)) := Lib.hid (by rw [← hsh]; exact upTo_set n j _ hlt2)
          have R1 : Hid ((rowI n fun i => if i < j then (qq N ws S i : Int) else 0).setIfInBounds j (.int .i64 (qq N ws S j : Nat)) = rowI n fun i => if i < j + 1 then (qq N ws S i : Int) else 0) := Lib.hid (by
            rw [rowI_set]
            refine rowI_ext _ _ _ fun i hi => ?_
            by_cases e : i = j
            · subst e; rw [if_pos rfl, if_pos (by omega)]
            · rw [if_neg e]
              by_cases e2 : i < j
              · rw [if_pos e2, if_pos (by omega)]
              · rw [if_neg e2, if_neg (by omega)])
          have R3 : Hid (sumTo (qq N ws S) (j + 1) = sumTo (qq N ws S) j + qq N ws S j) := Lib.hid rfl
          clear hsh
          go_wp2_with fail
          refine (SZ.out _).mono ?_
          rintro e w2 ⟨rfl, hw2⟩
          subst hw2
          go_wp2_with fail
          refine (MU.out _).mono ?_
          rintro e w2 ⟨rfl, hw2⟩
          subst hw2
          go_wp2_with fail
          refine (DV.out _).mono ?_
          rintro e w6 ⟨rfl, hb6⟩
          have hl1 : w1.heap.size < w2.heap.size := (Array.getElem?_eq_some_iff.1 r1).1
          have hl2 : w1.heap.size + 1 < w2.heap.size := (Array.getElem?_eq_some_iff.1 r2).1
          have r1' := (hb6.block _ hl1).trans r1
          have r2' := (hb6.block _ hl2).trans r2
          have o1 := cell_of_row w6 w1.heap.size j _ _ _ r1'
          rw [rowI_at _ _ _ hlt2, if_neg (by omega)] at o1
          have o2 := frozen_of_row w6 w1.heap.size j _ _ r1'
          have fa := flat_at (upTo n j (shares0 N ws S n)) j (by rw [upTo_size]; exact hlt2)
          have p1 := (cell_of_row w6 (w1.heap.size + 1) (j * 2) _ _ _ r2').trans fa.1
          have p2 := (cell_of_row w6 (w1.heap.size + 1) (j * 2 + 1) _ _ _ r2').trans fa.2
          have p3 := frozen_of_row w6 (w1.heap.size + 1) (j * 2) _ _ r2'
          have p4 := frozen_of_row w6 (w1.heap.size + 1) (j * 2 + 1) _ _ r2'
          have hb06 := hb.trans (hb6.mono hb.size)
          have H1 := Lib.hid r1'
          have H2 := Lib.hid r2'
          have fs := flat_set (upTo n j (shares0 N ws S n)) j (by rw [upTo_size]; exact hlt2) (j, rr N ws S j)
          rw [R2.out] at fs
          have FS := Lib.hid fs
          clear r1 r2 r1' r2' hl1 hl2 fa fs R2
          generalize flatK encS 2 (upTo n j (shares0 N ws S n)) = ca at *
          generalize (upTo n j (shares0 N ws S n))[j]! = cc at *
          generalize qq N ws S j = q at *
          generalize rr N ws S j = r at *
          generalize sumTo (qq N ws S) j = sq at *
          have w1q : IntKind.i64.wrap (q : Int) = (q : Int) := by rw [IntKind.wrap_i64]; omega
          go_wp2
          go_roundw
          case measure => simp [intOf]; omega
          case rel => exact ⟨j + 1, by omega, congrArg (Value.int .u64) (by rw [R3.out]; omega), by go_num, row_keep (row_keep (by rw [← R1.out]; exact row_set H1.out _ _) (by omega) _ _) (by omega) _ _, by rw [← FS.out]; exact row_set (row_set (row_keep H2.out (by omega) _ _) _ _) _ _, ((hb06.setCell (Nat.le_refl _) _).setCell (Nat.le_succ _) _).setCell (Nat.le_succ _) _⟩
        · obtain rfl : n = j := by omega
          rw [upTo_end n _ (shares0_size N ws S n)] at r2
          have hl1 : w1.heap.size < wr.heap.size := (Array.getElem?_eq_some_iff.1 r1).1
          have hl2 : w1.heap.size + 1 < wr.heap.size := (Array.getElem?_eq_some_iff.1 r2).1
          have SO := Lib.hid (sortStable_any (w1.heap.size + 1) 0 n n (shares0 N ws S n) wr (holds_of_row r2) hl2 (by omega) (shares0_size N ws S n))
          rw [ltOf_cfS] at SO
          have r1b : wr.heap[w1.heap.size]? = some (.cells (rowI n fun i => (shareF N ws S n 0 i : Int)) 2 (0, 0)) := by
            rw [r1]
            exact congrArg (fun z => some (Obj.cells z 2 (0, 0))) (rowI_ext _ _ _ fun i hi => by rw [if_pos hi]; rfl)
          have hH := holds_of_row r2
          obtain ⟨lf, hlf⟩ : ∃ lf, lf = left0 N ws S n := ⟨_, rfl⟩
          have hlf2 : N - sumTo (qq N ws S) n = lf := by rw [hlf]; rfl
          rw [hlf2]
          have HLF := Lib.hid hlf
          rw [← hlf] at hlt
          have CS := cutSh (w1.heap.size + 1) n lf (by omega)
          clear r1 r2 hlf hlf2 hq
          go_wp2_with fail
          refine SO.out.mono ?_
          rintro e w3 ⟨rfl, m, os, hw3⟩
          have hbs := sortW_below wr (w1.heap.size + 1) 0 m (order N ws S n) os (w1.heap.size + 1) (Nat.le_refl _) (by omega)
          have hH3 := holdsK_sortWorldK encS 2 wr (w1.heap.size + 1) 0 m _ (order N ws S n) os hl2 hH (by rw [order_size, shares0_size])
          change w3 = sortWorldK encS 2 wr (w1.heap.size + 1) 0 m (order N ws S n) os at hw3
          rw [← hw3] at hbs hH3
          have r1c := (hbs.block _ (by omega)).trans r1b
          have hb3 : Below w1.heap.size w1 w3 := hb.trans (hbs.mono (by omega))
          have HSZ := hbs.size
          have HH := Lib.hid hH3
          have hl3 : w1.heap.size + 1 < w3.heap.size := by omega
          obtain ⟨ob, hob⟩ : ∃ ob, w3.heap[w1.heap.size + 1]? = some ob := ⟨_, Array.getElem?_eq_getElem hl3⟩
          have HH : Hid (∀ W : World, W.heap[w1.heap.size + 1]? = some ob → ∀ k, k < n → W.cell? ⟨w1.heap.size + 1, k * 2, none⟩ = some (.int .i64 (place N ws S n k : Nat)) ∧ W.cell? ⟨w1.heap.size + 1, k * 2 + 1, none⟩ = some (.int .u64 (rr N ws S (place N ws S n k) : Nat))) := Lib.hid fun W hW k hk => by
            have h := share_cells hH3 (hW.trans hob.symm) k (by rw [order_size]; exact hk)
            rw [(order_at N ws S n k hk).1] at h
            exact h
          have HP : Hid (∀ k, k < n → place N ws S n k < n) := Lib.hid fun k hk => (order_at N ws S n k hk).2
          have HX : Hid (∀ k, k < n → ∀ i, shareF N ws S n (k + 1) i = if i = place N ws S n k then shareF N ws S n k i + 1 else shareF N ws S n k i) := Lib.hid fun k hk i => shareF_succ N ws S n k i hk
          have HLE : Hid (∀ k i, i < n → shareF N ws S n k i ≤ N + 1) := Lib.hid fun k i hi => share_le N ws S n HSS.out hS0 k i hi
          clear hw3 hH hH3 hbs r1b SO HSZ hb
          go_wp2_with fail
          go_loopw [111] (fun i wq => ∃ k : Nat, k ≤ lf ∧ i = .int .i64 k ∧ wq.heap[w1.heap.size]? = some (.cells (rowI n fun i => (shareF N ws S n k i : Int)) 2 (0, 0)) ∧ Below w1.heap.size w1 wq ∧ wq.heap[w1.heap.size + 1]? = some ob) (fun i _ => lf - (intOf i).toNat)
          case atStart => exact ⟨0, by omega, rfl, r1c, hb3, hob⟩
          case round =>
            obtain ⟨wq, rfl⟩ : ∃ x, x = wr := ⟨_, rfl⟩
            clear r1c hob hb3 hl1 hl2 hl3
            obtain ⟨k, hk, rfl, r1, hb, r2⟩ := hrel
            by_cases hlt3 : k < lf
            · have hl1 : w1.heap.size < wq.heap.size := (Array.getElem?_eq_some_iff.1 r1).1
              have hl2 : w1.heap.size + 1 < wq.heap.size := (Array.getElem?_eq_some_iff.1 r2).1
              have hkl : (k : Int) < (lf : Int) := by omega
              obtain ⟨q0, q1⟩ := HH.out wq r2 k (by omega)
              have hpn := HP.out k (by omega)
              have hx := HX.out k (by omega)
              have hle := HLE.out k _ hpn
              have fa0 := cell_of_row wq w1.heap.size (place N ws S n k) _ _ _ r1
              rw [rowI_at _ _ _ hpn] at fa0
              have ff0 := frozen_of_row wq w1.heap.size (place N ws S n k) _ _ r1
              have R1 : Hid ((rowI n fun i => (shareF N ws S n k i : Int)).setIfInBounds (place N ws S n k) (.int .i64 ((shareF N ws S n k (place N ws S n k) : Nat) + 1 : Int)) = rowI n fun i => (shareF N ws S n (k + 1) i : Int)) := Lib.hid (by
                rw [rowI_set]
                refine rowI_ext _ _ _ fun i hi => ?_
                rw [hx i]
                by_cases e : i = place N ws S n k
                · subst e; rw [if_pos rfl, if_pos rfl]; omega
                · rw [if_neg e, if_neg e])
              clear hx
              generalize rr N ws S (place N ws S n k) = r at *
              generalize place N ws S n k = p at *
              generalize shareF N ws S n k p = sp at *
              have hpi : (p : Int) < (n : Int) := by omega
              have fh : ∀ o, (wq.alloc o).heap[w1.heap.size]? = wq.heap[w1.heap.size]? := fun o => ((Below.refl wq.heap.size wq).alloc (Nat.le_refl _) o).block _ hl1
              have fa : ∀ o, (wq.alloc o).cell? ⟨w1.heap.size, p, none⟩ = some (.int .i64 sp) := fun o => (World.cell?_of_block (fh o)).trans fa0
              have ff : ∀ o, (wq.alloc o).frozen? ⟨w1.heap.size, p, none⟩ = false := fun o => frozen_of_row _ _ p _ _ ((fh o).trans r1)
              have H1 := Lib.hid r1
              have H2 := Lib.hid r2
              clear fh r1 r2
              go_wp2
              go_roundw
              case measure => simp [intOf]; omega
              case rel =>
                have hv : (wq.setCell ⟨w1.heap.size, p, none⟩ (.int .i64 ((sp : Int) + 1))).heap[w1.heap.size]? = some (.cells (rowI n fun i => (shareF N ws S n (k + 1) i : Int)) 2 (0, 0)) := by rw [← R1.out]; exact row_set H1.out _ _
                have hv2 : (wq.setCell ⟨w1.heap.size, p, none⟩ (.int .i64 ((sp : Int) + 1))).heap[w1.heap.size + 1]? = some ob := row_keep H2.out (by omega) _ _
                have hbv : Below w1.heap.size w1 (wq.setCell ⟨w1.heap.size, p, none⟩ (.int .i64 ((sp : Int) + 1))) := hb.setCell (Nat.le_refl _) _
                generalize wq.setCell ⟨w1.heap.size, p, none⟩ (.int .i64 ((sp : Int) + 1)) = v at *
                have hva : ∀ o, Below v.heap.size v (v.alloc o) := fun o => (Below.refl _ _).alloc (Nat.le_refl _) o
                have hl1v : w1.heap.size < v.heap.size := (Array.getElem?_eq_some_iff.1 hv).1
                have hl2v : w1.heap.size + 1 < v.heap.size := (Array.getElem?_eq_some_iff.1 hv2).1
                exact ⟨k + 1, by omega, by go_num, ((hva _).block _ hl1v).trans hv, hbv.trans ((hva _).mono hbv.size), ((hva _).block _ hl2v).trans hv2⟩
            · obtain rfl : k = lf := by omega
              have hl4 : ∀ i, i < n → shareF N ws S n k i ≤ N + 1 := fun i hi => HLE.out k i hi
              have HL4 := Lib.hid hl4
              clear hl4 HLE HX HP HH r2
              go_wp2_with fail
              go_loopw [125] (fun i wz => ∃ j : Nat, j ≤ n ∧ i = .int .i64 j ∧ wz.heap[w1.heap.size]? = some (.cells (rowI n fun i => if i < j then sv * (shareF N ws S n k i : Int) else (shareF N ws S n k i : Int)) 2 (0, 0)) ∧ Below w1.heap.size w1 wz) (fun i _ => n - (intOf i).toNat)
              case atStart => exact ⟨0, by omega, rfl, r1.trans (congrArg (fun z => some (Obj.cells z 2 (0, 0))) (rowI_ext _ _ _ fun i hi => by rw [if_neg (by omega)])), hb⟩
              case round =>
                obtain ⟨wz, rfl⟩ : ∃ x, x = wr := ⟨_, rfl⟩
                clear r1 hb
                obtain ⟨j, hj, rfl, r1, hb⟩ := hrel
                by_cases hlt4 : j < n
                · have hjn : (j : Int) < (n : Int) := by omega
                  have fa0 := cell_of_row wz w1.heap.size j _ _ _ r1
                  rw [rowI_at _ _ _ hlt4, if_neg (by omega)] at fa0
                  have ff0 := frozen_of_row wz w1.heap.size j _ _ r1
                  have hle := HL4.out j hlt4
                  have R1 : Hid ((rowI n fun i => if i < j then sv * (shareF N ws S n k i : Int) else (shareF N ws S n k i : Int)).setIfInBounds j (.int .i64 (sv * (shareF N ws S n k j : Int))) = rowI n fun i => if i < j + 1 then sv * (shareF N ws S n k i : Int) else (shareF N ws S n k i : Int)) := Lib.hid (by
                    rw [rowI_set]
                    refine rowI_ext _ _ _ fun i hi => ?_
                    by_cases e : i = j
                    · subst e; rw [if_pos rfl, if_pos (by omega)]
                    · rw [if_neg e]
                      by_cases e2 : i < j
                      · rw [if_pos e2, if_pos (by omega)]
                      · rw [if_neg e2, if_neg (by omega)])
                  generalize shareF N ws S n k j = sp at *
                  obtain ⟨y, hy⟩ : ∃ y, y = sv * (sp : Int) := ⟨_, rfl⟩
                  have M1 : wrap64 ((sp : Int) * sv) = y := by
                    rcases HSV.out with e | e <;> rw [hy, e] <;> simp [wrap64] <;> omega
                  have M2 : IntKind.i64.wrap ((sp : Int) * sv) = y := by
                    rcases HSV.out with e | e <;> rw [hy, e, IntKind.wrap_i64] <;> omega
                  rw [← hy] at R1
                  have H1 := Lib.hid r1
                  have HY := Lib.hid hy
                  clear r1 hy
                  go_wp2
                  go_roundw
                  case measure => simp [intOf]; omega
                  case rel => exact ⟨j + 1, by omega, by go_num, by rw [← R1.out]; exact row_set H1.out _ _, hb.setCell (Nat.le_refl _) _⟩
                · obtain rfl : n = j := by omega
                  have HR : Hid (wz.heap[w1.heap.size]? = some (.cells (rowI n fun i => sv * (shareF N ws S n k i : Int)) 2 (0, 0))) := Lib.hid (r1.trans (congrArg (fun z => some (Obj.cells z 2 (0, 0))) (rowI_ext _ _ _ fun i hi => by rw [if_pos hi])))
                  clear r1
                  go_wp2
                  go_ret2
                  rw [← HLF.out]
                  exact ⟨rfl, HR.out, hb⟩
end Go.Proofs.YtjniclalobggpaaDoor
