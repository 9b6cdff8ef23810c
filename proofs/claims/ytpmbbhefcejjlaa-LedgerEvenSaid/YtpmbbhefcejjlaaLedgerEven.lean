/-
  The walk of LedgerEven.
-/
import Derived.Test.YtpmbbhefcejjlaaLedW8
import Derived.Test.YtpmbbhefcejjlaaLedE
import Derived.BigQuiet
namespace Go.Proofs.Ytpmbbhefcejjlaa
open Go.RowKit
set_option linter.unusedVariables false

/-- Integers as cells. -/
def arr (S : List Int) : Array Value := (S.map fun x => Value.int .i64 x).toArray
theorem arr_get (S : List Int) (k : Nat) (h : k < S.length) : (arr S)[k]? = some (.int .i64 (S.getD k 0)) := by
  simp [arr, List.getD, List.getElem?_eq_getElem h]
theorem arr_set (S : List Int) (k : Nat) (z : Int) : (arr S).setIfInBounds k (.int .i64 z) = arr (S.set k z) := by
  simp [arr, List.map_set]
theorem setCell_arr {w : World} {g k : Nat} {S : List Int} {t : TypeId} (z : Int) (h : w.heap[g]? = some (.cells (arr S) t (0, 0))) : (w.setCell ⟨g, k, none⟩ (.int .i64 z)).heap[g]? = some (.cells (arr (S.set k z)) t (0, 0)) := by
  rw [setCell_eq_setRow w g k _ _ _ _ h, arr_set]
  exact setRow_heap _ _ _ _ _ _ h
theorem getD_set (S : List Int) (k m : Nat) (z : Int) (hk : k < S.length) : (S.set k z).getD m 0 = if m = k then z else S.getD m 0 := by
  by_cases h : m = k
  · subst h; simp [List.getD, hk]
  · have h2 : ¬ k = m := fun e => h e.symm
    simp [List.getD, h, h2]
theorem zero8 : arr [0, 0, 0, 0, 0, 0, 0, 0] = #[.int .i64 0, .int .i64 0, .int .i64 0, .int .i64 0, .int .i64 0, .int .i64 0, .int .i64 0, .int .i64 0] := rfl
theorem all_zero (S : List Int) (hl : S.length = 8) (h : ∀ k, k < 8 → S.getD k 0 = 0) : S = [0, 0, 0, 0, 0, 0, 0, 0] := by
  match S, hl with
  | [a, b, c, d, e, f, g, i], _ =>
    have h0 := h 0 (by omega)
    have h1 := h 1 (by omega)
    have h2 := h 2 (by omega)
    have h3 := h 3 (by omega)
    have h4 := h 4 (by omega)
    have h5 := h 5 (by omega)
    have h6 := h 6 (by omega)
    have h7 := h 7 (by omega)
    simp at h0 h1 h2 h3 h4 h5 h6 h7
    subst h0 h1 h2 h3 h4 h5 h6 h7
    rfl
theorem upd_facts {S : List Int} {k : Nat} {d s z : Int} {f f' : Nat → Int} (h : S.length = 8 ∧ ∀ i, i < 8 → S.getD i 0 = f i) (hk : k < 8) (hs : S.getD k 0 = s) (hf : ∀ i, f' i = f i + (if i = k then d else 0)) (hz : z = s + d) : (S.set k z).length = 8 ∧ ∀ i, i < 8 → (S.set k z).getD i 0 = f' i := by
  refine ⟨by rw [List.length_set]; exact h.1, fun i hi => ?_⟩
  rw [getD_set S k i z (by rw [h.1]; exact hk), hf i]
  by_cases hik : i = k
  · subst hik
    rw [if_pos rfl, if_pos rfl, hz, ← hs, h.2 i hi]
  · rw [if_neg hik, if_neg hik, h.2 i hi, Int.add_zero]
theorem info8 : (Try.prog.info? 33).map (·.size) = some (arr [0, 0, 0, 0, 0, 0, 0, 0]).size := by
  rw [show (arr [0, 0, 0, 0, 0, 0, 0, 0]).size = 8 from rfl]; kernel_rfl
theorem built8 (a : Act) : Try.prog.built 33 ((#[] : Array (Nat × Operand)).map fun (i, x) => (i, a.eval x)).toList = some (arr [0, 0, 0, 0, 0, 0, 0, 0]) := by
  have h : Try.prog.built 33 [] = some (arr [0, 0, 0, 0, 0, 0, 0, 0]) := by kernel_rfl
  rw [← h]
  simp
theorem equal8 : ∀ w : World, (Op.equalIn 10000 33 (.agg (arr [0, 0, 0, 0, 0, 0, 0, 0])) (.agg (arr [0, 0, 0, 0, 0, 0, 0, 0]))).run Try.prog w = .ok true w := fun w => by kernel_rfl
theorem guard8 : Try.prog.eqGuardType Try.prog.depth 33 = false := by kernel_rfl
theorem err_vals (a b : St) : (linesAt a b).2 = 0 ∨ (linesAt a b).2 = 2 ∨ (linesAt a b).2 = 52 := by
  unfold linesAt
  split
  · simp
  · split <;> simp
theorem res_len (a b : St) : (linesAt a b).1.length ≤ 7 := by
  unfold linesAt
  split
  · simp
  · split
    · simp
    · exact lines_len a b
set_option maxRecDepth 100000 in
set_option maxHeartbeats 8000000 in
theorem LedgerEven_walk (a b c : St) (w : World) :
    Calls Try.prog 4 #[a.val, b.val, c.val] w fun e w' => e = .returned (.bool true) ∧ Below w.heap.size w w' := by
  have HW := Lib.hid wakes_any
  have HAB := Lib.hid (fun W => Lines_any a b W)
  have HBA := Lib.hid (fun W => Lines_any b a W)
  have HBC := Lib.hid (fun W => Lines_any b c W)
  have HAC := Lib.hid (fun W => Lines_any a c W)
  have F1 := Lib.hid (sym_ok a b)
  have F2 := Lib.hid (fun h => bad_nil (a := a) (b := b) h)
  have F3 := Lib.hid (fun h => same_err (a := a) (b := b) (c := c) h)
  have F4 := Lib.hid (fun h => ok_parts (a := a) (b := b) h)
  have F5 := Lib.hid (fun h => ok_parts (a := b) (b := a) h)
  have F6 := Lib.hid (fun h => ok_parts (a := b) (b := c) h)
  have F7 := Lib.hid (fun h => ok_parts (a := a) (b := c) h)
  have V1 := Lib.hid (err_vals a b)
  have V2 := Lib.hid (err_vals b a)
  have V3 := Lib.hid (err_vals b c)
  have N1 := Lib.hid (res_len a b)
  have N2 := Lib.hid (res_len b a)
  have N3 := Lib.hid (res_len b c)
  have N4 := Lib.hid (res_len a c)
  have G1 := Lib.hid (lines_back a b)
  have G2 := Lib.hid (lines_over a b c)
  have hiA := st_info a
  have hiB := st_info b
  have hiC := st_info c
  rw [show a.val = .agg (stCells a) from rfl, show b.val = .agg (stCells b) from rfl, show c.val = .agg (stCells c) from rfl] at *
  generalize stCells a = A at *
  generalize stCells b = B at *
  generalize stCells c = C at *
  generalize linesAt a b = R1 at *
  generalize linesAt b a = R2 at *
  generalize linesAt b c = R3 at *
  generalize linesAt a c = R4 at *
  obtain ⟨X, e1⟩ := R1
  obtain ⟨Y, e2⟩ := R2
  obtain ⟨Z, e3⟩ := R3
  obtain ⟨V, e4⟩ := R4
  obtain ⟨w1, hw1⟩ : ∃ w1, w1 = ((w.alloc (.cells A 23)).alloc (.cells B 23)).alloc (.cells C 23) := ⟨_, rfl⟩
  have hz1 : w1.heap.size = w.heap.size + 3 := by rw [hw1]; simp
  have hb1 : Below w.heap.size w w1 := by rw [hw1]; exact (((Below.refl _ _).alloc (Nat.le_refl _) _).alloc (by simp) _).alloc (by simp; omega) _
  have hA1 : w1.heap[w.heap.size]? = some (.cells A 23 (0, 0)) := by rw [hw1]; exact heap_alloc_old (heap_alloc_old (heap_alloc_new _ _))
  have hB1 : w1.heap[w.heap.size + 1]? = some (.cells B 23 (0, 0)) := by rw [hw1, ← World.size_alloc w]; exact heap_alloc_old (heap_alloc_new _ _)
  have hC1 : w1.heap[w.heap.size + 2]? = some (.cells C 23 (0, 0)) := by
    rw [hw1, show w.heap.size + 2 = ((w.alloc (.cells A 23)).alloc (.cells B 23)).heap.size by simp]; exact heap_alloc_new _ _
  have HROW : Hid (∀ W, Below w1.heap.size w1 W → W.heap[w.heap.size]? = some (.cells A 23 (0, 0)) ∧ W.heap[w.heap.size + 1]? = some (.cells B 23 (0, 0)) ∧ W.heap[w.heap.size + 2]? = some (.cells C 23 (0, 0))) := Lib.hid fun W hW =>
    ⟨(hW.block _ (by omega)).trans hA1, (hW.block _ (by omega)).trans hB1, (hW.block _ (by omega)).trans hC1⟩
  clear hA1 hB1 hC1
  go_enter Try.func4, Try.ntmps4
  go_upto_region 1 with (fail)
  rw [← hw1]
  rw [show w.heap.size + 1 + 1 = w.heap.size + 2 by omega]
  clear hw1
  go_wp2_with fail
  refine (HW.out _).mono ?_
  rintro e w2 ⟨rfl, hb2⟩
  obtain ⟨hA, hB, hC⟩ := HROW.out w2 hb2
  go_wp2_with (first
    | (refine wpList_load_row rfl 23 _ rfl _ rfl _ _ _ _ hA Try.underlying23 rfl hiA ?_)
    | (refine wpList_load_row rfl 23 _ rfl _ rfl _ _ _ _ hB Try.underlying23 rfl hiB ?_)
    | (refine wpList_load_row rfl 23 _ rfl _ rfl _ _ _ _ hC Try.underlying23 rfl hiC ?_))
  refine (HAB.out _).mono ?_
  rintro e w3 ⟨v1, rfl, hv1, hb3⟩
  have hb13 := hb2.trans (hb3.mono hb2.size)
  clear hA hB hC
  obtain ⟨hA, hB, hC⟩ := HROW.out w3 hb13
  go_wp2_with (first
    | (refine wpList_load_row rfl 23 _ rfl _ rfl _ _ _ _ hA Try.underlying23 rfl hiA ?_)
    | (refine wpList_load_row rfl 23 _ rfl _ rfl _ _ _ _ hB Try.underlying23 rfl hiB ?_)
    | (refine wpList_load_row rfl 23 _ rfl _ rfl _ _ _ _ hC Try.underlying23 rfl hiC ?_))
  refine (HBA.out _).mono ?_
  rintro e w4 ⟨v2, rfl, hv2, hb4⟩
  have hb14 := hb13.trans (hb4.mono hb13.size)
  clear hA hB hC
  obtain ⟨hA, hB, hC⟩ := HROW.out w4 hb14
  go_wp2_with (first
    | (refine wpList_load_row rfl 23 _ rfl _ rfl _ _ _ _ hA Try.underlying23 rfl hiA ?_)
    | (refine wpList_load_row rfl 23 _ rfl _ rfl _ _ _ _ hB Try.underlying23 rfl hiB ?_)
    | (refine wpList_load_row rfl 23 _ rfl _ rfl _ _ _ _ hC Try.underlying23 rfl hiC ?_))
  refine (HBC.out _).mono ?_
  rintro e w5 ⟨v3, rfl, hv3, hb5⟩
  have hb15 := hb14.trans (hb5.mono hb14.size)
  clear hA hB hC
  obtain ⟨hA, hB, hC⟩ := HROW.out w5 hb15
  go_wp2_with (first
    | (refine wpList_load_row rfl 23 _ rfl _ rfl _ _ _ _ hA Try.underlying23 rfl hiA ?_)
    | (refine wpList_load_row rfl 23 _ rfl _ rfl _ _ _ _ hB Try.underlying23 rfl hiB ?_)
    | (refine wpList_load_row rfl 23 _ rfl _ rfl _ _ _ _ hC Try.underlying23 rfl hiC ?_))
  refine (HAC.out _).mono ?_
  rintro e w6 ⟨v4, rfl, hv4, hb6⟩
  have hb16 := hb15.trans (hb6.mono hb15.size)
  have hb06 := hb1.trans (hb16.mono hb1.size)
  have r1 := hv1.below (((hb4.trans (hb5.mono hb4.size)).trans (hb6.mono (hb4.trans (hb5.mono hb4.size)).size)))
  have r2 := hv2.below (hb5.trans (hb6.mono hb5.size))
  have r3 := hv3.below hb6
  clear hA hB hC hv1 hv2 hv3 hb15 hb14 hb13 HROW HAB HBA HBC HAC HW hiA hiB hiC
  obtain ⟨A1, m1, c1, he1, hm1, _, _, q1, l1⟩ := r1.form
  obtain ⟨A2, m2, c2, he2, hm2, _, _, q2, l2⟩ := r2.form
  obtain ⟨A3, m3, c3, he3, hm3, _, _, q3, l3⟩ := r3.form
  obtain ⟨A4, m4, c4, he4, hm4, _, _, q4, l4⟩ := hv4.form
  subst he1 he2 he3 he4
  have M1 : Hid (X.length = m1) := Lib.hid hm1.out
  have M2 : Hid (Y.length = m2) := Lib.hid hm2.out
  have M3 : Hid (Z.length = m3) := Lib.hid hm3.out
  have M4 : Hid (V.length = m4) := Lib.hid hm4.out
  clear r1 r2 r3 hv4 hm1 hm2 hm3 hm4 hb2 hb3 hb4 hb5 hb6 hb16
  have v1 : e1 = 0 ∨ e1 = 2 ∨ e1 = 52 := V1.out
  have v2 : e2 = 0 ∨ e2 = 2 ∨ e2 = 52 := V2.out
  have v3 : e3 = 0 ∨ e3 = 2 ∨ e3 = 52 := V3.out
  have s1 : e1 = 0 ↔ e2 = 0 := F1.out
  by_cases h0 : e1 = 0
  · obtain rfl : e2 = 0 := s1.1 h0
    subst h0
    obtain rfl : e3 = e4 := F3.out rfl
    by_cases h3 : e3 = 0
    · subst h3
      obtain ⟨ha, hb, ea, eb, hX⟩ := F4.out rfl
      obtain ⟨_, _, _, _, hY⟩ := F5.out rfl
      obtain ⟨_, hc, _, ec, hZ⟩ := F6.out rfl
      obtain ⟨_, _, _, _, hV⟩ := F7.out rfl
      obtain rfl : X = linesOf a b := (Prod.mk.inj hX).1
      obtain rfl : Y = linesOf b a := (Prod.mk.inj hY).1
      obtain rfl : Z = linesOf b c := (Prod.mk.inj hZ).1
      obtain rfl : V = linesOf a c := (Prod.mk.inj hV).1
      have KX : Hid (Fine (linesOf a b)) := Lib.hid (lines_fits ha hb)
      have KZ : Hid (Fine (linesOf b c)) := Lib.hid (lines_fits hb hc)
      have KV : Hid (Fine (linesOf a c)) := Lib.hid (lines_fits ha hc)
      have TX : Hid (tot (linesOf a b) = 0) := Lib.hid (lines_tot ea eb)
      clear hX hY hZ hV ha hb ea eb hc ec F1 F2 F3 F4 F5 F6 F7 V1 V2 V3 v1 v2 v3 s1
      generalize linesOf a b = X at *
      generalize linesOf b a = Y at *
      generalize linesOf b c = Z at *
      generalize linesOf a c = V at *
      have m7 : m1 ≤ 7 ∧ m2 ≤ 7 ∧ m3 ≤ 7 ∧ m4 ≤ 7 := by
        have := M1.out; have := M2.out; have := M3.out; have := M4.out; have := N1.out; have := N2.out; have := N3.out; have := N4.out
        omega
      have E12 : Hid (m1 = m2) := Lib.hid (by rw [← M1.out, ← M2.out, G1.out, List.length_map])
      obtain ⟨n1, n2, n3, n4⟩ := m7
      have hq4 : RdL w6 A4 m4 V := q4
      clear q4
      go_wp2
      go_loopw [16, 74] (fun v i wr => ∃ (j : Nat) (S : List Int), j ≤ m1 ∧ i = .int .i64 j ∧ v = .int .i64 (tot (X.take j)) ∧ Hid (S.length = 8 ∧ ∀ k, k < 8 → S.getD k 0 = accOf (X.take j) k) ∧ wr.heap[w6.heap.size]? = some (.cells (arr S) 33 (0, 0)) ∧ Below w6.heap.size w6 wr) (fun _ i _ => m1 - (intOf i).toNat)
      case atStart => exact ⟨0, [0, 0, 0, 0, 0, 0, 0, 0], by omega, rfl, rfl, Lib.hid ⟨rfl, fun k hk => by
        rcases (show k = 0 ∨ k = 1 ∨ k = 2 ∨ k = 3 ∨ k = 4 ∨ k = 5 ∨ k = 6 ∨ k = 7 by omega) with rfl | rfl | rfl | rfl | rfl | rfl | rfl | rfl <;> rfl⟩, heap_alloc_new _ _, (Below.refl _ _).alloc (Nat.le_refl _) _⟩
      case round =>
        obtain ⟨j, S, hj, rfl, rfl, hS, hrow, hb⟩ := hrel
        by_cases hlt : j < m1
        · have hjx : j < X.length := by rw [M1.out]; exact hlt
          have hjy : j < Y.length := by rw [M2.out, ← E12.out]; exact hlt
          obtain ⟨k, am, hx, ⟨hk1, hk7⟩, ⟨a0, a1⟩, htot, hacc⟩ := round_facts KX.out j hjx
          have hy : Y[j] = ((k : Int), -am) := by simp [G1.out, hx]
          obtain ⟨b1, o1, rfl⟩ := q1.addr (by omega)
          obtain ⟨b2, o2, rfl⟩ := q2.addr (by have := E12.out; omega)
          obtain ⟨x1, x2⟩ := (q1.below hb).cells j hjx
          obtain ⟨y1, y2⟩ := (q2.below hb).cells j hjy
          rw [hx] at x1 x2
          rw [hy] at y1 y2
          simp only at x1 x2 y1 y2
          rw [← Nat.add_assoc] at x2 y2
          have sc : wr.cell? ⟨w6.heap.size, k, none⟩ = some (.int .i64 (S.getD k 0)) := (cell_of_row _ _ _ _ _ _ hrow).trans (arr_get S k (by rw [hS.out.1]; omega))
          have sf : wr.frozen? ⟨w6.heap.size, k, none⟩ = false := by simp [World.frozen?, hrow]
          have hsk := hS.out.2 k (by omega)
          obtain ⟨t0, t1⟩ := fine_tot KX.out N1.out j
          obtain ⟨u0, u1⟩ := fine_acc KX.out N1.out j k
          rw [← hsk] at u0 u1
          have HT := Lib.hid htot
          have HA := Lib.hid hacc
          have HR := Lib.hid hrow
          have hm2 : j < m2 := by have := E12.out; omega
          have hd1 : decide ((k : Int) < 1) = false := by rw [decide_eq_false_iff_not]; omega
          have hd2 : decide (7 < (k : Int)) = false := by rw [decide_eq_false_iff_not]; omega
          have hd3 : decide ((m2 : Int) ≤ (j : Int)) = false := by rw [decide_eq_false_iff_not]; omega
          have hw : IntKind.i64.wrap (-am) = -am := by simp [IntKind.wrap, IntKind.bits, IntKind.signed]; omega
          clear htot hacc hrow hx hy hsk hjx hjy
          generalize tot (X.take j) = tt at *
          generalize hs : S.getD k 0 = s at *
          have HSK := Lib.hid hs
          clear hs
          go_upto_region 16 with (fail)
          go_quiet (fail)
          go_upto_region 19 with (fail)
          go_region
          go_wp2
          go_roundw
          case rel => exact ⟨j + 1, S.set k (s + am), by omega, by go_num, by rw [HT.out], Lib.hid (upd_facts hS.out (by omega) HSK.out HA.out rfl), setCell_arr _ HR.out, by first | exact (belowD hb _).drew.setCell (Nat.le_refl _) _ | exact (belowD (hb.setCell (Nat.le_refl _) _) _).drew⟩
          case measure => simp [intOf]; omega
        · obtain rfl : j = m1 := by omega
          rw [show tot (X.take j) = 0 by rw [List.take_of_length_le (by rw [M1.out]; omega)]; exact TX.out]
          have hS : Hid (S.length = 8 ∧ ∀ k, k < 8 → S.getD k 0 = accOf X k) := Lib.hid ⟨hS.out.1, fun k hk => by rw [hS.out.2 k hk, List.take_of_length_le (by rw [M1.out]; omega)]⟩
          go_wp2
          go_loopw [148] (fun i wr => ∃ (j : Nat) (S : List Int), j ≤ m3 ∧ i = .int .i64 j ∧ Hid (S.length = 8 ∧ ∀ k, k < 8 → S.getD k 0 = accOf X k + accOf (Z.take j) k) ∧ wr.heap[w6.heap.size]? = some (.cells (arr S) 33 (0, 0)) ∧ Below w6.heap.size w6 wr) (fun i _ => m3 - (intOf i).toNat)
          case atStart => exact ⟨0, S, by omega, rfl, Lib.hid ⟨hS.out.1, fun k hk => by rw [hS.out.2 k hk]; simp [accOf_nil]⟩, hrow, hb⟩
          clear hrow hb hS
          case round =>
            obtain ⟨j, S, hj, rfl, hS, hrow, hb⟩ := hrel
            by_cases hlt : j < m3
            · have hjx : j < Z.length := by rw [M3.out]; exact hlt
              obtain ⟨k, am, hx, ⟨hk1, hk7⟩, ⟨a0, a1⟩, _, hacc⟩ := round_facts KZ.out j hjx
              obtain ⟨b1, o1, rfl⟩ := q3.addr (by omega)
              obtain ⟨x1, x2⟩ := (q3.below hb).cells j hjx
              rw [hx] at x1 x2
              simp only at x1 x2
              rw [← Nat.add_assoc] at x2
              have sc : wr.cell? ⟨w6.heap.size, k, none⟩ = some (.int .i64 (S.getD k 0)) := (cell_of_row _ _ _ _ _ _ hrow).trans (arr_get S k (by rw [hS.out.1]; omega))
              have sf : wr.frozen? ⟨w6.heap.size, k, none⟩ = false := by simp [World.frozen?, hrow]
              have hsk := hS.out.2 k (by omega)
              have u1 := fine_all KX.out N1.out k
              have u2 := fine_acc KZ.out N3.out j k
              have u3 := fine_all KZ.out N3.out k
              have u4 := fine_acc KV.out N4.out j k
              have hs0 : -900000000000000000 ≤ S.getD k 0 ∧ S.getD k 0 ≤ 900000000000000000 := by rw [hsk]; omega
              obtain ⟨s0, s1⟩ := hs0
              have HA := Lib.hid hacc
              have HR := Lib.hid hrow
              have hd1 : decide ((k : Int) < 1) = false := by rw [decide_eq_false_iff_not]; omega
              have hd2 : decide (7 < (k : Int)) = false := by rw [decide_eq_false_iff_not]; omega
              clear hacc hrow hx hsk hjx u1 u2 u3 u4
              generalize hs : S.getD k 0 = s at *
              have HSK := Lib.hid hs
              clear hs
              go_upto_region 26 with (fail)
              go_region
              go_wp2
              go_roundw
              case rel => exact ⟨j + 1, S.set k (s + am), by omega, by go_num, Lib.hid (upd_facts (d := am) hS.out (by omega) HSK.out (fun i => by rw [HA.out i]; split <;> omega) (by omega)), setCell_arr _ HR.out, by first | exact hb.drew.setCell (Nat.le_refl _) _ | exact (hb.setCell (Nat.le_refl _) _).drew⟩
              case measure => simp [intOf]; omega
            · obtain rfl : j = m3 := by omega
              have hS : Hid (S.length = 8 ∧ ∀ k, k < 8 → S.getD k 0 = accOf X k + accOf Z k) := Lib.hid ⟨hS.out.1, fun k hk => by rw [hS.out.2 k hk, List.take_of_length_le (by rw [M3.out]; omega)]⟩
              go_wp2
              go_loopw [182] (fun i wr => ∃ (j : Nat) (S : List Int), j ≤ m4 ∧ i = .int .i64 j ∧ Hid (S.length = 8 ∧ ∀ k, k < 8 → S.getD k 0 = accOf X k + accOf Z k - accOf (V.take j) k) ∧ wr.heap[w6.heap.size]? = some (.cells (arr S) 33 (0, 0)) ∧ Below w6.heap.size w6 wr) (fun i _ => m4 - (intOf i).toNat)
              case atStart => exact ⟨0, S, by omega, rfl, Lib.hid ⟨hS.out.1, fun k hk => by rw [hS.out.2 k hk]; simp [accOf_nil]⟩, hrow, hb⟩
              clear hrow hb hS
              case round =>
                obtain ⟨j, S, hj, rfl, hS, hrow, hb⟩ := hrel
                by_cases hlt : j < m4
                · have hjx : j < V.length := by rw [M4.out]; exact hlt
                  obtain ⟨k, am, hx, ⟨hk1, hk7⟩, ⟨a0, a1⟩, _, hacc⟩ := round_facts KV.out j hjx
                  obtain ⟨b1, o1, rfl⟩ := hq4.addr (by omega)
                  obtain ⟨x1, x2⟩ := (hq4.below hb).cells j hjx
                  rw [hx] at x1 x2
                  simp only at x1 x2
                  rw [← Nat.add_assoc] at x2
                  have sc : wr.cell? ⟨w6.heap.size, k, none⟩ = some (.int .i64 (S.getD k 0)) := (cell_of_row _ _ _ _ _ _ hrow).trans (arr_get S k (by rw [hS.out.1]; omega))
                  have sf : wr.frozen? ⟨w6.heap.size, k, none⟩ = false := by simp [World.frozen?, hrow]
                  have hsk := hS.out.2 k (by omega)
                  have u1 := fine_all KX.out N1.out k
                  have u2 := fine_acc KZ.out N3.out j k
                  have u3 := fine_all KZ.out N3.out k
                  have u4 := fine_acc KV.out N4.out j k
                  have hs0 : -900000000000000000 ≤ S.getD k 0 ∧ S.getD k 0 ≤ 900000000000000000 := by rw [hsk]; omega
                  obtain ⟨s0, s1⟩ := hs0
                  have HA := Lib.hid hacc
                  have HR := Lib.hid hrow
                  have hd1 : decide ((k : Int) < 1) = false := by rw [decide_eq_false_iff_not]; omega
                  have hd2 : decide (7 < (k : Int)) = false := by rw [decide_eq_false_iff_not]; omega
                  clear hacc hrow hx hsk hjx u1 u2 u3 u4
                  generalize hs : S.getD k 0 = s at *
                  have HSK := Lib.hid hs
                  clear hs
                  go_upto_region 33 with (fail)
                  go_region
                  go_wp2
                  go_roundw
                  case rel => exact ⟨j + 1, S.set k (s - am), by omega, by go_num, Lib.hid (upd_facts (d := -am) hS.out (by omega) HSK.out (fun i => by rw [HA.out i]; split <;> omega) (by omega)), setCell_arr _ HR.out, by first | exact hb.drew.setCell (Nat.le_refl _) _ | exact (hb.setCell (Nat.le_refl _) _).drew⟩
                  case measure => simp [intOf]; omega
                · obtain rfl : j = m4 := by omega
                  have hz : S = [0, 0, 0, 0, 0, 0, 0, 0] := all_zero S hS.out.1 fun k hk => by
                    rw [hS.out.2 k hk, List.take_of_length_le (by rw [M4.out]; omega)]
                    exact G2.out k
                  subst hz
                  have e := E12.out
                  subst e
                  have he8 := equal8
                  have hg8 := guard8
                  rw [zero8] at he8 hrow
                  have hbl := hb06.trans (hb.mono hb06.size)
                  have z0 : wr.cell? ⟨w6.heap.size, 0, none⟩ = some (.int .i64 0) := by rw [cell_of_row _ _ _ _ _ _ hrow]; rfl
                  have z1 : wr.cell? ⟨w6.heap.size, 1, none⟩ = some (.int .i64 0) := by rw [cell_of_row _ _ _ _ _ _ hrow]; rfl
                  have z2 : wr.cell? ⟨w6.heap.size, 2, none⟩ = some (.int .i64 0) := by rw [cell_of_row _ _ _ _ _ _ hrow]; rfl
                  have z3 : wr.cell? ⟨w6.heap.size, 3, none⟩ = some (.int .i64 0) := by rw [cell_of_row _ _ _ _ _ _ hrow]; rfl
                  have z4 : wr.cell? ⟨w6.heap.size, 4, none⟩ = some (.int .i64 0) := by rw [cell_of_row _ _ _ _ _ _ hrow]; rfl
                  have z5 : wr.cell? ⟨w6.heap.size, 5, none⟩ = some (.int .i64 0) := by rw [cell_of_row _ _ _ _ _ _ hrow]; rfl
                  have z6 : wr.cell? ⟨w6.heap.size, 6, none⟩ = some (.int .i64 0) := by rw [cell_of_row _ _ _ _ _ _ hrow]; rfl
                  have z7 : wr.cell? ⟨w6.heap.size, 7, none⟩ = some (.int .i64 0) := by rw [cell_of_row _ _ _ _ _ _ hrow]; rfl
                  clear hS hrow
                  go_wp2
                  go_ret
                  exact ⟨rfl, hbl⟩
    · rcases (show e3 = 2 ∨ e3 = 52 by omega) with rfl | rfl
      all_goals
        clear q1 q2 q3 q4 l1 l2 l3 l4
        go_wp2
        go_ret
        exact ⟨rfl, hb06⟩
  · have hX : X = [] := F2.out h0
    subst hX
    obtain rfl : m1 = 0 := M1.out.symm
    rcases (show e1 = 2 ∨ e1 = 52 by omega) with rfl | rfl <;> rcases (show e2 = 2 ∨ e2 = 52 by omega) with rfl | rfl
    all_goals
      clear q1 q2 q3 q4 l1 l2 l3 l4
      go_wp2
      go_ret
      exact ⟨rfl, hb06⟩
end Go.Proofs.Ytpmbbhefcejjlaa
