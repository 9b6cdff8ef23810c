/-
  Copies of a product whose bounds are the copy's own; rows that are written over. No statement is proved here.
-/
import Derived.Test.YtcbopgopegphlaaGreatEnX
import Derived.Deep.MidRow
namespace Go.Proofs.YtcbopgopegphlaaGreat
open Go.RowKit
set_option linter.unusedVariables false
theorem app_int2 {ops : Array Oper} {rest : List Oper} {o : Oper} {a : Act} {Q : Exit → Act → World → Prop} {w : World} (hgd : o.guard = none) (s x : Operand)
    (ho : o.op = .call { callee := .builtin .append, args := #[s, x], argTypes := #[23, 23] })
    (base : Nat) (v : Value) (xs : List Int) (hs : a.eval s = v) (hown : w.ownsRow base 3 1 v xs.length (xs.map (Value.int .i64)))
    (A : Option Addr) (m c : Nat) (ys : List Int) (hx : a.eval x = .slice A m c) (hr : RdI w A m ys)
    (hlen : (xs.length + m) * 8 ≤ 140737488355328) (hbase : base ≤ w.heap.size)
    (h : ∀ A' c' w', w'.ownsRow base 3 1 (.slice A' (xs.length + m) c') (xs.length + m) ((xs ++ ys).map (Value.int .i64)) → Below base w w' → wpList Tryz.prog ops Q rest (a.put o.dst (.slice A' (xs.length + m) c')) w') : wpList Tryz.prog ops Q (o :: rest) a w := by
  obtain ⟨i0, hi, hz0, hz1, hz2⟩ := info_parts infoInt
  refine wpList_append_rd w hgd s x 23 ho base 3 i0 (.int .i64 0) 1 8 Tryz.underlying23 hi hz0 hz1 hz2 rfl (by decide) v xs.length _ hs hown A m c (ys.map (Value.int .i64)) hx hr (ints_one ys) (by unfold maxLen; omega) (by omega) hbase fun v' w' hown' hg _ => ?_
  have hb := (Below.refl base w).grown hg hbase fun k hk => (hown.lt k hk).1
  rw [← List.map_append] at hown'
  obtain ⟨A', c', rfl⟩ := own_slice hown'
  exact h A' c' w' hown' hb
set_option maxRecDepth 100000 in
set_option maxHeartbeats 2000000 in
theorem Copy_own (p : Prod) (A : Option Addr) (n c : Nat) (w : World) (hA : RdI w A n p.bounds) (hn : n * 8 ≤ 140737488355328) :
    Calls Tryz.prog 7 #[p.val (.slice A n c)] w fun e w' => (∃ A' c', e = .returned (p.val (.slice A' n c')) ∧ w'.ownsRow w.heap.size 3 1 (.slice A' n c') n (p.bounds.map (Value.int .i64))) ∧ Below w.heap.size w w' := by
  obtain ⟨S, hS⟩ : ∃ S, S = pCells p (.slice A n c) := ⟨_, rfl⟩
  have hval : p.val (.slice A n c) = .agg S := by rw [hS]; rfl
  have hi : (Tryz.prog.info? 25).map (·.size) = some S.size := by rw [hS]; exact info_prod _ _
  rw [hval]
  have HSS := Lib.hid hS
  clear hS hval
  obtain ⟨w1, hw1⟩ : ∃ w1, w1 = (w.alloc (.cells S 25)).alloc (.cells zProd 25) := ⟨_, rfl⟩
  have hz1 : w1.heap.size = w.heap.size + 2 := by rw [hw1]; simp
  have hb1 : Below w.heap.size w w1 := by rw [hw1]; exact ((Below.refl _ _).alloc (Nat.le_refl _) _).alloc (by simp) _
  have hS1 : w1.heap[w.heap.size]? = some (.cells S 25 (0, 0)) := by rw [hw1]; exact heap_old (heap_alloc_new _ _)
  have hT1 : w1.heap[w.heap.size + 1]? = some (.cells zProd 25 (0, 0)) := by rw [hw1, ← World.size_alloc w]; exact heap_alloc_new _ _
  unfold zProd at hw1
  go_enter Tryz.func7, Tryz.ntmps7
  go_upto_region 1 with (fail)
  rw [← hw1]
  clear hw1
  obtain ⟨w2, hw2⟩ : ∃ w2, w2 = w1.alloc (.cells #[] 3) := ⟨_, rfl⟩
  have hb2 : Below w1.heap.size w1 w2 := by rw [hw2]; exact (Below.refl _ _).alloc (Nat.le_refl _) _
  have hown2 : w2.ownsRow w1.heap.size 3 1 (.slice (some ⟨w.heap.size + 2, 0, none⟩) 0 0) 0 [] := by rw [hw2, ← hz1]; exact World.ownsRow_lit w1 #[] 0 (Nat.le_refl _) (by simp [maxLen]) rfl
  have hA2 := hA.below (hb1.trans (hb2.mono hb1.size))
  have c8 : w1.cell? ⟨w.heap.size, 8, none⟩ = some (.slice A n c) := by rw [cell_of_row _ _ _ _ _ _ hS1, HSS.out]; rfl
  have hz2 := hb2.size
  go_wp2_with (first
    | (rw [← hw2]; clear hw2; refine app_int2 rfl _ _ rfl w1.heap.size _ [] rfl hown2 A n c p.bounds rfl hA2 (by simpa using hn) hz2 ?_))
  intro A' c' w3 hA3 hb3
  have hA3 : w3.ownsRow w1.heap.size 3 1 (.slice A' n c') n (p.bounds.map (Value.int .i64)) := by rw [hz1]; simpa using hA3
  have hbk3 : ∀ g, (Value.slice A' n c').ownBlock = some g → w1.heap.size ≤ g := fun g hg => (hA3.lt g hg).1
  have hb03 := hb1.trans ((hb2.trans ((by rw [hz1]; exact hb3 : Below w1.heap.size w2 w3))).mono hb1.size)
  have hz3 := hb03.size
  have hS3 := (hb3.block w.heap.size (by omega)).trans ((hb2.block w.heap.size (by omega)).trans hS1)
  have hT3 := (hb3.block (w.heap.size + 1) (by omega)).trans ((hb2.block (w.heap.size + 1) (by omega)).trans hT1)
  obtain ⟨hS4, hk4⟩ := row_set (i := 8) (.slice A' n c') hS3
  have hA4 := ownE_keep hA3 fun g hg => hk4.block g (ownE_block hA3 hg).1 (by have := hbk3 g hg; omega)
  have hT4 := (hk4.block (w.heap.size + 1) (Array.getElem?_eq_some_iff.1 hT3).1 (by omega)).trans hT3
  have f8 : w3.frozen? ⟨w.heap.size, 8, none⟩ = false := by simp [World.frozen?, hS3]
  have d8 : w3.cell? ⟨w.heap.size, 8, none⟩ = some (.slice A n c) := by rw [cell_of_row _ _ _ _ _ _ hS3, HSS.out]; rfl
  have hb4 := hb03.trans (hk4.below (Nat.le_refl _) hz3)
  have HS' : Hid (S.setIfInBounds 8 (.slice A' n c') = pCells p (.slice A' n c')) := Lib.hid (by rw [HSS.out]; rfl)
  have hi4 : (Tryz.prog.info? 25).map (·.size) = some (S.setIfInBounds 8 (.slice A' n c')).size := by rw [HS'.out]; exact info_prod _ _
  have hsz4 : zProd.size = (S.setIfInBounds 8 (.slice A' n c')).size := by rw [HS'.out]; rfl
  have hone4 : (S.setIfInBounds 8 (.slice A' n c')).all (·.oneCell') = true := by rw [HS'.out]; simp [pCells, Value.oneCell']
  obtain ⟨w4, hw4⟩ : ∃ w4, w4 = w3.setCell ⟨w.heap.size, 8, none⟩ (.slice A' n c') := ⟨_, rfl⟩
  rw [← hw4] at hS4 hk4 hA4 hT4 hb4
  generalize S.setIfInBounds 8 (.slice A' n c') = S' at *
  clear hS3 hT3 hS1 hT1 hA hA2 hown2 hA3
  go_wp2_with (first
    | (rw [← hw4]; clear hw4; refine wpList_load_row rfl 25 _ rfl _ rfl _ _ _ _ hS4 Tryz.underlying25 rfl hi4 ?_)
    | (refine wpList_store_rowTo rfl 25 _ _ rfl rfl _ _ rfl rfl _ _ hT4 hi4 (by first | exact hsz4 | exact hsz4.symm) hone4 ?_))
  have hT5 := setRow_heap _ _ _ S' _ _ hT4
  refine bodyPost_ret (results_cell_row (fn := Tryz.f7) rfl _ _ (w.heap.size + 1) 25 S' (0, 0) _ rfl hT5 Tryz.underlying25 rfl hi4) rfl ⟨⟨A', c', by rw [HS'.out]; rfl, ?_⟩, below_row hb4 (by omega) _⟩
  have h6 := ownE_keep hA4 (w' := w4.setRow (w.heap.size + 1) S') fun g hg => setRow_other _ _ _ _ (by have := hbk3 g hg; omega)
  refine ⟨h6.1, ?_⟩
  rcases h6.2 with h | ⟨g, cap, cur, hv, h1, h2⟩
  · exact .inl h
  · exact .inr ⟨g, cap, cur, hv, by omega, h2⟩
/-- All outside a window is as it was. -/
structure OutW (lo hi : Nat) (a b : World) : Prop where
  os : b.os = a.os
  tape : b.tape = a.tape
  output : b.output = a.output
  size : a.heap.size ≤ b.heap.size
  block : ∀ k, k < a.heap.size → (k < lo ∨ hi ≤ k) → b.heap[k]? = a.heap[k]?
theorem OutW.refl (lo hi : Nat) (a : World) : OutW lo hi a a := ⟨rfl, rfl, rfl, Nat.le_refl _, fun _ _ _ => rfl⟩
theorem OutW.set {lo hi g i : Nat} {a b : World} (h : OutW lo hi a b) (h1 : lo ≤ g) (h2 : g < hi) (v : Value) : OutW lo hi a (b.setCell ⟨g, i, none⟩ v) :=
  ⟨h.os, h.tape, h.output, by simpa [World.setCell] using h.size, fun k k1 k2 => (heap_setCell_other _ _ _ _ (by intro e; have e2 : k = g := (by first | exact e | exact e.symm); omega)).trans (h.block k k1 k2)⟩
theorem EnB.window {w w' : World} {base top ge lo hi : Nat} {p : Prod} {l : List Ev} (h : EnB w base top ge p l) (hw : OutW lo hi w w') (hb : hi ≤ base) : EnB w' base top ge p l := by
  obtain ⟨gm, A, n, c, v, M, h1, h2, h3, h4, h5, h6, h7⟩ := h.ex
  refine ⟨h.evs, gm, A, n, c, v, M, h1.on fun k hk => hw.block k (h1.lt hk) (.inr ?_), h2, h3, h4, h5, h6, h7⟩
  rcases hk with rfl | rfl | hk | ⟨hn, ad, e, rfl⟩
  · omega
  · omega
  · have := h6 k hk; omega
  · have := (h7 hn ad e).1; omega
/-- A row of cells stands there. -/
def RowT (W : World) (t : TypeId) (b k : Nat) : Prop := ∃ cur, W.heap[b]? = some (.cells cur t (0, 0)) ∧ k ≤ cur.size
theorem RowT.cell {W : World} {t : TypeId} {b k i : Nat} (h : RowT W t b k) (hi : i < k) : (∃ u, W.cell? ⟨b, i, none⟩ = some u) ∧ W.frozen? ⟨b, i, none⟩ = false := by
  obtain ⟨cur, h1, h2⟩ := h
  exact ⟨⟨_, by rw [cell_of_row _ _ _ _ _ _ h1]; exact Array.getElem?_eq_getElem (by omega)⟩, by simp [World.frozen?, h1]⟩
theorem RowT.set {W : World} {t : TypeId} {b k : Nat} (h : RowT W t b k) (i : Nat) (v : Value) : RowT (W.setCell ⟨b, i, none⟩ v) t b k := by
  obtain ⟨cur, h1, h2⟩ := h
  exact ⟨_, heap_setCell_same W b i _ _ v h1, by simpa using h2⟩
theorem RowT.sets {t : TypeId} {b k : Nat} : ∀ (vs : List Value) (o : Nat) {W : World}, RowT W t b k → RowT (W.setCells b o vs) t b k
  | [], _, _, h => h
  | v :: vs, o, W, h => RowT.sets vs (o + 1) (h.set o v)
theorem RowT.there {W : World} {t : TypeId} {b k o n : Nat} (h : RowT W t b k) (hn : o + n ≤ k) : W.there b o n := fun j hj => by
  obtain ⟨⟨u, h1⟩, h2⟩ := h.cell (i := o + j) (by omega)
  exact ⟨by rw [h1]; rfl, h2⟩
theorem own_rowT {w : World} {base sz n c : Nat} {t : TypeId} {A : Option Addr} {xs : List Value} (h : w.ownsRow base t sz (.slice A n c) n xs) (hn : 0 < n) : ∃ g, A = some ⟨g, 0, none⟩ ∧ base ≤ g ∧ g < w.heap.size ∧ RowT w t g (n * sz) := by
  rcases h.2 with ⟨_, h0⟩ | ⟨g, cap, cur, e, h1, h2, h3, h4, h5, _⟩
  · omega
  · injection e with e1 e2 e3
    exact ⟨g, e1, h1, (Array.getElem?_eq_some_iff.1 h2).1, cur, h2, by rw [h5]; exact Nat.mul_le_mul_right _ h3⟩
theorem KeptBut.sets {b : Nat} {a : World} : ∀ (vs : List Value) (o : Nat) {W : World}, KeptBut b a W → KeptBut b a (W.setCells b o vs)
  | [], _, _, h => h
  | v :: vs, o, W, h => KeptBut.sets vs (o + 1) ⟨h.os, h.tape, h.output, by simpa [World.setCell] using h.size, fun k k1 k2 => (heap_setCell_other _ _ _ _ (by intro e; exact k2 (by first | exact e | exact e.symm))).trans (h.block k k1 k2)⟩
end Go.Proofs.YtcbopgopegphlaaGreat
