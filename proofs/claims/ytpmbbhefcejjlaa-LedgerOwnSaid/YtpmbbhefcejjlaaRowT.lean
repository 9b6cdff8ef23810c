/-
  Rows of cells that are written over; 'clear' on a row of many cells an element. No statement is proved here.
-/
import Derived.Test.YtpmbbhefcejjlaaRegX
import Derived.Deep.MidRow
namespace Go.Proofs.Ytpmbbhefcejjlaa
open Go.RowKit
set_option linter.unusedVariables false
theorem wp_at {P : Program} {c : Code} {Q : Exit → Act → World → Prop} {a : Act} {w : World} (R : World → Prop) (h : R w) (k : ∀ w', R w' → c.wp P Q a w') : c.wp P Q a w := k w h
theorem below_sets {B g : Nat} {a : World} : ∀ (vs : List Value) (o : Nat) {b : World}, B ≤ g → Below B a b → Below B a (b.setCells g o vs)
  | [], _, _, _, h => h
  | v :: vs, o, b, hg, h => below_sets vs (o + 1) hg (h.setCell (p := ⟨g, o, none⟩) hg v)
theorem heap_setCells_other {g : Nat} : ∀ (vs : List Value) (o : Nat) (w : World) {k : Nat}, k ≠ g → (w.setCells g o vs).heap[k]? = w.heap[k]?
  | [], _, _, _, _ => rfl
  | v :: vs, o, w, k, hk => (heap_setCells_other vs (o + 1) _ hk).trans (heap_setCell_other _ _ _ _ (by intro e; exact hk (by first | exact e | exact e.symm)))
theorem size_setCells {g : Nat} : ∀ (vs : List Value) (o : Nat) (w : World), (w.setCells g o vs).heap.size = w.heap.size
  | [], _, _ => rfl
  | v :: vs, o, w => (size_setCells vs (o + 1) _).trans (by simp [World.setCell])
/-- A row of cells stands there. -/
def RowT (W : World) (t : TypeId) (b k : Nat) : Prop := ∃ cur, W.heap[b]? = some (.cells cur t (0, 0)) ∧ k ≤ cur.size
theorem RowT.cell {W : World} {t : TypeId} {b k i : Nat} (h : RowT W t b k) (hi : i < k) : (∃ u, W.cell? ⟨b, i, none⟩ = some u) ∧ W.frozen? ⟨b, i, none⟩ = false := by
  obtain ⟨cur, h1, h2⟩ := h
  exact ⟨⟨_, by rw [cell_of_row _ _ _ _ _ _ h1]; exact Array.getElem?_eq_getElem (by omega)⟩, by simp [World.frozen?, h1]⟩
theorem RowT.set {W : World} {t : TypeId} {b k : Nat} (h : RowT W t b k) (i : Nat) (v : Value) : RowT (W.setCell ⟨b, i, none⟩ v) t b k := by
  obtain ⟨cur, h1, h2⟩ := h
  exact ⟨_, heap_setCell_same W b i _ _ v h1, by simpa using h2⟩
theorem RowT.sets {t : TypeId} {b k : Nat} : ∀ (vs : List Value) (o : Nat) {W : World}, RowT W t b k → RowT (W.setCells b o vs) t b k
  | [], _, _, h => h
  | v :: vs, o, W, h => RowT.sets vs (o + 1) (h.set o v)
theorem RowT.there {W : World} {t : TypeId} {b k o n : Nat} (h : RowT W t b k) (hn : o + n ≤ k) : W.there b o n := fun j hj => by
  obtain ⟨⟨u, h1⟩, h2⟩ := h.cell (i := o + j) (by omega)
  exact ⟨by rw [h1]; rfl, h2⟩
theorem RowT.same {W W' : World} {t : TypeId} {b k : Nat} (h : RowT W t b k) (hb : W'.heap[b]? = W.heap[b]?) : RowT W' t b k := by
  obtain ⟨cur, h1, h2⟩ := h
  exact ⟨cur, hb.trans h1, h2⟩
theorem RowT.lt {W : World} {t : TypeId} {b k : Nat} (h : RowT W t b k) : b < W.heap.size := by
  obtain ⟨cur, h1, h2⟩ := h
  exact (Array.getElem?_eq_some_iff.1 h1).1
theorem own_rowT {w : World} {base sz n c : Nat} {t : TypeId} {A : Option Addr} {xs : List Value} (h : w.ownsRow base t sz (.slice A n c) n xs) (hn : 0 < n) : ∃ g, A = some ⟨g, 0, none⟩ ∧ base ≤ g ∧ g < w.heap.size ∧ RowT w t g (n * sz) := by
  rcases h.2 with ⟨_, h0⟩ | ⟨g, cap, cur, e, h1, h2, h3, h4, h5, _⟩
  · omega
  · injection e with e1 e2 e3
    exact ⟨g, e1, h1, (Array.getElem?_eq_some_iff.1 h2).1, cur, h2, by rw [h5]; exact Nat.mul_le_mul_right _ h3⟩
section
variable {P : Program}
/-- 'clear(s)': cells are written, as many as s has. -/
theorem run_clear_rows (w : World) (t e ty : TypeId) (z : Value) (sz : Nat) (ht : P.underlying t = some (.slice e)) (hv : ∀ w, (zeroValue e).run P w = .ok z w) (hz : z.cells.size = sz) (h1 : ∀ v ∈ z.cells, v.oneCell' = true) (hsz : 0 < sz) (b o n c : Nat)
    (hc : w.there b o (n * sz)) :
    ∃ vs : List Value, vs.length = n * sz ∧ (Builtin.clear_ #[t] ty #[.slice (some ⟨b, o, none⟩) n c]).run P w = .ok (.tuple #[]) (w.setCells b o vs) := by
  rcases Nat.eq_zero_or_pos n with h0 | h0
  · subst h0
    exact ⟨[], by simp, by simp [Builtin.clear_, run_underlying ht]; rfl⟩
  · obtain ⟨m, rfl⟩ : ∃ m, n = m + 1 := ⟨n - 1, by omega⟩
    have hlen : (Builtin.zeroCells z.cells (m + 1)).toList.length = (m + 1) * sz := by simp [Builtin.zeroCells, hz]
    have hst := run_storeCells_cells (P := P) b o (Builtin.zeroCells z.cells (m + 1)).toList 0 w (fun j hj => by simpa using (hc j (by rw [← hlen]; exact hj)).1) (fun j hj => by simpa using (hc j (by rw [← hlen]; exact hj)).2) (fun v hv' => by
      have hv2 : v ∈ Builtin.zeroCells z.cells (m + 1) := by simpa using hv'
      unfold Builtin.zeroCells at hv2
      obtain ⟨i, hi, rfl⟩ := Array.mem_map.1 hv2
      have hlt : i % z.cells.size < z.cells.size := Nat.mod_lt _ (by omega)
      rw [getElem!_pos z.cells _ hlt]
      exact h1 _ (Array.getElem_mem hlt))
    simp only [Nat.add_zero] at hst
    exact ⟨_, hlen, by simp [Builtin.clear_, run_underlying ht, hv, hst]⟩
end
end Go.Proofs.Ytpmbbhefcejjlaa
