/-
  What an engine is asked: calls of it, as they lie in memory. No statement is proved here.
-/
import Derived.Test.YtcbopgopegphlaaGreatEnW
namespace Go.Proofs.YtcbopgopegphlaaGreat
open Go.RowKit
set_option linter.unusedVariables false
structure ActV where
  kind : Int
  e : Ev
  day : Int
  seq : Int
def actCells (a : ActV) : Array Value := #[.int .i64 a.kind, .int .i64 a.e.seq, .string a.e.loan, .int .i64 a.e.day, .int .i64 a.e.kind, .int .i64 a.e.amount, .int .i64 a.e.ref, .int .i64 a.day, .int .i64 a.seq]
def RdA (w : World) (A : Option Addr) (n : Nat) (l : List ActV) : Prop :=
  l.length = n ∧ (0 < n → ∃ b off, A = some ⟨b, off, none⟩ ∧ ∀ j (h : j < l.length) k u, (actCells l[j])[k]? = some u → w.cell? ⟨b, off + j * 9 + k, none⟩ = some u)
theorem RdA.keep {w w' : World} {A : Option Addr} {n : Nat} {l : List ActV} (h : RdA w A n l) (hb : Below w.heap.size w w') : RdA w' A n l :=
  ⟨h.1, fun hn => by
    obtain ⟨b, off, e, hc⟩ := h.2 hn
    refine ⟨b, off, e, fun j hj k u hu => ?_⟩
    have h2 := hc j hj k u hu
    have hlt := World.block_lt_of_cell? w _ h2
    have := hb.block b hlt
    unfold World.cell? at *
    simpa [this] using h2⟩
theorem act_box {W : World} {g : Nat} {a : ActV} {t : TypeId} (h : W.heap[g]? = some (.cells (actCells a) t (0, 0))) :
    W.cell? ⟨g, 0, none⟩ = some (.int .i64 a.kind) ∧ (∀ j u, (evCells a.e).toList[j]? = some u → W.cell? ⟨g, 1 + j, none⟩ = some u) ∧ W.cell? ⟨g, 7, none⟩ = some (.int .i64 a.day) ∧ W.cell? ⟨g, 8, none⟩ = some (.int .i64 a.seq) := by
  refine ⟨by rw [cell_of_row _ _ _ _ _ _ h]; rfl, fun j u hu => ?_, by rw [cell_of_row _ _ _ _ _ _ h]; rfl, by rw [cell_of_row _ _ _ _ _ _ h]; rfl⟩
  rw [cell_of_row _ _ _ _ _ _ h]
  have hj : j < 6 := (List.getElem?_eq_some_iff.1 hu).1
  rcases (show j = 0 ∨ j = 1 ∨ j = 2 ∨ j = 3 ∨ j = 4 ∨ j = 5 by omega) with rfl | rfl | rfl | rfl | rfl | rfl <;> exact hu
end Go.Proofs.YtcbopgopegphlaaGreat
