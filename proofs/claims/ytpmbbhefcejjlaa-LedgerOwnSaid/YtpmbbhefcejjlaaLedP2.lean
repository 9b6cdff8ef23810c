/-
  Plain laws of amounts: their sums, their differences.
-/
import Derived.Test.YtpmbbhefcejjlaaLedW2
namespace Go.Proofs.Ytpmbbhefcejjlaa
set_option linter.unusedVariables false

def psum (x : St) (j : Nat) : Int := ((amts x).take j).sum
def amtCells (x : St) : Array Value := ((amts x).map fun x => Value.int .i64 x).toArray
theorem amt_len (x : St) : (amts x).length = 7 := rfl
theorem amt_cell (x : St) (j : Nat) (h : j < 7) : (amtCells x)[j]? = some (.int .i64 ((amts x).getD j 0)) := by
  have hl : j < (amts x).length := h
  simp [amtCells, List.getD, List.getElem?_eq_getElem hl]
theorem amt_one (x : St) : (amtCells x).all (·.oneCell') = true := by simp [amtCells, amts, Value.oneCell']
theorem psum_step (x : St) (j : Nat) (h : j < 7) : psum x (j + 1) = psum x j + (amts x).getD j 0 := by
  rcases (show j = 0 ∨ j = 1 ∨ j = 2 ∨ j = 3 ∨ j = 4 ∨ j = 5 ∨ j = 6 by omega) with rfl | rfl | rfl | rfl | rfl | rfl | rfl <;> simp [psum, amts] <;> omega
theorem amt_fits {x : St} (h : Within x) (j : Nat) (hj : j < 7) : -8000000000000000 ≤ (amts x).getD j 0 ∧ (amts x).getD j 0 ≤ 8000000000000000 := by
  obtain ⟨⟨p0, p1⟩, ⟨i0, i1⟩, ⟨f0, f1⟩, ⟨c0, c1⟩, ⟨o0, o1⟩, ⟨n0, n1⟩, ⟨a0, a1⟩, ⟨h0, h1⟩⟩ := h.all
  rcases (show j = 0 ∨ j = 1 ∨ j = 2 ∨ j = 3 ∨ j = 4 ∨ j = 5 ∨ j = 6 by omega) with rfl | rfl | rfl | rfl | rfl | rfl | rfl <;> simp [amts] <;> omega
theorem psum_fits {x : St} (h : Within x) (j : Nat) (hj : j ≤ 7) : -56000000000000000 ≤ psum x j ∧ psum x j ≤ 56000000000000000 := by
  obtain ⟨⟨p0, p1⟩, ⟨i0, i1⟩, ⟨f0, f1⟩, ⟨c0, c1⟩, ⟨o0, o1⟩, ⟨n0, n1⟩, ⟨a0, a1⟩, ⟨h0, h1⟩⟩ := h.all
  rcases (show j = 0 ∨ j = 1 ∨ j = 2 ∨ j = 3 ∨ j = 4 ∨ j = 5 ∨ j = 6 ∨ j = 7 by omega) with rfl | rfl | rfl | rfl | rfl | rfl | rfl | rfl <;> simp [psum, amts] <;> omega
theorem psum_even (x : St) : psum x 7 = 0 ↔ Even x := by
  simp [psum, amts, Even]; omega
theorem all7_len (s t : St) : (all7 s t).length = 7 := rfl
theorem all7_get (s t : St) (j : Nat) (h : j < 7) (h' : j < (all7 s t).length) : (all7 s t)[j] = ((j : Int) + 1, (amts t).getD j 0 - (amts s).getD j 0) := by
  rcases (show j = 0 ∨ j = 1 ∨ j = 2 ∨ j = 3 ∨ j = 4 ∨ j = 5 ∨ j = 6 by omega) with rfl | rfl | rfl | rfl | rfl | rfl | rfl <;> simp [amts, all7] <;> omega
/-- The lines up to an index. -/
def upTo (s t : St) (j : Nat) : List (Int × Int) := ((all7 s t).take j).filter fun l => l.2 != 0
theorem upTo_skip (s t : St) (j : Nat) (h : j < 7) (he : (amts t).getD j 0 = (amts s).getD j 0) : upTo s t (j + 1) = upTo s t j := by
  unfold upTo
  have hl : j < (all7 s t).length := by rw [all7_len]; exact h
  rw [filter_snoc (all7 s t) j hl, all7_get s t j h hl, he]
  simp
theorem upTo_add (s t : St) (j : Nat) (h : j < 7) (he : (amts t).getD j 0 ≠ (amts s).getD j 0) : upTo s t (j + 1) = upTo s t j ++ [((j : Int) + 1, (amts t).getD j 0 - (amts s).getD j 0)] := by
  unfold upTo
  have hl : j < (all7 s t).length := by rw [all7_len]; exact h
  rw [filter_snoc (all7 s t) j hl, all7_get s t j h hl, if_pos (by rw [bne_iff_ne]; simp only; omega)]
theorem upTo_len (s t : St) (j : Nat) : (upTo s t j).length ≤ 7 := Nat.le_trans (List.length_filter_le _ _) (by rw [List.length_take, all7_len]; omega)
theorem upTo_all (s t : St) : upTo s t 7 = linesOf s t := rfl
end Go.Proofs.Ytpmbbhefcejjlaa
