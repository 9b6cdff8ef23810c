/-
  An event, numbers that come in. No statement is proved here.
-/
import Derived.Test.YtcbopgopegphlaaAcO
namespace Go.Proofs.Ytcbopgopegphlaa
open Go.RowKit Go.WideShapes Go.ChangeAt
set_option linter.unusedVariables false
section
variable {H : Type} {enc : TypeId × Value → H} {R : Nat}
set_option maxRecDepth 100000 in
theorem open_ev {W : World} {r : Reach} {b0 : Nat} {v : Value} {d : DataW H} {p : List MemPlace} (hv : Value.okWide Try.prog W r b0 38 v) (h : DataW.Trod enc Try.prog W 0 (fun _ => true) true 38 v d p) (hw : ∀ n ∈ d.weights Try.prog 38, n ≤ R) :
    ∃ e : Ev, v = e.val ∧ e.loan.size ≤ R := by
  obtain ⟨cs, rfl, _⟩ := okWide_struct Try.underlying38 hv
  obtain ⟨fuel, hf⟩ := h
  obtain ⟨e, hs, h2, _⟩ := cells_ev hf hw
  exact ⟨e, by simpa [Value.cells, Ev.val] using hs, h2⟩
set_option maxRecDepth 100000 in
theorem open_ints {W : World} {a : Option Addr} {len cap : Nat} {d : DataW H} {p : List MemPlace} (h0 : DataW.Trod enc Try.prog W 0 (fun _ => true) true 23 (.slice a len cap) d p) (hw : ∀ n ∈ d.weights Try.prog 23, n ≤ R) :
    ∃ zs : List Int, RdI W a len zs ∧ len ≤ cap ∧ cap * 8 ≤ R := by
  obtain ⟨fuel, hf⟩ := h0
  obtain ⟨A, l, c, zs, h1, h2, h3, h4⟩ := open_row hf hw
  simp [Value.cells] at h1
  obtain ⟨rfl, rfl, rfl⟩ := h1
  exact ⟨zs, h2, h3, h4⟩
end
end Go.Proofs.Ytcbopgopegphlaa
