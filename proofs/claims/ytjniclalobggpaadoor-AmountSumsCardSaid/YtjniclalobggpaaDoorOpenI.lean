/-
  What an argument that came in gives the walk: slices of int64. No statement is proved here.
-/
import Derived.Test.YtjniclalobggpaaDoorSplV
import Derived.ProofKit
import Derived.OpenShut
import Derived.ShutString
import Derived.ChangeOld
import Derived.SizedLaws
import Derived.JoinedCond
import Derived.Deep.CondSized
namespace Go.Proofs.YtjniclalobggpaaDoor
open Go.ChangeShapes Go.WideShapes Go.ChangeAt Go.RowKit
set_option linter.unusedVariables false
section
variable {H : Type} {enc : TypeId × Value → H}
theorem open_i64s {W : World} {a : Option Addr} {len cap : Nat} {d : DataW H} {p : List MemPlace} (h0 : DataW.Trod enc Tryd.prog W 0 (fun _ => true) true 33 (.slice a len cap) d p) :
    ∃ xs, RdI W a len xs ∧ len ≤ cap ∧ cap ≤ maxLen ∧ ((d = .nil ∧ cap = 0) ∨ ∃ elems spare, d = .slice elems spare ∧ elems.length + spare.length = cap) := by
  obtain ⟨fuel, hf⟩ := h0
  rcases open_ints Tryd.underlying33 Tryd.underlying2 (by kernel_rfl) hf with ⟨hcs, hx⟩ | ⟨x, l, c, zs, hcs, _, hl, hm, hz, hd, hcell, hwz⟩
  · simp [Value.cells] at hcs
    obtain ⟨rfl, rfl, rfl⟩ := hcs
    exact ⟨[], RdI.nil _ _, Nat.le_refl _, by simp [maxLen], .inl ⟨by injection hx, rfl⟩⟩
  · simp [Value.cells] at hcs
    obtain ⟨rfl, rfl, rfl⟩ := hcs
    simp only [if_true] at hz
    refine ⟨zs.take len, ?_, hl, hm, .inr ⟨_, _, by injection hd, by simp [lits]; omega⟩⟩
    obtain ⟨b, off, spot⟩ := x
    rcases Nat.eq_zero_or_pos len with h0 | h0
    · subst h0; exact RdI.nil _ _
    · have hc0 := hcell 0 (by omega)
      have hspot : spot = none := by simpa [Addr.add] using World.cell?_spot hc0
      subst hspot
      refine RdI.mk (by simp; omega) fun j hj => ?_
      have hj' : j < len := by simp at hj; omega
      have hc := hcell j (by omega)
      rw [add_plain] at hc
      rw [hc, List.getElem_take]
      simp [List.getD, List.getElem?_eq_getElem (show j < zs.length by omega)]
end
end Go.Proofs.YtjniclalobggpaaDoor
