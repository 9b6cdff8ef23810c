/-
  What an argument that came in gives the walk: slices of bytes. No statement is proved here.
-/
import Derived.Test.YthaciglechijkaaBytes
import Derived.ProofKit
import Derived.OpenShut
import Derived.ShutString
import Derived.ChangeOld
import Derived.SizedLaws
import Derived.JoinedCond
import Derived.Deep.CondSized
namespace Go.Proofs.Ythaciglechijkaa
open Go.ChangeShapes Go.WideShapes Go.ChangeAt Go.RowKit
set_option linter.unusedVariables false

theorem own : ownKnob Try.prog.godebug = none := by kernel_rfl
theorem laidOut : laidOutB Try.prog = true := by kernel_rfl

section
variable {H : Type} {enc : TypeId × Value → H}
/-- Integers that fit a byte, as bytes. -/
theorem bytes_of_ints (zs : List Int) (h : ∀ n ∈ zs, (Lit.int .u8 n).wf = true) (j : Nat) (hj : j < zs.length) : ((zs.map fun n => UInt8.ofNat n.toNat)[j]'(by simpa using hj)).toNat = (zs.getD j 0).toNat ∧ 0 ≤ zs.getD j 0 := by
  have hw := h zs[j] (List.getElem_mem hj)
  have hx : 0 ≤ zs[j] ∧ zs[j] ≤ 255 := by simpa [Lit.wf, IntKind.min, IntKind.max, IntKind.signed, IntKind.bits] using hw
  have e : zs.getD j 0 = zs[j] := by simp [List.getD, List.getElem?_eq_getElem hj]
  rw [e]
  refine ⟨?_, hx.1⟩
  rw [List.getElem_map]
  exact u8_ofNat _ (by omega)

theorem open_bytes {W : World} {a : Option Addr} {len cap : Nat} {d : DataW H} {p : List MemPlace} (h0 : DataW.Trod enc Try.prog W 0 (fun _ => true) true 24 (.slice a len cap) d p) :
    ∃ xs, RdB W a len xs ∧ len ≤ cap ∧ cap ≤ maxLen ∧ ((d = .nil ∧ cap = 0) ∨ ∃ elems spare, d = .slice elems spare ∧ elems.length + spare.length = cap) := by
  obtain ⟨fuel, hf⟩ := h0
  rcases open_ints Try.underlying24 Try.underlying5 (by kernel_rfl) hf with ⟨hcs, hx⟩ | ⟨x, l, c, zs, hcs, _, hl, hm, hz, hd, hcell, hwz⟩
  · simp [Value.cells] at hcs
    obtain ⟨rfl, rfl, rfl⟩ := hcs
    exact ⟨[], RdB.nil _ _, Nat.le_refl _, by simp [maxLen], .inl ⟨by injection hx, rfl⟩⟩
  · simp [Value.cells] at hcs
    obtain ⟨rfl, rfl, rfl⟩ := hcs
    simp only [if_true] at hz
    refine ⟨(zs.take len).map fun n => UInt8.ofNat n.toNat, ?_, hl, hm, .inr ⟨_, _, by injection hd, by simp [lits]; omega⟩⟩
    obtain ⟨b, off, spot⟩ := x
    rcases Nat.eq_zero_or_pos len with h0 | h0
    · subst h0; exact RdB.nil _ _
    · have hc0 := hcell 0 (by omega)
      have hspot : spot = none := by simpa [Addr.add] using World.cell?_spot hc0
      subst hspot
      refine RdB.mk (by simp; omega) fun j hj => ?_
      have hj' : j < len := by simp at hj; omega
      have hc := hcell j (by omega)
      rw [add_plain] at hc
      rw [hc]
      have hb := bytes_of_ints zs hwz j (by omega)
      have e : ((zs.take len).map fun n => UInt8.ofNat n.toNat)[j] = (zs.map fun n => UInt8.ofNat n.toNat)[j]'(by simp; omega) := by
        rw [List.getElem_map, List.getElem_map, List.getElem_take]
      rw [e, hb.1]
      congr 2
      omega
end
end Go.Proofs.Ythaciglechijkaa
