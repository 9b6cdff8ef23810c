/-
  What an argument that came in gives the walk: slices of states. No statement is proved here.
-/
import Derived.Test.YtpmbbhefcejjlaaOpenB
import Derived.Test.YtpmbbhefcejjlaaLedgerSums
namespace Go.Proofs.Ytpmbbhefcejjlaa
open Go.ChangeShapes Go.WideShapes Go.ChangeAt Go.RowKit Go.Deep
set_option linter.unusedVariables false
section
variable {H : Type} {enc : TypeId × Value → H}
theorem open_states {W : World} {a : Option Addr} {len cap : Nat} {d : DataW H} {p : List MemPlace} (h0 : DataW.Trod enc Try.prog W 0 (fun _ => true) true 47 (.slice a len cap) d p) :
    ∃ ss, RdSt W a len ss ∧ len ≤ cap ∧ cap ≤ maxLen ∧ ((d = .nil ∧ cap = 0) ∨ ∃ elems spare, d = .slice elems spare ∧ elems.length + spare.length = cap) := by
  obtain ⟨fuel, hf⟩ := h0
  have hone : Try.prog.cellsOf 23 = 12 := by kernel_rfl
  rcases open_slice Try.underlying47 hf with ⟨hcs, hx⟩ | ⟨x, l, c, m, n, D, Pl, hcs, _, hl, hm, hmm, hd, hi⟩
  · simp [Value.cells] at hcs
    obtain ⟨rfl, rfl, rfl⟩ := hcs
    exact ⟨[], ⟨rfl, fun h => by omega⟩, Nat.le_refl _, by simp [maxLen], .inl ⟨by injection hx, rfl⟩⟩
  · simp [Value.cells] at hcs
    obtain ⟨rfl, rfl, rfl⟩ := hcs
    simp only [if_true] at hmm
    obtain ⟨b, off, spot⟩ := x
    have key : ∀ i, i < len → ∃ s : St, ∀ j u, (stCells s)[j]? = some u → W.cell? (((⟨b, off, spot⟩ : Addr).add (i * 12)).add j) = some u := fun i hil => by
      obtain ⟨cs', hc, ht⟩ := hi i (by omega)
      rw [hone] at hc
      obtain ⟨_, _, hat⟩ := World.cells?_some hc
      obtain ⟨s, hs⟩ := cells_state ht
      rw [show s.val = .agg (stCells s) from rfl] at hs
      injection hs with hs
      refine ⟨s, fun j u hu => ?_⟩
      rw [← hs] at hu
      have hu2 : cs'[j]? = some u := by simpa using hu
      have hj := (List.getElem?_eq_some_iff.1 hu2).1
      have h1 := hat j (by omega)
      rw [hu2] at h1
      exact h1
    have hspot : 0 < len → spot = none := fun h0 => by
      obtain ⟨s, hs⟩ := key 0 (by omega)
      have h1 := hs 0 _ (show (stCells s)[0]? = some (.int .i64 s.day) from rfl)
      simpa [Addr.add] using World.cell?_spot h1
    have hrow : ∀ i, i < len → ∃ s : St, spot = none ∧ ∀ j u, (stCells s)[j]? = some u → W.cell? ⟨b, off + i * 12 + j, none⟩ = some u := fun i hil => by
      obtain ⟨s, hs⟩ := key i hil
      obtain rfl := hspot (by omega)
      refine ⟨s, rfl, fun j u hu => ?_⟩
      have h1 := hs j u hu
      simp only [add_plain] at h1
      exact h1
    obtain ⟨ss, hpl, hps⟩ := exists_list len _ hrow
    refine ⟨ss, ⟨hpl, fun hn => ⟨b, off, ?_, fun j hj => (hps j hj).2⟩⟩, hl, hm, .inr ⟨_, _, by injection hd, by simp; omega⟩⟩
    rw [(hps 0 (by omega)).1]
end
end Go.Proofs.Ytpmbbhefcejjlaa
