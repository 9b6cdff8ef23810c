/-
  What an argument that came in gives the walk: slices of calls of a journal. No statement is proved here.
-/
import Derived.Test.YtpmbbhefcejjlaaOpenA
import Derived.Test.YtpmbbhefcejjlaaLedS
namespace Go.Proofs.Ytpmbbhefcejjlaa
open Go.ChangeShapes Go.WideShapes Go.ChangeAt Go.RowKit Go.Deep
set_option linter.unusedVariables false

theorem exists_list {α : Type} (n : Nat) (Q : Nat → α → Prop) (h : ∀ i, i < n → ∃ p, Q i p) : ∃ ps : List α, ps.length = n ∧ ∀ (i : Nat) (hi : i < ps.length), Q i ps[i] := by
  induction n with
  | zero => exact ⟨[], rfl, fun i hi => by simp at hi⟩
  | succ n ih =>
    obtain ⟨ps, hl, hp⟩ := ih fun i hi => h i (by omega)
    obtain ⟨p, hq⟩ := h n (by omega)
    refine ⟨ps ++ [p], by simp [hl], fun i hi => ?_⟩
    by_cases hlt : i < ps.length
    · rw [List.getElem_append_left hlt]; exact hp i hlt
    · have e : i = ps.length := by simp at hi; omega
      subst e
      rw [List.getElem_append_right (by omega)]
      simpa [hl] using hq
section
variable {H : Type} {enc : TypeId × Value → H}
theorem open_acts {W : World} {a : Option Addr} {len cap : Nat} {d : DataW H} {p : List MemPlace} (h0 : DataW.Trod enc Try.prog W 0 (fun _ => true) true 37 (.slice a len cap) d p) :
    ∃ acs, RdAc W a len acs ∧ len ≤ cap ∧ cap ≤ maxLen ∧ ((d = .nil ∧ cap = 0) ∨ ∃ elems spare, d = .slice elems spare ∧ elems.length + spare.length = cap) := by
  obtain ⟨fuel, hf⟩ := h0
  have hone : Try.prog.cellsOf 55 = 28 := by kernel_rfl
  rcases open_slice Try.underlying37 hf with ⟨hcs, hx⟩ | ⟨x, l, c, m, n, D, Pl, hcs, _, hl, hm, hmm, hd, hi⟩
  · simp [Value.cells] at hcs
    obtain ⟨rfl, rfl, rfl⟩ := hcs
    exact ⟨[], ⟨rfl, fun h => by omega⟩, Nat.le_refl _, by simp [maxLen], .inl ⟨by injection hx, rfl⟩⟩
  · simp [Value.cells] at hcs
    obtain ⟨rfl, rfl, rfl⟩ := hcs
    simp only [if_true] at hmm
    obtain ⟨b, off, spot⟩ := x
    have key : ∀ i, i < len → ∃ ac : Ac, ∀ j u, (acCells ac)[j]? = some u → W.cell? (((⟨b, off, spot⟩ : Addr).add (i * 28)).add j) = some u := fun i hil => by
      obtain ⟨cs', hc, ht⟩ := hi i (by omega)
      rw [hone] at hc
      obtain ⟨_, _, hat⟩ := World.cells?_some hc
      obtain ⟨ac, hac⟩ := cells_act ht
      unfold Ac.val at hac
      injection hac with hac
      refine ⟨ac, fun j u hu => ?_⟩
      rw [← hac] at hu
      have hu2 : cs'[j]? = some u := by simpa using hu
      have hj := (List.getElem?_eq_some_iff.1 hu2).1
      have h1 := hat j (by omega)
      rw [hu2] at h1
      exact h1
    have hspot : 0 < len → spot = none := fun h0 => by
      obtain ⟨ac, hac⟩ := key 0 (by omega)
      have h1 := hac 0 _ (show (acCells ac)[0]? = some (.int .i64 ac.kind) by unfold acCells; rw [Array.append_assoc, Array.getElem?_append_left (by simp)]; rfl)
      simpa [Addr.add] using World.cell?_spot h1
    have hrow : ∀ i, i < len → ∃ ac : Ac, spot = none ∧ ∀ j u, (acCells ac)[j]? = some u → W.cell? ⟨b, off + i * 28 + j, none⟩ = some u := fun i hil => by
      obtain ⟨ac, hac⟩ := key i hil
      obtain rfl := hspot (by omega)
      refine ⟨ac, rfl, fun j u hu => ?_⟩
      have h1 := hac j u hu
      simp only [add_plain] at h1
      exact h1
    obtain ⟨acs, hpl, hps⟩ := exists_list len _ hrow
    refine ⟨acs, ⟨hpl, fun hn => ⟨b, off, ?_, fun j hj => (hps j hj).2⟩⟩, hl, hm, .inr ⟨_, _, by injection hd, by simp; omega⟩⟩
    rw [(hps 0 (by omega)).1]
end
end Go.Proofs.Ytpmbbhefcejjlaa
