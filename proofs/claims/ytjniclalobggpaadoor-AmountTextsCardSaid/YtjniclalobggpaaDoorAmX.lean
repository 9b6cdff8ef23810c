/-
  Plain laws on texts: what a predicate of bytes says of the runes. No program in sight.
-/
import Derived.Shelf.GgClosure.StringsIndexFunc
import Derived.Laws.RangeString
import Derived.Laws.RangeAny
import Derived.Lib.ItoaNum
import Derived.Lib.ParseIntB
import Derived.Lib.ParseIntBCases
namespace Go.Proofs.YtjniclalobggpaaDoor
open Go.RowKit
set_option linter.unusedVariables false

theorem idx_from (p : Nat → Bool) (hp : ∀ r, 128 ≤ r → p r = true) (s : ByteArray) : ∀ (f pos : Nat), s.size ≤ f + pos →
    (Lib.idxFuncFrom p true s f pos = -1 ↔ ∀ (i : Nat) (h : i < s.size), pos ≤ i → p (s[i]'h).toNat = false) ∧ (Lib.idxFuncFrom p true s f pos = -1 ∨ 0 ≤ Lib.idxFuncFrom p true s f pos)
  | 0, pos, hf => by
    unfold Lib.idxFuncFrom
    exact ⟨⟨fun _ i h h2 => by omega, fun _ => rfl⟩, .inl rfl⟩
  | f + 1, pos, hf => by
    unfold Lib.idxFuncFrom
    by_cases hlt : pos < s.size
    · rw [if_pos hlt]
      by_cases ha : (s[pos]'hlt).toNat < 128
      · rw [decode_ascii s pos hlt ha]
        obtain ⟨i1, i2⟩ := idx_from p hp s f (pos + 1) (by omega)
        by_cases hq : p (s[pos]'hlt).toNat = true
        · rw [if_pos hq]
          refine ⟨⟨fun h => by omega, fun h => ?_⟩, .inr (by omega)⟩
          have := h pos hlt (Nat.le_refl _)
          rw [hq] at this
          cases this
        · rw [if_neg hq]
          refine ⟨⟨fun h i hi hle => ?_, fun h => i1.2 fun i hi hle => h i hi (by omega)⟩, i2⟩
          rcases Nat.eq_or_lt_of_le hle with e | e
          · subst e; simpa using hq
          · exact i1.1 h i hi e
      · have hh := decode_high s pos hlt (by omega)
        rw [if_pos (hp _ hh.1)]
        refine ⟨⟨fun h => by omega, fun h => ?_⟩, .inr (by omega)⟩
        have := h pos hlt (Nat.le_refl _)
        rw [hp _ (by omega)] at this
        cases this
    · rw [if_neg hlt]
      exact ⟨⟨fun _ i h h2 => by omega, fun _ => rfl⟩, .inl rfl⟩
theorem idx_all (p : Nat → Bool) (hp : ∀ r, 128 ≤ r → p r = true) (s : ByteArray) : (!decide (0 ≤ Lib.idxFunc p true s)) = s.data.toList.all fun c => !p c.toNat := by
  obtain ⟨h1, h2⟩ := idx_from p hp s s.size 0 (by omega)
  have e : Lib.idxFunc p true s = Lib.idxFuncFrom p true s s.size 0 := rfl
  rw [e]
  rw [Bool.eq_iff_iff]
  simp only [Bool.not_eq_true', decide_eq_false_iff_not, List.all_eq_true]
  constructor
  · intro h c hc
    have h3 := h1.1 (by omega)
    obtain ⟨i, hi, rfl⟩ := List.getElem_of_mem hc
    exact h3 i (by simpa using hi) (by omega)
  · intro h
    rw [h1.2 fun i hi _ => by
      have := h (s.data.toList[i]'(by simpa using hi)) (List.getElem_mem _)
      exact this]
    omega
end Go.Proofs.YtjniclalobggpaaDoor
