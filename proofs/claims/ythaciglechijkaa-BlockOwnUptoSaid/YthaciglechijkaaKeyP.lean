/-
  Plain laws on keys: what is next, what is less. No program in sight.
-/
import Derived.Test.YthaciglechijkaaLib
namespace Go.Proofs.Ythaciglechijkaa
open Go.RowKit
set_option linter.unusedVariables false

/-- Bytes in order: -1, 0, 1. -/
def lessL : List UInt8 → List UInt8 → Int
  | [], [] => 0
  | [], _ :: _ => -1
  | _ :: _, [] => 1
  | a :: x, b :: y => if a.toNat < b.toNat then -1 else if b.toNat < a.toNat then 1 else lessL x y
theorem lessL_cons (a : UInt8) (x y : List UInt8) : lessL (a :: x) (a :: y) = lessL x y := by
  rw [lessL, if_neg (Nat.lt_irrefl _), if_neg (Nat.lt_irrefl _)]
theorem lessL_nil (x : List UInt8) : 0 ≤ lessL x [] := by
  cases x <;> simp [lessL]
/-- What is above all that begin with b. -/
def nextL : List UInt8 → List UInt8
  | [] => []
  | c :: l => if nextL l ≠ [] then c :: nextL l else if c = 255 then [] else [c + 1]
theorem succ_nat (c : UInt8) (h : c ≠ 255) : (c + 1).toNat = c.toNat + 1 := by
  have h1 : c.toNat ≠ 255 := fun h2 => h (UInt8.toNat_inj.1 h2)
  have h2 : c.toNat < 256 := c.toNat_lt
  rw [UInt8.toNat_add]
  show (c.toNat + 1) % 256 = _
  omega
theorem next_above (b m : List UInt8) (h : nextL b ≠ []) : lessL (b ++ m) (nextL b) = -1 := by
  induction b with
  | nil => exact absurd rfl h
  | cons c l ih =>
    unfold nextL at h ⊢
    by_cases h1 : nextL l ≠ []
    · rw [if_pos h1, List.cons_append, lessL_cons]
      exact ih h1
    · rw [if_neg h1] at h ⊢
      by_cases h2 : c = 255
      · rw [if_pos h2] at h; exact absurd rfl h
      · rw [if_neg h2, List.cons_append, lessL, if_pos (by rw [succ_nat c h2]; omega)]
theorem next_none (l m : List UInt8) (h : nextL l = []) : l.isPrefixOf m = true ∨ lessL m l = -1 := by
  induction l generalizing m with
  | nil => exact .inl rfl
  | cons c l ih =>
    unfold nextL at h
    by_cases h1 : nextL l ≠ []
    · rw [if_pos h1] at h; cases h
    · rw [if_neg h1] at h
      by_cases h2 : c = 255
      · subst h2
        cases m with
        | nil => exact .inr rfl
        | cons d m =>
          by_cases h3 : d = 255
          · subst h3
            rcases ih m (by simpa using h1) with h4 | h4
            · left; simp [List.isPrefixOf, h4]
            · right; rw [lessL_cons]; exact h4
          · right
            have h5 : d.toNat ≠ 255 := fun h2 => h3 (UInt8.toNat_inj.1 h2)
            have h6 : d.toNat < 256 := d.toNat_lt
            have e : (255 : UInt8).toNat = 255 := rfl
            rw [lessL, if_pos (by omega)]
      · rw [if_neg h2] at h; cases h
theorem next_between (b m : List UInt8) (h : nextL b ≠ []) : b.isPrefixOf m = true ∨ lessL m b = -1 ∨ 0 ≤ lessL m (nextL b) := by
  induction b generalizing m with
  | nil => exact absurd rfl h
  | cons c l ih =>
    cases m with
    | nil => exact .inr (.inl rfl)
    | cons d m =>
      rcases Nat.lt_trichotomy d.toNat c.toNat with h1 | h1 | h1
      · right; left; rw [lessL, if_pos h1]
      · obtain rfl : d = c := UInt8.toNat_inj.1 h1
        unfold nextL at h ⊢
        by_cases h2 : nextL l ≠ []
        · rw [if_pos h2, lessL_cons, lessL_cons]
          rcases ih m h2 with h3 | h3 | h3
          · left; simp [List.isPrefixOf, h3]
          · exact .inr (.inl h3)
          · exact .inr (.inr h3)
        · rcases next_none l m (by simpa using h2) with h3 | h3
          · left; simp [List.isPrefixOf, h3]
          · right; left; rw [lessL_cons]; exact h3
      · right; right
        unfold nextL at h ⊢
        by_cases h2 : nextL l ≠ []
        · rw [if_pos h2, lessL, if_neg (by omega), if_pos h1]; decide
        · rw [if_neg h2] at h ⊢
          by_cases h3 : c = 255
          · rw [if_pos h3] at h; exact absurd rfl h
          · rw [if_neg h3]
            have h4 := succ_nat c h3
            rcases Nat.lt_or_ge (c + 1).toNat d.toNat with h5 | h5
            · rw [lessL, if_neg (by omega), if_pos h5]; decide
            · rw [lessL, if_neg (by omega), if_neg (by omega)]
              exact lessL_nil m
theorem nextL_full (l : List UInt8) : nextL l = [] ↔ ∀ c ∈ l, c = 255 := by
  induction l with
  | nil => simp [nextL]
  | cons c l ih =>
    unfold nextL
    by_cases h1 : nextL l ≠ []
    · rw [if_pos h1]
      constructor
      · intro h; cases h
      · intro h
        exact absurd (ih.2 fun d hd => h d (List.mem_cons_of_mem _ hd)) h1
    · rw [if_neg h1]
      have h2 := ih.1 (by simpa using h1)
      by_cases h3 : c = 255
      · rw [if_pos h3]
        simp [h3]
        exact h2
      · rw [if_neg h3]
        constructor
        · intro h; cases h
        · intro h; exact absurd (h c (by simp)) h3
/-- The last byte that is not 255 is made greater by one. -/
theorem nextL_at (p t : List UInt8) (c : UInt8) (hc : c ≠ 255) (ht : ∀ d ∈ t, d = 255) : nextL (p ++ c :: t) = p ++ [c + 1] := by
  induction p with
  | nil =>
    show nextL (c :: t) = [c + 1]
    unfold nextL
    rw [if_neg (by rw [(nextL_full t).2 ht]; simp), if_neg hc]
  | cons d p ih =>
    show nextL (d :: (p ++ c :: t)) = d :: (p ++ [c + 1])
    unfold nextL
    rw [ih, if_pos (by simp)]
end Go.Proofs.Ythaciglechijkaa
