/-
  Plain laws on texts of numbers. No program in sight.
-/
import Derived.Test.YtjniclalobggpaaDoorAmX
namespace Go.Proofs.YtjniclalobggpaaDoor
open Go.RowKit
set_option linter.unusedVariables false

def digitB (c : UInt8) : Bool := decide (48 ≤ c.toNat) && decide (c.toNat ≤ 57)
def numFrom (n : Nat) (l : List UInt8) : Nat := l.foldl (fun n c => n * 10 + (c.toNat - 48)) n
def numOf (l : List UInt8) : Nat := numFrom 0 l
theorem numFrom_append (n : Nat) (l m : List UInt8) : numFrom n (l ++ m) = numFrom (numFrom n l) m := by unfold numFrom; rw [List.foldl_append]
theorem numOf_snoc (l : List UInt8) (c : UInt8) : numOf (l ++ [c]) = numOf l * 10 + (c.toNat - 48) := by unfold numOf; rw [numFrom_append]; rfl
theorem numFrom_lt (l : List UInt8) : ∀ n, l.all digitB = true → numFrom n l < (n + 1) * 10 ^ l.length := by
  induction l with
  | nil => intro n _; simp [numFrom]
  | cons c l ih =>
    intro n h
    simp only [List.all_cons, Bool.and_eq_true] at h
    have h2 := ih (n * 10 + (c.toNat - 48)) h.2
    have hc : c.toNat ≤ 57 := by have := h.1; simp [digitB] at this; omega
    refine Nat.lt_of_lt_of_le h2 ?_
    rw [List.length_cons, Nat.pow_succ, Nat.mul_comm (10 ^ l.length) 10, ← Nat.mul_assoc]
    exact Nat.mul_le_mul_right _ (by omega)
theorem numOf_lt (l : List UInt8) (h : l.all digitB = true) : numOf l < 10 ^ l.length := by
  have := numFrom_lt l 0 h
  simpa [numOf] using this
theorem parse_ok (l : List UInt8) : ∀ n, l.all digitB = true → (n + 1) * 10 ^ l.length ≤ 10 ^ 19 → Lib.parseUintM (2 ^ 64 - 1) n l = .ok (numFrom n l) := by
  induction l with
  | nil => intro n _ _; rfl
  | cons c l ih =>
    intro n h hb
    simp only [List.all_cons, Bool.and_eq_true] at h
    have h1 := h.1
    simp [digitB] at h1
    have hp : 1 ≤ 10 ^ l.length := Nat.one_le_pow _ _ (by decide)
    rw [List.length_cons, Nat.pow_succ, Nat.mul_comm (10 ^ l.length) 10, ← Nat.mul_assoc] at hb
    have hn : (n + 1) * 10 ≤ 10 ^ 19 := Nat.le_trans (Nat.le_mul_of_pos_right _ hp) hb
    have e19 : (10 : Nat) ^ 19 = 10000000000000000000 := by decide
    unfold Lib.parseUintM
    rw [if_pos h1, if_neg (by omega), if_neg (by omega)]
    exact ih _ h.2 (Nat.le_trans (Nat.mul_le_mul_right _ (by omega)) hb)
theorem parse_num (l : List UInt8) (h : l.all digitB = true) (h0 : l ≠ []) (h19 : l.length ≤ 19) : Lib.parseUintB 64 l = .ok (numOf l) := by
  unfold Lib.parseUintB
  rw [if_neg h0]
  refine parse_ok l 0 h ?_
  rw [Nat.zero_add, Nat.one_mul]
  exact Nat.pow_le_pow_right (by decide) h19
theorem dec_rec (u : Nat) (h : 10 ≤ u) : Lib.decDigits u = Lib.decDigits (u / 10) ++ [UInt8.ofNat (48 + u % 10)] := by
  rw [Lib.decDigits, dif_neg (by omega)]
theorem dec_small (u : Nat) (h : u < 10) : Lib.decDigits u = [UInt8.ofNat (48 + u)] := Lib.decDigits_one h
theorem ofNat_digit (k : Nat) (h : k < 10) : (UInt8.ofNat (48 + k)).toNat = 48 + k := by
  simp [UInt8.toNat_ofNat']
  omega
theorem digit_ofNat (k : Nat) (h : k < 10) : digitB (UInt8.ofNat (48 + k)) = true := by
  unfold digitB
  rw [ofNat_digit k h]
  simp
  omega
theorem dec_all (u : Nat) : (Lib.decDigits u).all digitB = true := by
  induction u using Nat.strongRecOn with
  | _ u ih =>
    rcases Nat.lt_or_ge u 10 with h | h
    · rw [dec_small u h, List.all_cons, digit_ofNat u h]; rfl
    · rw [dec_rec u h, List.all_append, ih _ (by omega), List.all_cons, digit_ofNat _ (Nat.mod_lt _ (by omega))]
      rfl
theorem dec_num (u : Nat) : numOf (Lib.decDigits u) = u := by
  induction u using Nat.strongRecOn with
  | _ u ih =>
    rcases Nat.lt_or_ge u 10 with h | h
    · rw [dec_small u h]
      show 0 * 10 + ((UInt8.ofNat (48 + u)).toNat - 48) = u
      rw [ofNat_digit u h]
      omega
    · rw [dec_rec u h, numOf_snoc, ih _ (by omega), ofNat_digit _ (Nat.mod_lt _ (by omega))]
      omega
theorem dec_ne (u : Nat) : Lib.decDigits u ≠ [] := by
  intro h
  have := Lib.decDigits_length u
  rw [h] at this
  have := Lib.nDigits_pos u
  simp at *
  omega
/-- No zero ahead. -/
def headOk (l : List UInt8) : Prop := 2 ≤ l.length → l[0]? ≠ some 48
theorem dec_head (u : Nat) (h : 0 < u) : (Lib.decDigits u)[0]? ≠ some 48 := by
  induction u using Nat.strongRecOn with
  | _ u ih =>
    rcases Nat.lt_or_ge u 10 with h2 | h2
    · rw [dec_small u h2]
      intro h3
      have h4 : UInt8.ofNat (48 + u) = 48 := by simpa using h3
      have := ofNat_digit u h2
      rw [h4] at this
      have e : (48 : UInt8).toNat = 48 := rfl
      omega
    · rw [dec_rec u h2]
      have h3 := ih (u / 10) (by omega) (by omega)
      have h4 : 0 < (Lib.decDigits (u / 10)).length := by rw [Lib.decDigits_length]; exact Lib.nDigits_pos _
      rw [List.getElem?_append_left h4]
      exact h3
theorem dec_headOk (u : Nat) : headOk (Lib.decDigits u) := by
  intro h
  rcases Nat.eq_zero_or_pos u with rfl | h2
  · rw [dec_small 0 (by omega)] at h
    simp at h
  · exact dec_head u h2
theorem byte_of (c : UInt8) (h : digitB c = true) : c = UInt8.ofNat (48 + (c.toNat - 48)) ∧ c.toNat - 48 < 10 := by
  simp [digitB] at h
  refine ⟨?_, by omega⟩
  rw [show 48 + (c.toNat - 48) = c.toNat by omega]
  simp
theorem snoc_cases (l : List UInt8) : l = [] ∨ ∃ m c, l = m ++ [c] := by
  rcases List.eq_nil_or_concat l with h | ⟨m, c, h⟩
  · exact .inl h
  · exact .inr ⟨m, c, by simpa using h⟩
theorem num_pos_of_head (l : List UInt8) (h : l.all digitB = true) (h0 : l ≠ []) (hh : l[0]? ≠ some 48) : 0 < numOf l := by
  rcases l with _ | ⟨c, l⟩
  · exact absurd rfl h0
  · simp only [List.all_cons, Bool.and_eq_true] at h
    obtain ⟨e, hc⟩ := byte_of c h.1
    have hne : c.toNat - 48 ≠ 0 := by
      intro h3
      rw [h3] at e
      exact hh (by rw [e]; rfl)
    have key : ∀ (l : List UInt8) (n : Nat), n ≤ numFrom n l := by
      intro l
      induction l with
      | nil => intro n; exact Nat.le_refl _
      | cons c l ih => intro n; exact Nat.le_trans (show n ≤ n * 10 + (c.toNat - 48) by omega) (ih _)
    have := key l (0 * 10 + (c.toNat - 48))
    show 0 < numFrom (0 * 10 + (c.toNat - 48)) l
    omega
/-- Digits without a zero ahead are a number's own. -/
theorem dec_of (n : Nat) : ∀ l : List UInt8, l.length = n → l.all digitB = true → l ≠ [] → headOk l → Lib.decDigits (numOf l) = l := by
  induction n with
  | zero => intro l hl _ h0 _; exact absurd (List.length_eq_zero_iff.1 hl) h0
  | succ n ih =>
    intro l hl ha h0 hh
    rcases snoc_cases l with rfl | ⟨m, c, rfl⟩
    · exact absurd rfl h0
    · rw [List.all_append, Bool.and_eq_true] at ha
      have hc : digitB c = true := by have := ha.2; simpa using this
      obtain ⟨e, hc10⟩ := byte_of c hc
      rw [numOf_snoc]
      rcases m with _ | ⟨d, m⟩
      · have e0 : numOf [] = 0 := rfl
        rw [e0, Nat.zero_mul, Nat.zero_add, dec_small _ hc10, ← e]
        rfl
      · have hm : (d :: m)[0]? ≠ some 48 := by
          have := hh (by simp)
          simpa using this
        have hp := num_pos_of_head (d :: m) ha.1 (by simp) hm
        rw [dec_rec _ (by omega), show (numOf (d :: m) * 10 + (c.toNat - 48)) / 10 = numOf (d :: m) by omega, show (numOf (d :: m) * 10 + (c.toNat - 48)) % 10 = c.toNat - 48 by omega, ← e,
          ih (d :: m) (by simp at hl ⊢; omega) ha.1 (by simp) (fun _ => hm)]
end Go.Proofs.YtjniclalobggpaaDoor
