/-
  Plain laws of the sum of layer 6: the step by a table is eight steps by bits; a step is one to one; the sum of bytes of which one differs differs. No program in sight.
-/
namespace Go.Proofs.Ytcpojhckgoinmaa

/-- One step by a bit. -/
def crcBit (c : Nat) : Nat := if c % 2 = 1 then (c / 2) ^^^ 3988292384 else c / 2
def crcBits : Nat → Nat → Nat
  | 0, c => c
  | k + 1, c => crcBits k (crcBit c)
def crcByte (c x : Nat) : Nat := crcBits 8 (c ^^^ x)
def crcRaw (c : Nat) (xs : List UInt8) : Nat := xs.foldl (fun c x => crcByte c x.toNat) c
def crc (xs : List UInt8) : Nat := crcRaw 4294967295 xs ^^^ 4294967295

theorem crcBits_succ (k c : Nat) : crcBits (k + 1) c = crcBit (crcBits k c) := by
  induction k generalizing c with
  | zero => rfl
  | succ k ih => rw [crcBits, ih]; rfl

theorem crcBit_lt (c : Nat) (h : c < 4294967296) : crcBit c < 4294967296 := by
  unfold crcBit
  split
  · exact Nat.xor_lt_two_pow (n := 32) (by omega) (by omega)
  · omega
theorem crcBits_lt (k c : Nat) (h : c < 4294967296) : crcBits k c < 4294967296 := by
  induction k generalizing c with
  | zero => exact h
  | succ k ih => exact ih _ (crcBit_lt c h)
theorem crcByte_lt (c x : Nat) (hc : c < 4294967296) (hx : x < 256) : crcByte c x < 4294967296 :=
  crcBits_lt 8 _ (Nat.xor_lt_two_pow (n := 32) (by omega) (by omega))
theorem crcRaw_lt (xs : List UInt8) : ∀ c, c < 4294967296 → crcRaw c xs < 4294967296 := by
  induction xs with
  | nil => exact fun _ h => h
  | cons x xs ih => exact fun c h => ih _ (crcByte_lt c _ h x.toNat_lt)
theorem crc_lt (xs : List UInt8) : crc xs < 4294967296 := Nat.xor_lt_two_pow (n := 32) (crcRaw_lt xs _ (by omega)) (by omega)
theorem crcRaw_append (c : Nat) (xs ys : List UInt8) : crcRaw c (xs ++ ys) = crcRaw (crcRaw c xs) ys := List.foldl_append
theorem crcRaw_snoc (c : Nat) (xs : List UInt8) (x : UInt8) : crcRaw c (xs ++ [x]) = crcByte (crcRaw c xs) x.toNat := by rw [crcRaw_append]; rfl

/-! ### Linear -/
theorem xorR {a b c : Nat} (h : a ^^^ c = b ^^^ c) : a = b := by
  have := congrArg (· ^^^ c) h
  simpa [Nat.xor_assoc] using this
theorem xorL {a b c : Nat} (h : c ^^^ a = c ^^^ b) : a = b := xorR (c := c) (by rw [Nat.xor_comm a, Nat.xor_comm b]; exact h)
theorem xor_half (a b : Nat) : (a ^^^ b) / 2 = (a / 2) ^^^ (b / 2) := by
  have := Nat.shiftRight_xor_distrib (a := a) (b := b) (i := 1)
  simpa [Nat.shiftRight_eq_div_pow] using this
theorem xor_par (a b : Nat) : (a ^^^ b) % 2 = (a + b) % 2 := by
  have h := Nat.testBit_xor a b 0
  simp only [Nat.testBit_zero] at h
  have ha := Nat.mod_two_eq_zero_or_one a
  have hb := Nat.mod_two_eq_zero_or_one b
  have hc := Nat.mod_two_eq_zero_or_one (a ^^^ b)
  have e : (a + b) % 2 = (a % 2 + b % 2) % 2 := Nat.add_mod a b 2
  rw [e]
  rcases ha with ha | ha <;> rcases hb with hb | hb <;> rcases hc with hc | hc <;> simp [ha, hb, hc] at h ⊢
theorem crcBit_eq (c : Nat) : crcBit c = (c / 2) ^^^ (if c % 2 = 1 then 3988292384 else 0) := by
  unfold crcBit; split <;> simp
theorem crcBit_xor (a b : Nat) : crcBit (a ^^^ b) = crcBit a ^^^ crcBit b := by
  rw [crcBit_eq, crcBit_eq a, crcBit_eq b, xor_half, xor_par]
  have ha := Nat.mod_two_eq_zero_or_one a
  have hb := Nat.mod_two_eq_zero_or_one b
  have e : (a + b) % 2 = (a % 2 + b % 2) % 2 := Nat.add_mod a b 2
  rw [e]
  rcases ha with ha | ha <;> rcases hb with hb | hb <;> rw [ha, hb] <;> simp [Nat.xor_assoc]
  · rw [Nat.xor_comm (b / 2)]
  · rw [Nat.xor_comm (b / 2), ← Nat.xor_assoc 3988292384, Nat.xor_self, Nat.zero_xor]
theorem crcBits_xor (k a b : Nat) : crcBits k (a ^^^ b) = crcBits k a ^^^ crcBits k b := by
  induction k generalizing a b with
  | zero => rfl
  | succ k ih => simp only [crcBits, crcBit_xor, ih]
theorem crcBits_even (k h : Nat) : crcBits k (h * 2 ^ k) = h := by
  induction k generalizing h with
  | zero => simp [crcBits]
  | succ k ih =>
    have e : crcBit (h * 2 ^ (k + 1)) = h * 2 ^ k := by
      have e2 : h * 2 ^ (k + 1) = 2 * (h * 2 ^ k) := by rw [Nat.pow_succ, ← Nat.mul_assoc, Nat.mul_comm]
      unfold crcBit
      rw [e2, if_neg (by omega)]
      omega
    rw [crcBits, e, ih]

/-- The step by the table. -/
theorem crcByte_table (c x : Nat) : crcBits 8 ((c % 256) ^^^ x) ^^^ (c / 256) = crcByte c x := by
  have hsplit : c = (c / 256 * 2 ^ 8) ^^^ (c % 256) := by
    have h1 : c / 256 * 2 ^ 8 ||| c % 256 = c / 256 * 2 ^ 8 + c % 256 := by
      have := Nat.shiftLeft_add_eq_or_of_lt (b := c % 256) (i := 8) (by omega) (c / 256)
      rw [Nat.shiftLeft_eq] at this
      exact this.symm
    have h2 : c / 256 * 2 ^ 8 &&& c % 256 = 0 := by
      apply Nat.eq_of_testBit_eq
      intro i
      rw [Nat.testBit_and, Nat.zero_testBit, Nat.testBit_mul_two_pow]
      by_cases hi : 8 ≤ i
      · rw [Nat.testBit_lt_two_pow (x := c % 256) (i := i) (Nat.lt_of_lt_of_le (by omega : c % 256 < 2 ^ 8) (Nat.pow_le_pow_right (by omega) hi))]
        simp
      · simp [hi]
    apply Nat.eq_of_testBit_eq
    intro i
    have h3 := congrArg (fun n => Nat.testBit n i) h1
    have h4 := congrArg (fun n => Nat.testBit n i) h2
    simp only [Nat.testBit_or, Nat.testBit_and, Nat.zero_testBit] at h3 h4
    have e : c / 256 * 2 ^ 8 + c % 256 = c := by omega
    rw [e] at h3
    rw [← h3, Nat.testBit_xor]
    revert h4
    cases (c / 256 * 2 ^ 8).testBit i <;> cases (c % 256).testBit i <;> simp
  unfold crcByte
  conv => rhs; rw [hsplit, Nat.xor_assoc, crcBits_xor, crcBits_even]
  rw [Nat.xor_comm]

/-! ### One to one -/
theorem crcBit_top (c : Nat) (h : c < 4294967296) : 2147483648 ≤ crcBit c ↔ c % 2 = 1 := by
  unfold crcBit
  split
  · rename_i ho
    refine ⟨fun _ => ho, fun _ => ?_⟩
    have hb : ((c / 2) ^^^ 3988292384).testBit 31 = true := by
      rw [Nat.testBit_xor, Nat.testBit_lt_two_pow (x := c / 2) (i := 31) (by omega)]
      decide
    exact Nat.ge_two_pow_of_testBit hb
  · rename_i ho
    exact ⟨fun hh => by omega, fun hh => absurd hh ho⟩
theorem crcBit_inj (a b : Nat) (ha : a < 4294967296) (hb : b < 4294967296) (h : crcBit a = crcBit b) : a = b := by
  have h1 := crcBit_top a ha
  have h2 := crcBit_top b hb
  rw [h] at h1
  have hp : a % 2 = 1 ↔ b % 2 = 1 := h1.symm.trans h2
  have hq : a / 2 = b / 2 := by
    unfold crcBit at h
    by_cases h3 : a % 2 = 1
    · rw [if_pos h3, if_pos (hp.1 h3)] at h
      exact xorR h
    · rw [if_neg h3, if_neg (fun h4 => h3 (hp.2 h4))] at h
      exact h
  have ha2 := Nat.mod_two_eq_zero_or_one a
  have hb2 := Nat.mod_two_eq_zero_or_one b
  omega
theorem crcBits_inj (k a b : Nat) (ha : a < 4294967296) (hb : b < 4294967296) (h : crcBits k a = crcBits k b) : a = b := by
  induction k generalizing a b with
  | zero => exact h
  | succ k ih => exact crcBit_inj a b ha hb (ih _ _ (crcBit_lt a ha) (crcBit_lt b hb) h)
theorem crcByte_inj (a b x : Nat) (ha : a < 4294967296) (hb : b < 4294967296) (hx : x < 256) (h : crcByte a x = crcByte b x) : a = b :=
  xorR (crcBits_inj 8 _ _ (Nat.xor_lt_two_pow (n := 32) (by omega) (by omega)) (Nat.xor_lt_two_pow (n := 32) (by omega) (by omega)) h)
theorem crcByte_inj_byte (a x y : Nat) (ha : a < 4294967296) (hx : x < 256) (hy : y < 256) (h : crcByte a x = crcByte a y) : x = y :=
  xorL (crcBits_inj 8 _ _ (Nat.xor_lt_two_pow (n := 32) (by omega) (by omega)) (Nat.xor_lt_two_pow (n := 32) (by omega) (by omega)) h)
theorem crcRaw_inj (xs : List UInt8) : ∀ a b, a < 4294967296 → b < 4294967296 → crcRaw a xs = crcRaw b xs → a = b := by
  induction xs with
  | nil => exact fun _ _ _ _ h => h
  | cons x xs ih =>
    intro a b ha hb h
    exact crcByte_inj a b _ ha hb x.toNat_lt (ih _ _ (crcByte_lt a _ ha x.toNat_lt) (crcByte_lt b _ hb x.toNat_lt) h)
/-- One byte differs: the sums differ. -/
theorem crc_turned (p q : List UInt8) (x y : UInt8) (hne : x ≠ y) : crc (p ++ x :: q) ≠ crc (p ++ y :: q) := by
  intro h
  have h1 : crcRaw 4294967295 (p ++ x :: q) = crcRaw 4294967295 (p ++ y :: q) := xorR h
  rw [crcRaw_append, crcRaw_append] at h1
  have hp := crcRaw_lt p 4294967295 (by omega)
  have h2 := crcRaw_inj q _ _ (crcByte_lt _ _ hp x.toNat_lt) (crcByte_lt _ _ hp y.toNat_lt) h1
  have h3 := crcByte_inj_byte _ _ _ hp x.toNat_lt y.toNat_lt h2
  exact hne (UInt8.toNat_inj.1 h3)
end Go.Proofs.Ytcpojhckgoinmaa
