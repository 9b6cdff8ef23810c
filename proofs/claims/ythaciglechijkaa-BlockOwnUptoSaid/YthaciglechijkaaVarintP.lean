/-
  Plain laws of layer 4: the form of a number (seven bits a byte, the lowest first), and how it is read. No program in sight.
-/
namespace Go.Proofs.Ythaciglechijkaa

/-- The form of a number, k bytes behind the first at the most. -/
def vform : Nat → Nat → List UInt8
  | 0, v => [UInt8.ofNat v]
  | k + 1, v => if v < 128 then [UInt8.ofNat v] else UInt8.ofNat (v % 128 + 128) :: vform k (v / 128)
def enc (v : Nat) : List UInt8 := vform 9 v

/-- How a number is read, from the i-th byte on, v read so far: the number, how many bytes in all, the error's number. -/
def dec : Nat → Nat → List UInt8 → Nat × Nat × Nat
  | _, _, [] => (0, 0, 10)
  | i, v, x :: r =>
    if i = 9 ∧ 1 < x.toNat then (0, 0, 11)
    else if x.toNat < 128 then (if x.toNat = 0 ∧ 0 < i then (0, 0, 11) else (v + x.toNat % 128 * 128 ^ i, i + 1, 0))
    else dec (i + 1) (v + x.toNat % 128 * 128 ^ i) r

/-- A number at a place: the number, the place behind it, the error's number. -/
def uintAt (xs : List UInt8) (p : Int) : Nat × Int × Int :=
  if p < 0 ∨ (xs.length : Int) < p then (0, 0, 2)
  else
    let r := dec 0 0 (xs.drop p.toNat)
    if r.2.2 = 0 then (r.1, p + r.2.1, 0) else (0, 0, r.2.2)

theorem vform_length (k v : Nat) : 0 < (vform k v).length ∧ (vform k v).length ≤ k + 1 := by
  induction k generalizing v with
  | zero => simp [vform]
  | succ k ih =>
    unfold vform
    split
    · simp
    · have := ih (v / 128); simp; omega
theorem enc_length (v : Nat) : 0 < (enc v).length ∧ (enc v).length ≤ 10 := vform_length 9 v

theorem ofNat_lt (n : Nat) (h : n < 256) : (UInt8.ofNat n).toNat = n := by
  rw [UInt8.toNat_ofNat']; exact Nat.mod_eq_of_lt h

/-- What is written is read. -/
theorem dec_vform (k : Nat) : ∀ (i v u : Nat) (rest : List UInt8), i + k ≤ 9 → (i + k = 9 → v < 128 ^ k * 2) → v < 128 ^ (k + 1) → (0 < i → 0 < v) →
    dec i u (vform k v ++ rest) = (u + v * 128 ^ i, i + (vform k v).length, 0) := by
  induction k with
  | zero =>
    intro i v u rest hik hv9 hv hp
    have hv' : v < 128 := by simpa using hv
    have ht := ofNat_lt v (by omega)
    unfold vform
    simp only [List.cons_append, List.nil_append, dec, ht, List.length_cons, List.length_nil]
    have h1 : ¬ (i = 9 ∧ 1 < v) := by
      rintro ⟨h1, h2⟩
      have := hv9 (by omega)
      omega
    rw [if_neg h1, if_pos hv', if_neg (by rintro ⟨h2, h3⟩; have := hp h3; omega), Nat.mod_eq_of_lt hv']
  | succ k ih =>
    intro i v u rest hik hv9 hv hp
    unfold vform
    split
    · rename_i hs
      have ht := ofNat_lt v (by omega)
      simp only [List.cons_append, List.nil_append, dec, ht, List.length_cons, List.length_nil]
      rw [if_neg (by omega), if_pos hs, if_neg (by rintro ⟨h2, h3⟩; have := hp h3; omega), Nat.mod_eq_of_lt hs]
    · rename_i hs
      have ht := ofNat_lt (v % 128 + 128) (by omega)
      simp only [List.cons_append, dec, ht, List.length_cons]
      rw [if_neg (by omega), if_neg (by omega)]
      have e0 : (v % 128 + 128) % 128 = v % 128 := by omega
      rw [e0, ih (i + 1) (v / 128) _ rest (by omega)]
      · have e1 : u + v % 128 * 128 ^ i + v / 128 * 128 ^ (i + 1) = u + v * 128 ^ i := by
          rw [Nat.pow_succ]
          have : v * 128 ^ i = (v / 128 * 128 + v % 128) * 128 ^ i := by congr 1; omega
          rw [this, Nat.add_mul, Nat.mul_assoc (v / 128), Nat.mul_comm 128 (128 ^ i)]
          omega
        rw [e1]
        congr 2
        omega
      · intro h9
        have := hv9 (by omega)
        rw [Nat.pow_succ] at this
        exact Nat.div_lt_of_lt_mul (by rw [Nat.mul_comm 128, Nat.mul_assoc, Nat.mul_comm 2, ← Nat.mul_assoc]; exact this)
      · rw [Nat.pow_succ] at hv
        exact Nat.div_lt_of_lt_mul (by rw [Nat.mul_comm]; exact hv)
      · intro _
        omega
theorem dec_enc (v : Nat) (rest : List UInt8) (hv : v < 18446744073709551616) : dec 0 0 (enc v ++ rest) = (v, (enc v).length, 0) := by
  have := dec_vform 9 0 v 0 rest (by omega) (fun _ => by omega) (by omega) (by omega)
  simpa [enc] using this

/-- What is read without error is the form of the number. -/
theorem vform_dec (r : List UInt8) : ∀ (i u v n : Nat), i ≤ 9 → u < 128 ^ i → dec i u r = (v, n, 0) →
    ∃ q, v = u + q * 128 ^ i ∧ (0 < i → 0 < q) ∧ i < n ∧ n ≤ i + r.length ∧ n ≤ 10 ∧ vform (9 - i) q = r.take (n - i) ∧ (i = 9 → q < 2) ∧ q < 128 ^ (9 - i) * 2 := by
  induction r with
  | nil => intro i u v n _ _ h; simp [dec] at h
  | cons x r ih =>
    intro i u v n hi hu h
    have hx := x.toNat_lt
    have hx8 : x.toNat < 256 := hx
    simp only [dec] at h
    split at h
    · simp at h
    · rename_i h9
      split at h
      · rename_i hs
        split at h
        · simp at h
        · rename_i hz
          simp only [Prod.mk.injEq] at h
          obtain ⟨h1, h2, _⟩ := h
          refine ⟨x.toNat, by rw [← h1, Nat.mod_eq_of_lt hs], fun h0 => by omega, by omega, by simp; omega, by omega, ?_, fun h => by omega, ?_⟩
          · have e : n - i = 1 := by omega
            rw [e]
            have ex : UInt8.ofNat x.toNat = x := by simp
            cases hk : 9 - i with
            | zero => simp [vform, ex]
            | succ k => simp [vform, hs, ex]
          · by_cases h9' : i = 9
            · subst h9'; simp; omega
            · have : 128 ^ (9 - i) * 2 ≥ 128 ^ 1 * 2 := Nat.mul_le_mul_right 2 (Nat.pow_le_pow_right (by omega) (by omega))
              omega
      · rename_i hs
        have hi9 : i < 9 := by omega
        have hlt : u + x.toNat % 128 * 128 ^ i < 128 ^ (i + 1) := by
          rw [Nat.pow_succ, Nat.mul_comm (128 ^ i)]
          have : x.toNat % 128 * 128 ^ i ≤ 127 * 128 ^ i := Nat.mul_le_mul_right _ (by omega)
          omega
        obtain ⟨q, e1, e2, e3, e4, e5, e6, _, e7⟩ := ih (i + 1) _ v n (by omega) hlt h
        refine ⟨x.toNat % 128 + 128 * q, ?_, fun _ => by have := e2 (by omega); omega, by omega, by simp; omega, e5, ?_, fun h => by omega, ?_⟩
        · rw [e1, Nat.pow_succ, Nat.add_mul, Nat.mul_comm 128 q, Nat.mul_assoc q, Nat.mul_comm 128 (128 ^ i)]
          omega
        · have hq := e2 (by omega)
          have e8 : 9 - i = (9 - (i + 1)) + 1 := by omega
          have e9 : n - i = (n - (i + 1)) + 1 := by omega
          rw [e8, e9, List.take_succ_cons, vform, if_neg (by omega), ← e6]
          have f1 : (x.toNat % 128 + 128 * q) % 128 + 128 = x.toNat := by omega
          have f2 : (x.toNat % 128 + 128 * q) / 128 = q := by omega
          rw [f1, f2]
          simp
        · have e8 : 9 - i = (9 - (i + 1)) + 1 := by omega
          rw [e8, Nat.pow_succ]
          omega

/-- A sign laid in the lowest bit. -/
def zig (v : Int) : Nat := if 0 ≤ v then (2 * v).toNat else (-2 * v - 1).toNat
def zag (n : Nat) : Int := if n % 2 = 0 then (n / 2 : Nat) else -(n / 2 : Nat) - 1
theorem zag_zig (v : Int) : zag (zig v) = v := by
  unfold zag zig
  split <;> split <;> omega
theorem zig_lt (v : Int) (h0 : -9223372036854775808 ≤ v) (h1 : v ≤ 9223372036854775807) : zig v < 18446744073709551616 := by
  unfold zig
  split <;> omega
end Go.Proofs.Ythaciglechijkaa
