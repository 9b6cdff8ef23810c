/-
  Numbers as twenty digits to 65536: the plain laws. No program in sight.
-/
import Derived.Test.YtjniclalobggpaaDoorAmP
namespace Go.Proofs.YtjniclalobggpaaDoor
open Go.RowKit
set_option linter.unusedVariables false

/-- The i-th digit. -/
def dg (n i : Nat) : Nat := n / 65536 ^ i % 65536
theorem dg_lt (n i : Nat) : dg n i < 65536 := Nat.mod_lt _ (by omega)
/-- Twenty cells. -/
def row20 (f : Nat → Nat) : Array Value := ((List.range 20).map fun i => Value.int .u64 (f i : Int)).toArray
theorem row20_size (f : Nat → Nat) : (row20 f).size = 20 := by simp [row20]
theorem row20_at (f : Nat → Nat) (i : Nat) (h : i < 20) : (row20 f)[i]? = some (.int .u64 (f i : Int)) := by
  simp [row20, h]
theorem row20_ext (f g : Nat → Nat) (h : ∀ i, i < 20 → f i = g i) : row20 f = row20 g := by
  unfold row20
  congr 1
  apply List.map_congr_left
  intro i hi
  rw [h i (by simpa using hi)]
theorem row20_set (f : Nat → Nat) (i v : Nat) (h : i < 20) : (row20 f).setIfInBounds i (.int .u64 (v : Int)) = row20 (fun k => if k = i then v else f k) := by
  apply Array.ext
  · simp [row20]
  · intro k hk1 hk2
    have hk0 : k < (row20 f).size := by simpa using hk1
    rw [Array.getElem_setIfInBounds hk0]
    simp only [row20, List.getElem_toArray, List.getElem_map, List.getElem_range]
    by_cases e : i = k
    · subst e; simp
    · rw [if_neg e, if_neg (fun h => e h.symm)]
/-- A number as the program has it. -/
def natOf (n : Nat) : Value := .agg (row20 (dg n))
theorem pow_pos' (i : Nat) : 0 < 65536 ^ i := Nat.pow_pos (by omega)
/-- What is carried into the i-th digit of a sum. -/
def carryAt (a b i : Nat) : Nat := (a % 65536 ^ i + b % 65536 ^ i) / 65536 ^ i
theorem carryAt_zero (a b : Nat) : carryAt a b 0 = 0 := by simp [carryAt, Nat.mod_one]
theorem carryAt_le (a b i : Nat) : carryAt a b i ≤ 1 := by
  unfold carryAt
  have h1 := Nat.mod_lt a (pow_pos' i)
  have h2 := Nat.mod_lt b (pow_pos' i)
  apply Nat.le_of_lt_succ
  rw [Nat.div_lt_iff_lt_mul (pow_pos' i)]
  omega
theorem sum_div (a b p : Nat) (hp : 0 < p) : (a + b) / p = a / p + b / p + (a % p + b % p) / p := by
  have ha := Nat.div_add_mod a p
  have hb := Nat.div_add_mod b p
  have e : a + b = p * (a / p + b / p) + (a % p + b % p) := by rw [Nat.mul_add]; omega
  rw [e, Nat.mul_add_div hp]
theorem pow_succ' (i : Nat) : 65536 ^ (i + 1) = 65536 ^ i * 65536 := Nat.pow_succ 65536 i
/-- One digit of a sum. -/
theorem add_step (a b i : Nat) : (dg a i + dg b i + carryAt a b i) % 65536 = dg (a + b) i ∧ (dg a i + dg b i + carryAt a b i) / 65536 = carryAt a b (i + 1) := by
  have hp := pow_pos' i
  constructor
  · unfold dg carryAt
    rw [sum_div a b _ hp]
    omega
  · have e : carryAt a b (i + 1) = (a % 65536 ^ i + 65536 ^ i * dg a i + (b % 65536 ^ i + 65536 ^ i * dg b i)) / 65536 ^ i / 65536 := by
      unfold carryAt dg
      rw [pow_succ', Nat.div_div_eq_div_mul, Nat.mod_mul, Nat.mod_mul]
    rw [e]
    have e2 : a % 65536 ^ i + 65536 ^ i * dg a i + (b % 65536 ^ i + 65536 ^ i * dg b i) = 65536 ^ i * (dg a i + dg b i) + (a % 65536 ^ i + b % 65536 ^ i) := by
      rw [Nat.mul_add]; omega
    rw [e2, Nat.mul_add_div hp]
    rfl
/-- One digit of a difference. -/
theorem sub_step (b c i : Nat) : (65536 + dg (b + c) i - dg b i - carryAt b c i) % 65536 = dg c i ∧ 1 - (65536 + dg (b + c) i - dg b i - carryAt b c i) / 65536 = carryAt b c (i + 1) ∧ dg b i + carryAt b c i ≤ 65536 + dg (b + c) i := by
  obtain ⟨h1, h2⟩ := add_step b c i
  have h3 := dg_lt b i
  have h4 := dg_lt c i
  have h5 := dg_lt (b + c) i
  have h6 := carryAt_le b c i
  have h7 := carryAt_le b c (i + 1)
  generalize dg b i = x at *
  generalize dg c i = y at *
  generalize dg (b + c) i = z at *
  generalize carryAt b c i = k at *
  generalize carryAt b c (i + 1) = l at *
  omega
/-- The upper digits and the next one. -/
theorem div_step (a i : Nat) : a / 65536 ^ i = a / 65536 ^ (i + 1) * 65536 + dg a i := by
  unfold dg
  rw [pow_succ', ← Nat.div_div_eq_div_mul]
  omega
theorem cmp_lt (a b i : Nat) (h : a / 65536 ^ (i + 1) = b / 65536 ^ (i + 1)) (hd : dg a i < dg b i) : a < b := by
  have h1 := div_step a i
  have h2 := div_step b i
  rw [← h] at h2
  have h3 : a / 65536 ^ i < b / 65536 ^ i := by omega
  rcases Nat.lt_or_ge a b with h4 | h4
  · exact h4
  · have := Nat.div_le_div_right (c := 65536 ^ i) h4
    omega
theorem cmp_eq' (a b i : Nat) (h : a / 65536 ^ (i + 1) = b / 65536 ^ (i + 1)) (hd : dg a i = dg b i) : a / 65536 ^ i = b / 65536 ^ i := by
  rw [div_step a i, div_step b i, h, hd]
theorem dg_small (n i : Nat) (h : n < 65536 ^ i) : dg n i = 0 := by
  unfold dg
  rw [Nat.div_eq_of_lt h]
end Go.Proofs.YtjniclalobggpaaDoor
