/-
  Joined texts: AmN AmN2 AmN3 AmN4 AmN5 AmN6 AmN7 AmN8. No statement is proved here.
-/
import Derived.Test.YtcbopgopegphlaaAmA
namespace Go.Proofs.Ytcbopgopegphlaa
open Go.RowKit
set_option linter.unusedVariables false

/-- The i-th digit. -/
def dg (n i : Nat) : Nat := n / 65536 ^ i % 65536
theorem dg_lt (n i : Nat) : dg n i < 65536 := Nat.mod_lt _ (by omega)
/-- Twenty cells. -/
def row20 (f : Nat → Nat) : Array Value := ((List.range 20).map fun i => Value.int .u64 (f i : Int)).toArray
theorem row20_size (f : Nat → Nat) : (row20 f).size = 20 := by simp [row20]
theorem row20_at (f : Nat → Nat) (i : Nat) (h : i < 20) : (row20 f)[i]? = some (.int .u64 (f i : Int)) := by
  simp [row20, h]
theorem row20_ext (f g : Nat → Nat) (h : ∀ i, i < 20 → f i = g i) : row20 f = row20 g := by
  unfold row20
  congr 1
  apply List.map_congr_left
  intro i hi
  rw [h i (by simpa using hi)]
theorem row20_set (f : Nat → Nat) (i v : Nat) (h : i < 20) : (row20 f).setIfInBounds i (.int .u64 (v : Int)) = row20 (fun k => if k = i then v else f k) := by
  apply Array.ext
  · simp [row20]
  · intro k hk1 hk2
    have hk0 : k < (row20 f).size := by simpa using hk1
    rw [Array.getElem_setIfInBounds hk0]
    simp only [row20, List.getElem_toArray, List.getElem_map, List.getElem_range]
    by_cases e : i = k
    · subst e; simp
    · rw [if_neg e, if_neg (fun h => e h.symm)]
/-- A number as the program has it. -/
def natOf (n : Nat) : Value := .agg (row20 (dg n))
theorem pow_pos' (i : Nat) : 0 < 65536 ^ i := Nat.pow_pos (by omega)
/-- What is carried into the i-th digit of a sum. -/
def carryAt (a b i : Nat) : Nat := (a % 65536 ^ i + b % 65536 ^ i) / 65536 ^ i
theorem carryAt_zero (a b : Nat) : carryAt a b 0 = 0 := by simp [carryAt, Nat.mod_one]
theorem carryAt_le (a b i : Nat) : carryAt a b i ≤ 1 := by
  unfold carryAt
  have h1 := Nat.mod_lt a (pow_pos' i)
  have h2 := Nat.mod_lt b (pow_pos' i)
  apply Nat.le_of_lt_succ
  rw [Nat.div_lt_iff_lt_mul (pow_pos' i)]
  omega
theorem sum_div (a b p : Nat) (hp : 0 < p) : (a + b) / p = a / p + b / p + (a % p + b % p) / p := by
  have ha := Nat.div_add_mod a p
  have hb := Nat.div_add_mod b p
  have e : a + b = p * (a / p + b / p) + (a % p + b % p) := by rw [Nat.mul_add]; omega
  rw [e, Nat.mul_add_div hp]
theorem pow_succ' (i : Nat) : 65536 ^ (i + 1) = 65536 ^ i * 65536 := Nat.pow_succ 65536 i
/-- One digit of a sum. -/
theorem add_step (a b i : Nat) : (dg a i + dg b i + carryAt a b i) % 65536 = dg (a + b) i ∧ (dg a i + dg b i + carryAt a b i) / 65536 = carryAt a b (i + 1) := by
  have hp := pow_pos' i
  constructor
  · unfold dg carryAt
    rw [sum_div a b _ hp]
    omega
  · have e : carryAt a b (i + 1) = (a % 65536 ^ i + 65536 ^ i * dg a i + (b % 65536 ^ i + 65536 ^ i * dg b i)) / 65536 ^ i / 65536 := by
      unfold carryAt dg
      rw [pow_succ', Nat.div_div_eq_div_mul, Nat.mod_mul, Nat.mod_mul]
    rw [e]
    have e2 : a % 65536 ^ i + 65536 ^ i * dg a i + (b % 65536 ^ i + 65536 ^ i * dg b i) = 65536 ^ i * (dg a i + dg b i) + (a % 65536 ^ i + b % 65536 ^ i) := by
      rw [Nat.mul_add]; omega
    rw [e2, Nat.mul_add_div hp]
    rfl
/-- One digit of a difference. -/
theorem sub_step (b c i : Nat) : (65536 + dg (b + c) i - dg b i - carryAt b c i) % 65536 = dg c i ∧ 1 - (65536 + dg (b + c) i - dg b i - carryAt b c i) / 65536 = carryAt b c (i + 1) ∧ dg b i + carryAt b c i ≤ 65536 + dg (b + c) i := by
  obtain ⟨h1, h2⟩ := add_step b c i
  have h3 := dg_lt b i
  have h4 := dg_lt c i
  have h5 := dg_lt (b + c) i
  have h6 := carryAt_le b c i
  have h7 := carryAt_le b c (i + 1)
  generalize dg b i = x at *
  generalize dg c i = y at *
  generalize dg (b + c) i = z at *
  generalize carryAt b c i = k at *
  generalize carryAt b c (i + 1) = l at *
  omega
/-- The upper digits and the next one. -/
theorem div_stepN (a i : Nat) : a / 65536 ^ i = a / 65536 ^ (i + 1) * 65536 + dg a i := by
  unfold dg
  rw [pow_succ', ← Nat.div_div_eq_div_mul]
  omega
theorem cmp_lt (a b i : Nat) (h : a / 65536 ^ (i + 1) = b / 65536 ^ (i + 1)) (hd : dg a i < dg b i) : a < b := by
  have h1 := div_stepN a i
  have h2 := div_stepN b i
  rw [← h] at h2
  have h3 : a / 65536 ^ i < b / 65536 ^ i := by omega
  rcases Nat.lt_or_ge a b with h4 | h4
  · exact h4
  · have := Nat.div_le_div_right (c := 65536 ^ i) h4
    omega
theorem cmp_eq' (a b i : Nat) (h : a / 65536 ^ (i + 1) = b / 65536 ^ (i + 1)) (hd : dg a i = dg b i) : a / 65536 ^ i = b / 65536 ^ i := by
  rw [div_stepN a i, div_stepN b i, h, hd]
theorem dg_small (n i : Nat) (h : n < 65536 ^ i) : dg n i = 0 := by
  unfold dg
  rw [Nat.div_eq_of_lt h]
end Go.Proofs.Ytcbopgopegphlaa

namespace Go.Proofs.Ytcbopgopegphlaa
open Go.RowKit
set_option linter.unusedVariables false

theorem row20_one (f : Nat → Nat) : (row20 f).all (·.oneCell') = true := by
  simp [row20, Value.oneCell']
def z20 : Array Value := row20 (fun _ => 0)
theorem _root_.Go.RowKit.Below.setRow {B : Nat} {a w : World} (h : Below B a w) {g : Nat} (hg : B ≤ g) (cs : Array Value) : Below B a (w.setRow g cs) :=
  h.trans ⟨rfl, rfl, rfl, by simp, fun k hk => setRow_other w g k cs (by omega)⟩
theorem dg_far (n m i : Nat) (h : n < 65536 ^ m) (hi : m ≤ i) : dg n i = 0 :=
  dg_small n i (Nat.lt_of_lt_of_le h (Nat.pow_le_pow_right (by omega) hi))
end Go.Proofs.Ytcbopgopegphlaa

namespace Go.Proofs.Ytcbopgopegphlaa
open Go.RowKit
set_option linter.unusedVariables false

def cmpOf (a b : Nat) : Int := if a < b then -1 else if b < a then 1 else 0
/-- One digit of a row is set: the digits below it are those of one number, the others of another one. -/
theorem row_step (f h : Nat → Nat) (k : Nat) (hk : k < 20) : (row20 fun i => if i < k then h i else f i).setIfInBounds k (.int .u64 (h k : Int)) = row20 fun i => if i < k + 1 then h i else f i := by
  rw [row20_set _ k _ hk]
  apply row20_ext
  intro i hi
  by_cases e : i = k
  · subst e; rw [if_pos rfl, if_pos (by omega)]
  · rw [if_neg e]
    by_cases e2 : i < k
    · rw [if_pos e2, if_pos (by omega)]
    · rw [if_neg e2, if_neg (by omega)]
theorem row_end (f h : Nat → Nat) : (row20 fun i => if i < 20 then h i else f i) = row20 h := row20_ext _ _ fun i hi => by rw [if_pos hi]
theorem alloc3 (w : World) (a b c : Obj) : (((w.alloc a).alloc b).alloc c).heap[w.heap.size]? = some a ∧ (((w.alloc a).alloc b).alloc c).heap[w.heap.size + 1]? = some b ∧ (((w.alloc a).alloc b).alloc c).heap[w.heap.size + 2]? = some c := by
  have hB := (Below.refl ((w.alloc a).alloc b).heap.size ((w.alloc a).alloc b)).alloc (Nat.le_refl _) c
  refine ⟨(hB.block _ (by simp; omega)).trans (heap_alloc2_old w _ _), (hB.block _ (by simp)).trans (heap_alloc2_new w _ _), ?_⟩
  have := heap_alloc_new ((w.alloc a).alloc b) c
  simpa using this
end Go.Proofs.Ytcbopgopegphlaa

namespace Go.Proofs.Ytcbopgopegphlaa
open Go.RowKit
set_option linter.unusedVariables false

end Go.Proofs.Ytcbopgopegphlaa

namespace Go.Proofs.Ytcbopgopegphlaa
open Go.RowKit
set_option linter.unusedVariables false

theorem dg_add_mul (n m q j : Nat) (h : j < q) : dg (n + m * 65536 ^ q) j = dg n j := by
  obtain ⟨d, rfl⟩ : ∃ d, q = j + 1 + d := ⟨q - j - 1, by omega⟩
  unfold dg
  have e : m * 65536 ^ (j + 1 + d) = 65536 ^ j * (65536 * (m * 65536 ^ d)) := by
    rw [Nat.pow_add, Nat.pow_succ]
    simp only [Nat.mul_assoc, Nat.mul_comm, Nat.mul_left_comm]
  rw [e, Nat.add_comm n, Nat.mul_add_div (pow_pos' j), Nat.add_comm, Nat.add_mul_mod_self_left]
def XX (a b i : Nat) : Nat := a % 65536 ^ i * b
def PP (a b i k : Nat) : Nat := XX a b i + dg a i * (b % 65536 ^ k) * 65536 ^ i
def CC (a b i k : Nat) : Nat := PP a b i k / 65536 ^ (i + k) - XX a b i / 65536 ^ (i + k)
theorem PP_zero (a b i : Nat) : PP a b i 0 = XX a b i := by simp [PP, Nat.mod_one]
theorem CC_zero (a b i : Nat) : CC a b i 0 = 0 := by unfold CC; rw [PP_zero]; omega
theorem PP_succ (a b i k : Nat) : PP a b i (k + 1) = PP a b i k + dg a i * dg b k * 65536 ^ (i + k) := by
  unfold PP
  have e : b % 65536 ^ (k + 1) = b % 65536 ^ k + 65536 ^ k * dg b k := by
    unfold dg
    rw [pow_succ', Nat.mod_mul]
  rw [e, Nat.mul_add, Nat.add_mul, Nat.pow_add, ← Nat.add_assoc]
  congr 1
  simp only [Nat.mul_assoc, Nat.mul_comm, Nat.mul_left_comm]
theorem XX_succ (a b i : Nat) : XX a b (i + 1) = XX a b i + dg a i * b * 65536 ^ i := by
  unfold XX dg
  rw [pow_succ', Nat.mod_mul, Nat.add_mul]
  congr 1
  simp only [Nat.mul_comm, Nat.mul_left_comm]
theorem PP_end (a b i k : Nat) (h : i + k = 20) : ∃ m, XX a b (i + 1) = PP a b i k + m * 65536 ^ 20 := by
  refine ⟨dg a i * (b / 65536 ^ k), ?_⟩
  rw [XX_succ]
  unfold PP
  rw [← h, Nat.pow_add]
  have e := Nat.div_add_mod b (65536 ^ k)
  have e2 : dg a i * b * 65536 ^ i = dg a i * (b % 65536 ^ k) * 65536 ^ i + dg a i * (b / 65536 ^ k) * (65536 ^ i * 65536 ^ k) := by
    have e3 : dg a i * b = dg a i * (b % 65536 ^ k) + dg a i * (b / 65536 ^ k) * 65536 ^ k := by
      rw [Nat.mul_assoc, ← Nat.mul_add]
      congr 1
      rw [Nat.mul_comm (b / 65536 ^ k)]
      omega
    rw [e3, Nat.add_mul]
    congr 1
    simp only [Nat.mul_assoc, Nat.mul_comm, Nat.mul_left_comm]
  rw [e2]
  omega
theorem PP_low (a b i k j : Nat) (h : j < i + k) : dg (PP a b i (k + 1)) j = dg (PP a b i k) j := by
  rw [PP_succ]
  exact dg_add_mul _ _ _ _ h
theorem PP_step (a b i k : Nat) : (dg (XX a b i) (i + k) + dg a i * dg b k + CC a b i k) % 65536 = dg (PP a b i (k + 1)) (i + k) ∧ (dg (XX a b i) (i + k) + dg a i * dg b k + CC a b i k) / 65536 = CC a b i (k + 1) := by
  have hp := pow_pos' (i + k)
  have h1 : PP a b i (k + 1) / 65536 ^ (i + k) = PP a b i k / 65536 ^ (i + k) + dg a i * dg b k := by
    rw [PP_succ, Nat.add_mul_div_right _ _ hp]
  have hle : XX a b i / 65536 ^ (i + k) ≤ PP a b i k / 65536 ^ (i + k) := Nat.div_le_div_right (by unfold PP; omega)
  have e1 : dg (PP a b i (k + 1)) (i + k) = PP a b i (k + 1) / 65536 ^ (i + k) % 65536 := rfl
  have e2 : CC a b i (k + 1) = PP a b i (k + 1) / 65536 ^ (i + k) / 65536 - XX a b i / 65536 ^ (i + k) / 65536 := by
    unfold CC
    rw [← Nat.add_assoc, pow_succ', Nat.div_div_eq_div_mul, Nat.div_div_eq_div_mul]
  have e3 : CC a b i k = PP a b i k / 65536 ^ (i + k) - XX a b i / 65536 ^ (i + k) := rfl
  have e4 : dg (XX a b i) (i + k) = XX a b i / 65536 ^ (i + k) % 65536 := rfl
  rw [e1, e2, e3, e4, h1]
  generalize PP a b i k / 65536 ^ (i + k) = u at *
  generalize XX a b i / 65536 ^ (i + k) = v at *
  generalize dg a i * dg b k = m at *
  omega
theorem XX_zero (a b : Nat) : XX a b 0 = 0 := by simp [XX, Nat.mod_one]
theorem alloc4 (w : World) (a b c d : Obj) : ((((w.alloc a).alloc b).alloc c).alloc d).heap[w.heap.size]? = some a ∧ ((((w.alloc a).alloc b).alloc c).alloc d).heap[w.heap.size + 1]? = some b ∧ ((((w.alloc a).alloc b).alloc c).alloc d).heap[w.heap.size + 2]? = some c ∧ ((((w.alloc a).alloc b).alloc c).alloc d).heap[w.heap.size + 3]? = some d := by
  obtain ⟨h1, h2, h3⟩ := alloc3 w a b c
  have hB := (Below.refl (((w.alloc a).alloc b).alloc c).heap.size (((w.alloc a).alloc b).alloc c)).alloc (Nat.le_refl _) d
  refine ⟨(hB.block _ (by (simp) <;> omega)).trans h1, (hB.block _ (by (simp) <;> omega)).trans h2, (hB.block _ (by simp)).trans h3, ?_⟩
  have := heap_alloc_new (((w.alloc a).alloc b).alloc c) d
  simpa using this
theorem below4 (w : World) (a b c d : Obj) : Below w.heap.size w ((((w.alloc a).alloc b).alloc c).alloc d) :=
  ((((Below.refl _ _).alloc (Nat.le_refl _) _).alloc (by simp) _).alloc (by (simp) <;> omega) _).alloc (by (simp) <;> omega) _
end Go.Proofs.Ytcbopgopegphlaa

namespace Go.Proofs.Ytcbopgopegphlaa
open Go.RowKit
set_option linter.unusedVariables false

/-- The bit at i. -/
def bitAt (a i : Nat) : Nat := a / 2 ^ i % 2
theorem bit_dg (a i : Nat) : dg a (i / 16) / 2 ^ (i % 16) % 2 = bitAt a i := by
  unfold dg bitAt
  have e : (65536 : Nat) ^ (i / 16) = 2 ^ (16 * (i / 16)) := by rw [Nat.pow_mul]
  have hi : i = 16 * (i / 16) + i % 16 := by omega
  have hr : i % 16 < 16 := Nat.mod_lt _ (by omega)
  rw [e]
  have e2 : a / 2 ^ i = a / 2 ^ (16 * (i / 16)) / 2 ^ (i % 16) := by rw [Nat.div_div_eq_div_mul, ← Nat.pow_add, ← hi]
  rw [e2]
  generalize a / 2 ^ (16 * (i / 16)) = n
  generalize i % 16 = r at *
  have e3 : (65536 : Nat) = 2 ^ r * 2 ^ (16 - r) := by rw [← Nat.pow_add, show r + (16 - r) = 16 by omega]
  rw [e3, Nat.mod_mul_right_div_self]
  have e4 : (2 : Nat) ∣ 2 ^ (16 - r) := ⟨2 ^ (15 - r), by rw [show 16 - r = 15 - r + 1 by omega, Nat.pow_succ, Nat.mul_comm]⟩
  exact Nat.mod_mod_of_dvd _ e4
/-- The next bit of a long division. -/
theorem over_step (a b i : Nat) (hb : 0 < b) : 2 * (a / 2 ^ (i + 1) % b) + bitAt a i = if a / 2 ^ i % b = 2 * (a / 2 ^ (i + 1) % b) + bitAt a i then a / 2 ^ i % b else a / 2 ^ i % b + b := by
  have e : a / 2 ^ i = 2 * (a / 2 ^ (i + 1)) + bitAt a i := by
    unfold bitAt
    rw [Nat.pow_succ, ← Nat.div_div_eq_div_mul]
    omega
  have hbit : bitAt a i < 2 := Nat.mod_lt _ (by omega)
  have h1 := Nat.div_add_mod (a / 2 ^ (i + 1)) b
  have h2 : a / 2 ^ (i + 1) % b < b := Nat.mod_lt _ hb
  rw [e]
  generalize a / 2 ^ (i + 1) = n at *
  generalize bitAt a i = t at *
  have e2 : (2 * n + t) % b = (2 * (n % b) + t) % b := by
    have e3 : 2 * n + t = 2 * (n % b) + t + b * (2 * (n / b)) := by rw [Nat.mul_left_comm]; omega
    rw [e3, Nat.add_mul_mod_self_left]
  rw [e2]
  generalize n % b = r at *
  split
  · rename_i h; exact h.symm
  · rename_i h
    rcases Nat.lt_or_ge (2 * r + t) b with h3 | h3
    · exact absurd (Nat.mod_eq_of_lt h3) h
    · rw [Nat.mod_eq_sub_mod h3, Nat.mod_eq_of_lt (by omega)]
      omega
theorem over_quot (a b i : Nat) (hb : 0 < b) : a / 2 ^ i / b = 2 * (a / 2 ^ (i + 1) / b) + (if b ≤ 2 * (a / 2 ^ (i + 1) % b) + bitAt a i then 1 else 0) ∧
    a / 2 ^ i % b = 2 * (a / 2 ^ (i + 1) % b) + bitAt a i - (if b ≤ 2 * (a / 2 ^ (i + 1) % b) + bitAt a i then b else 0) := by
  have e : a / 2 ^ i = 2 * (a / 2 ^ (i + 1)) + bitAt a i := by
    unfold bitAt
    rw [Nat.pow_succ, ← Nat.div_div_eq_div_mul]
    omega
  have hbit : bitAt a i < 2 := Nat.mod_lt _ (by omega)
  have h1 := Nat.div_add_mod (a / 2 ^ (i + 1)) b
  have h2 : a / 2 ^ (i + 1) % b < b := Nat.mod_lt _ hb
  rw [e]
  generalize a / 2 ^ (i + 1) = n at *
  generalize bitAt a i = t at *
  have e3 : 2 * n + t = b * (2 * (n / b)) + (2 * (n % b) + t) := by rw [Nat.mul_left_comm]; omega
  rw [e3, Nat.mul_add_div hb, Nat.mul_add_mod]
  generalize n % b = r at *
  generalize n / b = q at *
  by_cases h : b ≤ 2 * r + t
  · rw [if_pos h, if_pos h]
    have h4 : (2 * r + t) / b = 1 := Nat.div_eq_of_lt_le (by omega) (by omega)
    rw [h4, Nat.mod_eq_sub_mod h, Nat.mod_eq_of_lt (by omega)]
    exact ⟨rfl, rfl⟩
  · rw [if_neg h, if_neg h, Nat.div_eq_of_lt (by omega), Nat.mod_eq_of_lt (by omega)]
    exact ⟨rfl, rfl⟩
/-- A bit of the quotient is laid. -/
theorem q_bit (m i : Nat) : (∀ j, j ≠ i / 16 → dg (m * 2 ^ (i + 1) + 2 ^ i) j = dg (m * 2 ^ (i + 1)) j) ∧ dg (m * 2 ^ (i + 1) + 2 ^ i) (i / 16) = dg (m * 2 ^ (i + 1)) (i / 16) + 2 ^ (i % 16) := by
  have hr : i % 16 < 16 := Nat.mod_lt _ (by omega)
  have hi : i = 16 * (i / 16) + i % 16 := by omega
  generalize i / 16 = K at *
  generalize i % 16 = s at *
  have e0 : (65536 : Nat) ^ K = 2 ^ (16 * K) := by rw [Nat.pow_mul]
  have e1 : (2 : Nat) ^ i = 2 ^ s * 65536 ^ K := by rw [e0, ← Nat.pow_add, hi, Nat.add_comm]
  have e2 : m * 2 ^ (i + 1) = m * 2 ^ (s + 1) * 65536 ^ K := by rw [Nat.pow_succ, e1, Nat.pow_succ]; simp only [Nat.mul_assoc, Nat.mul_comm]
  have hp := pow_pos' K
  have hs : 0 < 2 ^ s := Nat.two_pow_pos s
  have hs2 : 2 ^ (s + 1) = 2 * 2 ^ s := by rw [Nat.pow_succ, Nat.mul_comm]
  have hno : m * 2 ^ (s + 1) % 65536 + 2 ^ s < 65536 := by
    have e3 : (65536 : Nat) = 2 ^ (s + 1) * 2 ^ (15 - s) := by rw [← Nat.pow_add, show s + 1 + (15 - s) = 16 by omega]
    rw [Nat.mul_comm m, e3, Nat.mul_mod_mul_left]
    have h5 : m % 2 ^ (15 - s) + 1 ≤ 2 ^ (15 - s) := Nat.mod_lt _ (Nat.two_pow_pos _)
    have h6 : 2 ^ (s + 1) * (m % 2 ^ (15 - s) + 1) ≤ 2 ^ (s + 1) * 2 ^ (15 - s) := Nat.mul_le_mul_left _ h5
    rw [Nat.mul_add, Nat.mul_one] at h6
    omega
  rw [e1, e2]
  have hd0 : m * 2 ^ (s + 1) * 65536 ^ K / 65536 ^ K = m * 2 ^ (s + 1) := Nat.mul_div_cancel _ hp
  have hd1 : (m * 2 ^ (s + 1) * 65536 ^ K + 2 ^ s * 65536 ^ K) / 65536 ^ K = m * 2 ^ (s + 1) + 2 ^ s := by rw [← Nat.add_mul, Nat.mul_div_cancel _ hp]
  constructor
  · intro j hj
    rcases Nat.lt_or_gt_of_ne hj with h | h
    · exact dg_add_mul _ _ _ _ h
    · obtain ⟨d, rfl⟩ : ∃ d, j = K + 1 + d := ⟨j - K - 1, by omega⟩
      unfold dg
      have e6 : (65536 : Nat) ^ (K + 1 + d) = 65536 ^ K * 65536 * 65536 ^ d := by rw [Nat.pow_add, Nat.pow_succ]
      rw [e6, ← Nat.div_div_eq_div_mul, ← Nat.div_div_eq_div_mul, ← Nat.div_div_eq_div_mul, ← Nat.div_div_eq_div_mul, hd0, hd1]
      have e5 : (m * 2 ^ (s + 1) + 2 ^ s) / 65536 = m * 2 ^ (s + 1) / 65536 := by omega
      rw [e5]
  · unfold dg
    rw [hd0, hd1]
    omega
theorem dg0_even (r t : Nat) (ht : t < 2) : dg (2 * r) 0 + t = dg (2 * r + t) 0 ∧ ∀ j, j ≠ 0 → dg (2 * r) j = dg (2 * r + t) j := by
  constructor
  · unfold dg
    simp only [Nat.pow_zero, Nat.div_one]
    omega
  · intro j hj
    obtain ⟨d, rfl⟩ : ∃ d, j = d + 1 := ⟨j - 1, by omega⟩
    unfold dg
    rw [Nat.pow_succ, Nat.mul_comm (65536 ^ d), ← Nat.div_div_eq_div_mul, ← Nat.div_div_eq_div_mul]
    have : (2 * r + t) / 65536 = 2 * r / 65536 := by omega
    rw [this]
end Go.Proofs.Ytcbopgopegphlaa

namespace Go.Proofs.Ytcbopgopegphlaa
open Go.RowKit
set_option linter.unusedVariables false

theorem results_cells {P : Program} {fn : Func} {p u : Tmp} {ty ty' : TypeId} (h : fn.results = #[.cell p ty, .cell u ty']) (tmps : Array Value) (w : World) (g g' : Nat) (t t' : TypeId) (cs cs' : Array Value) (fr fr' : Nat × Nat) (d d' : TypeDesc)
    (hp : tmps.getD p undef = .pointer (some ⟨g, 0, none⟩)) (hg : w.heap[g]? = some (.cells cs t fr))
    (hu : P.underlying ty = some d) (hd : (match d with | .struct _ | .array _ _ => true | _ => false) = true) (hi : (P.info? ty).map (·.size) = some cs.size)
    (hp2 : tmps.getD u undef = .pointer (some ⟨g', 0, none⟩)) (hg2 : w.heap[g']? = some (.cells cs' t' fr'))
    (hu2 : P.underlying ty' = some d') (hd2 : (match d' with | .struct _ | .array _ _ => true | _ => false) = true) (hi2 : (P.info? ty').map (·.size) = some cs'.size) :
    (results fn tmps).run P w = .ok (.tuple #[.agg cs, .agg cs']) w := by
  have hp' : tmps[p]?.getD undef = .pointer (some ⟨g, 0, none⟩) := by simpa using hp
  have hp2' : tmps[u]?.getD undef = .pointer (some ⟨g', 0, none⟩) := by simpa using hp2
  simp [results, h, hp', hp2', asAddr, run_loadVar_row w g t ty cs fr d hg hu hd hi, run_loadVar_row w g' t' ty' cs' fr' d' hg2 hu2 hd2 hi2]
theorem heap_lt {w : World} {g : Nat} {o : Obj} (h : w.heap[g]? = some o) : g < w.heap.size := by
  rcases Nat.lt_or_ge g w.heap.size with h2 | h2
  · exact h2
  · rw [Array.getElem?_eq_none h2] at h; cases h
end Go.Proofs.Ytcbopgopegphlaa

namespace Go.Proofs.Ytcbopgopegphlaa
open Go.RowKit
set_option linter.unusedVariables false

theorem step_load_row {P : Program} {ops : Array Oper} {o : Oper} {a : Act} {w : World} {K : Act → World → Prop} {Q : Exit → Act → World → Prop} {E : Prop} (hgd : o.guard = none) (ty : TypeId) (x : Operand) (ho : o.op = .load ty x)
    (g : Nat) (hx : a.eval x = .pointer (some ⟨g, 0, none⟩)) (t : TypeId) (cs : Array Value) (fr : Nat × Nat) (d : TypeDesc) (hg : w.heap[g]? = some (.cells cs t fr))
    (hu : P.underlying ty = some d) (hd : (match d with | .struct _ | .array _ _ => true | _ => false) = true) (hi : (P.info? ty).map (·.size) = some cs.size)
    (h : K (a.put o.dst (.agg cs)) w) : if Region.wanted o (yielded ops a.tmps) = true then Oper.wp P o a w K Q else E := by
  have hw : Region.wanted o (yielded ops a.tmps) = true := by simp [Region.wanted, hgd]
  rw [if_pos hw]
  exact wp_load_row ty x ho g hx t cs fr d hg hu hd hi h
theorem step_store_row {P : Program} {ops : Array Oper} {o : Oper} {a : Act} {w : World} {K : Act → World → Prop} {Q : Exit → Act → World → Prop} {E : Prop} (hgd : o.guard = none) (ty : TypeId) (x y : Operand) (ho : o.op = .store ty x y)
    (g : Nat) (cells : Array Value) (hx : a.eval x = .pointer (some ⟨g, 0, none⟩)) (hy : a.eval y = .agg cells)
    (t : TypeId) (old : Array Value) (hg : w.heap[g]? = some (.cells old t (0, 0))) (hi : (P.info? ty).map (·.size) = some cells.size)
    (hold : old.size = cells.size) (h1 : cells.all (·.oneCell') = true)
    (h : K (a.put o.dst undef) (w.setRow g cells)) : if Region.wanted o (yielded ops a.tmps) = true then Oper.wp P o a w K Q else E := by
  have hw : Region.wanted o (yielded ops a.tmps) = true := by simp [Region.wanted, hgd]
  rw [if_pos hw]
  exact wp_store_row ty x y ho g cells hx hy t old hg hi hold h1 h
theorem over_next (i : Nat) (hi : i < 320) : (∃ j : Nat, j < 320 ∧ Value.int .i64 ((i : Int) - 1) = .int .i64 (j : Int) ∧ i = j + 1) ∨ (Value.int .i64 ((i : Int) - 1) = .int .i64 (-1) ∧ i = 0) := by
  rcases i with _ | j
  · exact .inr ⟨rfl, rfl⟩
  · exact .inl ⟨j, by omega, by congr 1; omega, rfl⟩
end Go.Proofs.Ytcbopgopegphlaa
