/-
  Joined texts: AmN9 AmN10 AmN11 AmI. No statement is proved here.
-/
import Derived.Deep.RegionHeld3
import Derived.Deep.MidRow
import Derived.Test.YtcbopgopegphlaaAmCC
import Derived.Test.YtcbopgopegphlaaAmB
import Derived.Test.YtcbopgopegphlaaAmA
import Derived.ProofKit
import Derived.OpenShut
import Derived.ChangeOld
import Derived.Laws.IdiomArrays
namespace Go.Proofs.Ytcbopgopegphlaa
open Go.RowKit
set_option linter.unusedVariables false

theorem below3 (w : World) (a b c : Obj) : Below w.heap.size w (((w.alloc a).alloc b).alloc c) :=
  (((Below.refl _ _).alloc (Nat.le_refl _) _).alloc (by simp) _).alloc (by (simp) <;> omega) _
theorem yields_row {P : Program} {ops : Array Oper} {S : World → Prop} {op : Oper} {a : Act} (hw : Region.wanted op (yielded ops a.tmps) = true) (ty : TypeId) (x : Operand) (ho : op.op = .load ty x)
    (g : Nat) (hx : a.eval x = .pointer (some ⟨g, 0, none⟩)) (t : TypeId) (cs : Array Value) (fr : Nat × Nat) (d : TypeDesc) (hS : ∀ w, S w → w.heap[g]? = some (.cells cs t fr))
    (hu : P.underlying ty = some d) (hd : (match d with | .struct _ | .array _ _ => true | _ => false) = true) (hi : (P.info? ty).map (·.size) = some cs.size) : YieldsIf P ops S op (.agg cs) a :=
  .inl ⟨hw, fun w hw' => by
    unfold execOp
    simp only [ho, hx, Instr.loadAt, Instr.sureAddr, Sem.run_bind, Sem.run_pure, Result.andThen_ok, run_loadVar_row w g t ty cs fr d (hS w hw') hu hd hi]⟩
end Go.Proofs.Ytcbopgopegphlaa

namespace Go.Proofs.Ytcbopgopegphlaa
open Go.RowKit
set_option linter.unusedVariables false

theorem dg_unroll (n j : Nat) : n / 65536 ^ j = dg n j + 65536 * (n / 65536 ^ (j + 1)) := by
  unfold dg
  rw [Nat.pow_succ, ← Nat.div_div_eq_div_mul]
  omega
theorem dg_high (n : Nat) (hn : n < 65536 ^ 20) (h : ∀ j, 4 ≤ j → j < 20 → dg n j = 0) : n < 18446744073709551616 := by
  have key : ∀ k, k ≤ 16 → n / 65536 ^ (20 - k) = 0 := by
    intro k
    induction k with
    | zero => intro _; exact Nat.div_eq_of_lt hn
    | succ k ih =>
      intro hk
      rw [dg_unroll, h (20 - (k + 1)) (by omega) (by omega), show 20 - (k + 1) + 1 = 20 - k by omega, ih (by omega)]
  have h4 := key 16 (by omega)
  have e : (65536 : Nat) ^ (20 - 16) = 18446744073709551616 := by decide
  rw [e] at h4
  omega
theorem dg_nonzero (n j : Nat) (hj : 4 ≤ j) (h : dg n j ≠ 0) : 9223372036854775808 < n := by
  rcases Nat.lt_or_ge n (65536 ^ 4) with h2 | h2
  · exact absurd (dg_far n 4 j h2 hj) h
  · have e : (65536 : Nat) ^ 4 = 18446744073709551616 := by decide
    omega
theorem dg_four (n : Nat) (hn : n < 18446744073709551616) : n = dg n 0 + 65536 * (dg n 1 + 65536 * (dg n 2 + 65536 * dg n 3)) := by
  have h0 := dg_unroll n 0
  have h1 := dg_unroll n 1
  have h2 := dg_unroll n 2
  have h3 := dg_unroll n 3
  have e : n / 65536 ^ (3 + 1) = 0 := Nat.div_eq_of_lt hn
  rw [e] at h3
  rw [Nat.pow_zero, Nat.div_one] at h0
  simp only [Nat.zero_add] at h0
  omega
theorem sgn_ok (q : Nat) (m : Bool) : (sgn q m).2 = 0 ∨ sgn q m = (0, 4) := by
  unfold sgn
  split <;> split <;> simp
end Go.Proofs.Ytcbopgopegphlaa

namespace Go.Proofs.Ytcbopgopegphlaa
open Go.RowKit
set_option linter.unusedVariables false

theorem evenDiv_le (n d : Nat) : evenDiv n d ≤ n + 1 := by
  rw [evenDiv_eq]
  have := Nat.div_le_self n d
  split <;> omega
theorem pow20_big : (1461501637330902918203684832716283019655932542975 : Nat) < 65536 ^ 20 := by decide +kernel
theorem sgn_tuple (q : Nat) (m : Bool) : sgn q m = if decide ((sgn q m).2 = 0) = true then ((sgn q m).1, 0) else (0, 4) := by
  unfold sgn
  split <;> split <;> simp
end Go.Proofs.Ytcbopgopegphlaa

namespace Go.Proofs.Ytcbopgopegphlaa
open Go.ChangeShapes Go.WideShapes Go.ChangeAt Go.RowKit
set_option linter.unusedVariables false

theorem interest_out (p rate num den : Int) (h : p < -1000000000000000 ∨ 1000000000000000 < p ∨ rate < 0 ∨ 1000000000 < rate ∨ num < 0 ∨ 10000000 < num ∨ den < 1 ∨ 366 < den) : interestOf p rate num den = (0, 2) := by
  unfold interestOf
  rw [if_pos h]
set_option maxHeartbeats 1000000 in
theorem Interest_any (p rate num den : Int) (w : World) :
    Calls Try.prog 45 #[.int .i64 p, .int .i64 rate, .int .i64 num, .int .i64 den] w fun e w' => e = .returned (.tuple #[.int .i64 (interestOf p rate num den).1, .int .i64 (interestOf p rate num den).2]) ∧ Below w.heap.size w w' := by
  have OU := Lib.hid (fun v lo hi w => outside_any v lo hi w)
  by_cases h1 : p < -1000000000000000 ∨ 1000000000000000 < p
  · rw [interest_out p rate num den (by omega)]
    go_enter Try.func45, Try.ntmps45
    go_wp2_with fail
    refine (OU.out p (-1000000000000000) 1000000000000000 w).mono ?_
    rintro e w' ⟨rfl, rfl⟩
    rw [show (decide (p < -1000000000000000) || decide (1000000000000000 < p)) = true by simp; omega]
    go_wp2
    go_ret2
    exact ⟨rfl, Below.refl _ _⟩
  by_cases h2 : rate < 0 ∨ 1000000000 < rate
  · rw [interest_out p rate num den (by omega)]
    go_enter Try.func45, Try.ntmps45
    go_wp2_with fail
    refine (OU.out p (-1000000000000000) 1000000000000000 w).mono ?_
    rintro e w' ⟨rfl, rfl⟩
    rw [show (decide (p < -1000000000000000) || decide (1000000000000000 < p)) = false by simp; omega]
    go_wp2_with fail
    refine (OU.out rate 0 1000000000 w').mono ?_
    rintro e w' ⟨rfl, rfl⟩
    rw [show (decide (rate < 0) || decide (1000000000 < rate)) = true by simp; omega]
    go_wp2
    go_ret2
    exact ⟨rfl, Below.refl _ _⟩
  by_cases h3 : num < 0 ∨ 10000000 < num
  · rw [interest_out p rate num den (by omega)]
    go_enter Try.func45, Try.ntmps45
    go_wp2_with fail
    refine (OU.out p (-1000000000000000) 1000000000000000 w).mono ?_
    rintro e w' ⟨rfl, rfl⟩
    rw [show (decide (p < -1000000000000000) || decide (1000000000000000 < p)) = false by simp; omega]
    go_wp2_with fail
    refine (OU.out rate 0 1000000000 w').mono ?_
    rintro e w' ⟨rfl, rfl⟩
    rw [show (decide (rate < 0) || decide (1000000000 < rate)) = false by simp; omega]
    go_wp2_with fail
    refine (OU.out num 0 10000000 _).mono ?_
    rintro e w' ⟨rfl, rfl⟩
    rw [show (decide (num < 0) || decide (10000000 < num)) = true by simp; omega]
    go_wp2
    go_ret2
    exact ⟨rfl, Below.refl _ _⟩
  by_cases h4 : den < 1 ∨ 366 < den
  · rw [interest_out p rate num den (by omega)]
    go_enter Try.func45, Try.ntmps45
    go_wp2_with fail
    refine (OU.out p (-1000000000000000) 1000000000000000 w).mono ?_
    rintro e w' ⟨rfl, rfl⟩
    rw [show (decide (p < -1000000000000000) || decide (1000000000000000 < p)) = false by simp; omega]
    go_wp2_with fail
    refine (OU.out rate 0 1000000000 w').mono ?_
    rintro e w' ⟨rfl, rfl⟩
    rw [show (decide (rate < 0) || decide (1000000000 < rate)) = false by simp; omega]
    go_wp2_with fail
    refine (OU.out num 0 10000000 _).mono ?_
    rintro e w' ⟨rfl, rfl⟩
    rw [show (decide (num < 0) || decide (10000000 < num)) = false by simp; omega]
    go_wp2_with fail
    refine (OU.out den 1 366 _).mono ?_
    rintro e w' ⟨rfl, rfl⟩
    rw [show (decide (den < 1) || decide (366 < den)) = true by simp; omega]
    go_wp2
    go_ret2
    exact ⟨rfl, Below.refl _ _⟩
  have hA : p.natAbs ≤ 1000000000000000 := by omega
  have hB : rate.natAbs ≤ 1000000000 := by omega
  have hC : num.natAbs ≤ 10000000 := by omega
  have hP1 : p.natAbs * rate.natAbs ≤ 1000000000000000 * 1000000000 := Nat.mul_le_mul hA hB
  have hP : p.natAbs * rate.natAbs * num.natAbs ≤ 1000000000000000 * 1000000000 * 10000000 := Nat.mul_le_mul hP1 hC
  exact Interest_of p rate num den w (by omega) (by omega) (by omega) (by omega) (by omega) (by omega) (by omega) (by omega) fun h => Div64_any _ _ _ h (Nat.mod_lt _ (by omega)) (by omega)
section
variable {H : Type} {enc : TypeId × Value → H} {w : World} {base : Nat} {spare : Nat → Bool} {held : Bool}
end
end Go.Proofs.Ytcbopgopegphlaa
