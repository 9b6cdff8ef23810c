/-
  Interest of whatever numbers; what an array of two integers gives the walk. No statement is proved here.
-/
import Derived.ProofKit
import Derived.OpenShut
import Derived.ChangeOld
import Derived.Laws.IdiomArrays
import Derived.Test.YtjniclalobggpaaDoorAmN11
import Derived.Test.YtjniclalobggpaaDoorAmMD
namespace Go.Proofs.YtjniclalobggpaaDoor
open Go.ChangeShapes Go.WideShapes Go.ChangeAt Go.RowKit
set_option linter.unusedVariables false

theorem interest_out (p rate num den : Int) (h : p < -1000000000000000 ∨ 1000000000000000 < p ∨ rate < 0 ∨ 1000000000 < rate ∨ num < 0 ∨ 10000000 < num ∨ den < 1 ∨ 366 < den) : interestOf p rate num den = (0, 2) := by
  unfold interestOf
  rw [if_pos h]
set_option maxHeartbeats 1000000 in
theorem Interest_any (p rate num den : Int) (w : World) :
    Calls Tryd.prog 14 #[.int .i64 p, .int .i64 rate, .int .i64 num, .int .i64 den] w fun e w' => e = .returned (.tuple #[.int .i64 (interestOf p rate num den).1, .int .i64 (interestOf p rate num den).2]) ∧ Below w.heap.size w w' := by
  have OU := Lib.hid (fun v lo hi w => outside_any v lo hi w)
  by_cases h1 : p < -1000000000000000 ∨ 1000000000000000 < p
  · rw [interest_out p rate num den (by omega)]
    go_enter Tryd.func14, Tryd.ntmps14
    go_wp2_with fail
    refine (OU.out p (-1000000000000000) 1000000000000000 w).mono ?_
    rintro e w' ⟨rfl, rfl⟩
    rw [show (decide (p < -1000000000000000) || decide (1000000000000000 < p)) = true by simp; omega]
    go_wp2
    go_ret2
    exact ⟨rfl, Below.refl _ _⟩
  by_cases h2 : rate < 0 ∨ 1000000000 < rate
  · rw [interest_out p rate num den (by omega)]
    go_enter Tryd.func14, Tryd.ntmps14
    go_wp2_with fail
    refine (OU.out p (-1000000000000000) 1000000000000000 w).mono ?_
    rintro e w' ⟨rfl, rfl⟩
    rw [show (decide (p < -1000000000000000) || decide (1000000000000000 < p)) = false by simp; omega]
    go_wp2_with fail
    refine (OU.out rate 0 1000000000 w').mono ?_
    rintro e w' ⟨rfl, rfl⟩
    rw [show (decide (rate < 0) || decide (1000000000 < rate)) = true by simp; omega]
    go_wp2
    go_ret2
    exact ⟨rfl, Below.refl _ _⟩
  by_cases h3 : num < 0 ∨ 10000000 < num
  · rw [interest_out p rate num den (by omega)]
    go_enter Tryd.func14, Tryd.ntmps14
    go_wp2_with fail
    refine (OU.out p (-1000000000000000) 1000000000000000 w).mono ?_
    rintro e w' ⟨rfl, rfl⟩
    rw [show (decide (p < -1000000000000000) || decide (1000000000000000 < p)) = false by simp; omega]
    go_wp2_with fail
    refine (OU.out rate 0 1000000000 w').mono ?_
    rintro e w' ⟨rfl, rfl⟩
    rw [show (decide (rate < 0) || decide (1000000000 < rate)) = false by simp; omega]
    go_wp2_with fail
    refine (OU.out num 0 10000000 _).mono ?_
    rintro e w' ⟨rfl, rfl⟩
    rw [show (decide (num < 0) || decide (10000000 < num)) = true by simp; omega]
    go_wp2
    go_ret2
    exact ⟨rfl, Below.refl _ _⟩
  by_cases h4 : den < 1 ∨ 366 < den
  · rw [interest_out p rate num den (by omega)]
    go_enter Tryd.func14, Tryd.ntmps14
    go_wp2_with fail
    refine (OU.out p (-1000000000000000) 1000000000000000 w).mono ?_
    rintro e w' ⟨rfl, rfl⟩
    rw [show (decide (p < -1000000000000000) || decide (1000000000000000 < p)) = false by simp; omega]
    go_wp2_with fail
    refine (OU.out rate 0 1000000000 w').mono ?_
    rintro e w' ⟨rfl, rfl⟩
    rw [show (decide (rate < 0) || decide (1000000000 < rate)) = false by simp; omega]
    go_wp2_with fail
    refine (OU.out num 0 10000000 _).mono ?_
    rintro e w' ⟨rfl, rfl⟩
    rw [show (decide (num < 0) || decide (10000000 < num)) = false by simp; omega]
    go_wp2_with fail
    refine (OU.out den 1 366 _).mono ?_
    rintro e w' ⟨rfl, rfl⟩
    rw [show (decide (den < 1) || decide (366 < den)) = true by simp; omega]
    go_wp2
    go_ret2
    exact ⟨rfl, Below.refl _ _⟩
  have hA : p.natAbs ≤ 1000000000000000 := by omega
  have hB : rate.natAbs ≤ 1000000000 := by omega
  have hC : num.natAbs ≤ 10000000 := by omega
  have hP1 : p.natAbs * rate.natAbs ≤ 1000000000000000 * 1000000000 := Nat.mul_le_mul hA hB
  have hP : p.natAbs * rate.natAbs * num.natAbs ≤ 1000000000000000 * 1000000000 * 10000000 := Nat.mul_le_mul hP1 hC
  exact Interest_of p rate num den w (by omega) (by omega) (by omega) (by omega) (by omega) (by omega) (by omega) (by omega) fun h => Div64_any _ _ _ h (Nat.mod_lt _ (by omega)) (by omega)
section
variable {H : Type} {enc : TypeId × Value → H} {w : World} {base : Nat} {spare : Nat → Bool} {held : Bool}
set_option maxRecDepth 100000 in
theorem open_two {r : Reach} {b0 : Nat} {v : Value} {d : DataW H} {p : List MemPlace} (hv : Value.okWide Tryd.prog w r b0 29 v) (h : DataW.Trod enc Tryd.prog w base spare held 29 v d p) :
    ∃ x y : Int, v = .agg #[.int .i64 x, .int .i64 y] ∧ (-9223372036854775808 ≤ x ∧ x ≤ 9223372036854775807) ∧ (-9223372036854775808 ≤ y ∧ y ≤ 9223372036854775807) := by
  have hu := Tryd.underlying29
  simp only [Value.okWide, hu] at hv
  obtain ⟨cs, rfl, hsz, _⟩ := hv
  have hc : Tryd.prog.cellsOf 29 = 2 := by kernel_rfl
  rw [hc] at hsz
  obtain ⟨ls⟩ := cs
  match ls, hsz with
  | [c0, c1], _ =>
    obtain ⟨fuel, hf⟩ := h
    obtain ⟨xs, m, _, _, _, hx, hg⟩ := DataW.trod_array hu hf
    have he : Tryd.prog.cellsOf 2 = 1 := by kernel_rfl
    have g0 := hg 0 (by omega)
    have g1 := hg 1 (by omega)
    rw [he] at g0 g1
    match xs, hx with
    | [y0, y1], _ =>
      obtain ⟨a, ha, _, wa⟩ := DataW.trod_int Tryd.underlying2 g0
      obtain ⟨b, hb, _, wb⟩ := DataW.trod_int Tryd.underlying2 g1
      have ha' : c0 = .int .i64 a := List.cons.inj ha |>.1
      have hb' : c1 = .int .i64 b := List.cons.inj hb |>.1
      subst ha' hb'
      exact ⟨a, b, rfl, by simpa [Lit.wf, IntKind.min, IntKind.max, IntKind.signed, IntKind.bits] using wa, by simpa [Lit.wf, IntKind.min, IntKind.max, IntKind.signed, IntKind.bits] using wb⟩
end
end Go.Proofs.YtjniclalobggpaaDoor
