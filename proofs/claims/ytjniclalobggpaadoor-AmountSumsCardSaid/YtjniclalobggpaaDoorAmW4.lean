/-
  The walk of times. No statement is proved here.
-/
import Derived.Laws.Externs
import Derived.Shelf.Spec.BitsCarry
import Derived.Test.YtjniclalobggpaaDoorAmW3
namespace Go.Proofs.YtjniclalobggpaaDoor
open Go.RowKit Go.Shelf
set_option linter.unusedVariables false

theorem add64_0 (x y : Nat) (w : World) : (callFunc 55 #[.int .u64 x, .int .u64 y, .int .u64 0]).run Tryd.prog w =
    .ok (.value (.tuple #[.int .u64 ((x + y) % 18446744073709551616 : Nat), .int .u64 ((x + y) / 18446744073709551616 : Nat)])) w := by
  rw [run_callFunc_extern Tryd.func55 (by kernel_rfl) (by kernel_rfl) (by kernel_rfl) (e := add64Entry) (by kernel_rfl), run_add64 x y 0 (by omega) (by omega) (by omega) (by omega)]
  simp only [Result.andThen]
  congr 5 <;> omega
theorem results_cell2 {P : Program} {fn : Func} {p u : Tmp} {ty : TypeId} (h : fn.results = #[.cell p ty, .tmp u]) (tmps : Array Value) (w : World) (g : Nat) (t : TypeId) (cs : Array Value) (fr : Nat × Nat) (d : TypeDesc)
    (hp : tmps.getD p undef = .pointer (some ⟨g, 0, none⟩)) (hg : w.heap[g]? = some (.cells cs t fr))
    (hu : P.underlying ty = some d) (hd : (match d with | .struct _ | .array _ _ => true | _ => false) = true) (hi : (P.info? ty).map (·.size) = some cs.size) :
    (results fn tmps).run P w = .ok (.tuple #[.agg cs, tmps.getD u undef]) w := by
  have hp' : tmps[p]?.getD undef = .pointer (some ⟨g, 0, none⟩) := by simpa using hp
  simp [results, h, hp', asAddr, run_loadVar_row w g t ty cs fr d hg hu hd hi]
/-- A number as two words. -/
def wide (n : Nat) : Value := .agg #[.int .u64 (n / 18446744073709551616 : Nat), .int .u64 (n % 18446744073709551616 : Nat)]
theorem times_law (hi lo v : Nat) (h : wd hi lo * v < 340282366920938463463374607431768211456) : hi * v < 18446744073709551616 ∧ lo * v / 18446744073709551616 + hi * v < 18446744073709551616 ∧
    wd hi lo * v / 18446744073709551616 = lo * v / 18446744073709551616 + hi * v ∧ wd hi lo * v % 18446744073709551616 = lo * v % 18446744073709551616 := by
  have e : wd hi lo * v = hi * v * 18446744073709551616 + lo * v := by
    unfold wd
    rw [Nat.add_mul, Nat.mul_right_comm]
  rw [e] at h ⊢
  generalize hi * v = a at *
  generalize lo * v = b at *
  omega
set_option maxHeartbeats 1000000 in
theorem times_ok (hi lo v : Nat) (w : World) (h0 : hi < 18446744073709551616) (h1 : lo < 18446744073709551616) (h2 : v < 18446744073709551616) (h : wd hi lo * v < 340282366920938463463374607431768211456) :
    Calls Tryd.prog 37 #[.agg #[.int .u64 hi, .int .u64 lo], .int .u64 v] w fun e w' => e = .returned (.tuple #[wide (wd hi lo * v), .bool true]) ∧ Below w.heap.size w w' := by
  obtain ⟨k1, k2, k3, k4⟩ := times_law hi lo v h
  unfold wide
  rw [k3, k4]
  have M1 := Lib.hid (fun w => mul_any lo v w h1 h2)
  have M2 := Lib.hid (fun w => mul_any hi v w h0 h2)
  have e1 : hi * v / 18446744073709551616 = 0 := by omega
  have e2 : hi * v % 18446744073709551616 = hi * v := by omega
  rw [e1, e2] at M2
  have A := fun w => add64_0 (lo * v / 18446744073709551616) (hi * v) w
  rw [show (lo * v / 18446744073709551616 + hi * v) / 18446744073709551616 = 0 by omega, show (lo * v / 18446744073709551616 + hi * v) % 18446744073709551616 = lo * v / 18446744073709551616 + hi * v by omega] at A
  generalize lo * v / 18446744073709551616 + hi * v = top at *
  generalize lo * v / 18446744073709551616 = t1 at *
  generalize lo * v % 18446744073709551616 = l1 at *
  generalize hi * v = t2 at *
  clear h e1 e2 k1 k3 k4
  go_enter Tryd.func37, Tryd.ntmps37
  go_wp2_with fail
  refine (M1.out _).mono ?_
  rintro e w' ⟨rfl, rfl⟩
  go_wp2_with fail
  refine (M2.out _).mono ?_
  rintro e w' ⟨rfl, rfl⟩
  go_wp2
  refine bodyPost_ret (results_cell2 (fn := Tryd.f37) rfl _ _ (w.heap.size + 1) 54 _ (0, 0) _ rfl (by rw [← World.size_alloc w]; exact heap_alloc_new _ _) Tryd.underlying54 rfl (by kernel_rfl)) rfl ⟨rfl, ((Below.refl _ _).alloc (Nat.le_refl _) _).alloc (by simp) _⟩
/-- What Interest answers. -/
def interestOf (p rate num den : Int) : Int × Int :=
  if p < -1000000000000000 ∨ 1000000000000000 < p ∨ rate < 0 ∨ 1000000000 < rate ∨ num < 0 ∨ 10000000 < num ∨ den < 1 ∨ 366 < den then (0, 2)
  else overOf (p.natAbs * rate.natAbs * num.natAbs) (1000000000 * den.natAbs) (decide (p < 0))
set_option maxHeartbeats 400000 in
theorem outside_any (v lo hi : Int) (w : World) :
    Calls Tryd.prog 36 #[.int .i64 v, .int .i64 lo, .int .i64 hi] w fun e w' => e = .returned (.bool (decide (v < lo) || decide (hi < v))) ∧ w' = w := by
  by_cases h : v < lo
  · rw [decide_eq_true h, Bool.true_or]
    go_enter Tryd.func36, Tryd.ntmps36
    go_wp2
    go_ret
    exact ⟨rfl, rfl⟩
  · rw [decide_eq_false h, Bool.false_or]
    go_enter Tryd.func36, Tryd.ntmps36
    go_wp2
    go_ret
    exact ⟨rfl, rfl⟩
set_option maxHeartbeats 2000000 in
theorem Interest_of (p rate num den : Int) (w : World) (p0 : -1000000000000000 ≤ p) (p1 : p ≤ 1000000000000000) (r0 : 0 ≤ rate) (r1 : rate ≤ 1000000000) (n0 : 0 ≤ num) (n1 : num ≤ 10000000) (d0 : 1 ≤ den) (d1 : den ≤ 366)
    (HD : p.natAbs * rate.natAbs * num.natAbs / 18446744073709551616 < 1000000000 * den.natAbs → DivAt (p.natAbs * rate.natAbs * num.natAbs / 18446744073709551616) (p.natAbs * rate.natAbs * num.natAbs % 18446744073709551616) (1000000000 * den.natAbs)) :
    Calls Tryd.prog 14 #[.int .i64 p, .int .i64 rate, .int .i64 num, .int .i64 den] w fun e w' => e = .returned (.tuple #[.int .i64 (interestOf p rate num den).1, .int .i64 (interestOf p rate num den).2]) ∧ Below w.heap.size w w' := by
  obtain ⟨r, rfl⟩ := Int.eq_ofNat_of_zero_le r0
  obtain ⟨n, rfl⟩ := Int.eq_ofNat_of_zero_le n0
  obtain ⟨d, rfl⟩ := Int.eq_ofNat_of_zero_le (show 0 ≤ den by omega)
  have HDef : interestOf p r n d = overOf (p.natAbs * r * n) (1000000000 * d) (decide (p < 0)) := by
    unfold interestOf
    rw [if_neg (by omega)]
    rfl
  rw [HDef]
  clear HDef
  have e1 : (r : Int).natAbs = r := rfl
  have e2 : (n : Int).natAbs = n := rfl
  have e3 : (d : Int).natAbs = d := rfl
  rw [e1, e2, e3] at HD
  have SP := Lib.hid (fun w => size_any p w (by omega) (by omega))
  have hP : p.natAbs ≤ 1000000000000000 := by omega
  generalize p.natAbs = P at *
  have hPr : P * r ≤ 1000000000000000 * 1000000000 := Nat.mul_le_mul hP (by omega)
  have hPrn : P * r * n ≤ 1000000000000000 * 1000000000 * 10000000 := Nat.mul_le_mul hPr (by omega)
  have z0 : wd 0 P = P := wd_zero P
  have T1 := Lib.hid (fun w => times_ok 0 P r w (by omega) (by omega) (by omega) (by rw [z0]; omega))
  rw [z0] at T1
  have T2 := Lib.hid (fun w => times_ok (P * r / 18446744073709551616) (P * r % 18446744073709551616) n w (by omega) (Nat.mod_lt _ (by omega)) (by omega) (by rw [wd_split]; omega))
  rw [wd_split] at T2
  have OV := Lib.hid (fun m w => over_of (P * r * n / 18446744073709551616) (P * r * n % 18446744073709551616) (1000000000 * d) m w (by omega) (Nat.mod_lt _ (by omega)) (by omega) (by omega) HD)
  rw [wd_split] at OV
  unfold wide at T1 T2
  have OU := Lib.hid outside_any
  clear HD z0
  generalize overOf (P * r * n) (1000000000 * d) = ov at *
  have hd : (1000000000 : Int) * (d : Int) = ((1000000000 * d : Nat) : Int) := by omega
  have hdl : 1000000000 * d < 18446744073709551616 := by omega
  generalize 1000000000 * d = dd at *
  generalize P * r * n / 18446744073709551616 = a2 at *
  generalize P * r * n % 18446744073709551616 = b2 at *
  generalize P * r / 18446744073709551616 = a1 at *
  generalize P * r % 18446744073709551616 = b1 at *
  clear hPr hPrn
  go_enter Tryd.func14, Tryd.ntmps14
  go_wp2_with fail
  refine (OU.out p (-1000000000000000) 1000000000000000 w).mono ?_
  rintro e w' ⟨rfl, rfl⟩
  rw [show (decide (p < -1000000000000000) || decide (1000000000000000 < p)) = false by simp; omega]
  go_wp2_with fail
  refine (OU.out r 0 1000000000 w').mono ?_
  rintro e w' ⟨rfl, rfl⟩
  rw [show (decide ((r : Int) < 0) || decide (1000000000 < (r : Int))) = false by simp; omega]
  go_wp2_with fail
  refine (OU.out n 0 10000000 _).mono ?_
  rintro e w' ⟨rfl, rfl⟩
  rw [show (decide ((n : Int) < 0) || decide (10000000 < (n : Int))) = false by simp; omega]
  go_wp2_with fail
  refine (OU.out d 1 366 _).mono ?_
  rintro e w' ⟨rfl, rfl⟩
  rw [show (decide ((d : Int) < 1) || decide (366 < (d : Int))) = false by simp; omega]
  go_wp2_with fail
  refine (SP.out _).mono ?_
  rintro e w' ⟨rfl, rfl⟩
  go_wp2_with fail
  refine (T1.out _).mono ?_
  rintro e w1 ⟨rfl, hb1⟩
  go_wp2_with fail
  refine (T2.out _).mono ?_
  rintro e w2 ⟨rfl, hb2⟩
  have hg : w2.heap[w1.heap.size]? = some (.cells #[.int .u64 (a1 : Int), .int .u64 (b1 : Int)] 54 (0, 0)) := (hb2.block _ (by simp)).trans (heap_alloc_new w1 _)
  have c0 : w2.cell? ⟨w1.heap.size, 0, none⟩ = some (.int .u64 (a1 : Int)) := by rw [cell_of_row _ _ _ _ _ _ hg]; rfl
  have c1 : w2.cell? ⟨w1.heap.size, 1, none⟩ = some (.int .u64 (b1 : Int)) := by rw [cell_of_row _ _ _ _ _ _ hg]; rfl
  have f0 := frozen_of_row _ _ 0 _ _ hg
  have f1 := frozen_of_row _ _ 1 _ _ hg
  have hb02 : Below w'.heap.size w' w2 := (hb1.alloc hb1.size _).trans (hb2.mono (by have := hb1.size; simp; omega))
  have hb03 : Below w'.heap.size w' ((w2.setCell ⟨w1.heap.size, 0, none⟩ (.int .u64 (a2 : Int))).setCell ⟨w1.heap.size, 1, none⟩ (.int .u64 (b2 : Int))) := (hb02.setCell hb1.size _).setCell hb1.size _
  clear hg
  go_wp2_with fail
  refine (OV.out _ _).mono ?_
  rintro e w3 ⟨rfl, hb3⟩
  go_wp2
  go_ret2
  exact ⟨rfl, hb03.trans (hb3.mono hb03.size)⟩
end Go.Proofs.YtjniclalobggpaaDoor
