/-
  The statement's own comparison of two products (below), where it says yes. No statement is proved here.
-/
import Derived.Test.YtjniclalobggpaaDoorAmN8
import Derived.Test.YtjniclalobggpaaDoorAmN11
namespace Go.Proofs.YtjniclalobggpaaDoor
open Go.RowKit
set_option linter.unusedVariables false
theorem wpList_load_row_if {P : Program} {ops : Array Oper} {rest : List Oper} {o : Oper} {a : Act} {w : World} {Q : Exit → Act → World → Prop} (hw : Region.wanted o (yielded ops a.tmps) = true) (ty : TypeId) (x : Operand) (ho : o.op = .load ty x)
    (g : Nat) (hx : a.eval x = .pointer (some ⟨g, 0, none⟩)) (t : TypeId) (cs : Array Value) (fr : Nat × Nat) (d : TypeDesc) (hg : w.heap[g]? = some (.cells cs t fr))
    (hu : P.underlying ty = some d) (hd : (match d with | .struct _ | .array _ _ => true | _ => false) = true) (hi : (P.info? ty).map (·.size) = some cs.size)
    (h : wpList P ops Q rest (a.put o.dst (.agg cs)) w) : wpList P ops Q (o :: rest) a w :=
  wpList_step fun K hK => by rw [if_pos hw]; exact wp_load_row ty x ho g hx t cs fr d hg hu hd hi (hK _ _ h)
/-- Where below says yes: the lesser one below nought, the other not so far below; or both not below nought. -/
def BelowP (a b c d : Int) : Prop := (a < 0 ∧ 0 < b ∧ (0 ≤ c ∨ c.natAbs * d.natAbs < a.natAbs * b.natAbs)) ∨ (0 ≤ a ∧ 0 ≤ c ∧ a.natAbs * b.natAbs < c.natAbs * d.natAbs)
set_option maxRecDepth 100000 in
set_option maxHeartbeats 4000000 in
theorem below_up (a b c d : Int) (w : World) (a0 : -9223372036854775808 ≤ a) (a1 : a ≤ 9223372036854775807) (b0 : -9223372036854775808 ≤ b) (b1 : b ≤ 9223372036854775807) (c0 : -9223372036854775808 ≤ c) (c1 : c ≤ 9223372036854775807) (d0 : -9223372036854775808 ≤ d) (d1 : d ≤ 9223372036854775807) (ha : a < 0) (hb : 0 < b) (hc : 0 ≤ c) :
    Calls Tryd.prog 20 #[.int .i64 a, .int .i64 b, .int .i64 c, .int .i64 d] w fun e w' => e = .returned (.bool true) ∧ Below w.heap.size w w' := by
  have hz := zero20
  have hp20 := pow20_big
  have p1 : a.natAbs * b.natAbs ≤ 9223372036854775808 * 9223372036854775808 := Nat.mul_le_mul (by omega) (by omega)
  have p2 : c.natAbs * d.natAbs ≤ 9223372036854775808 * 9223372036854775808 := Nat.mul_le_mul (by omega) (by omega)
  have SA := Lib.hid fun w => Size_any a w a0 a1
  have SB := Lib.hid fun w => Size_any b w b0 b1
  have SC := Lib.hid fun w => Size_any c w c0 c1
  have SD := Lib.hid fun w => Size_any d w d0 d1
  have TX := Lib.hid fun w => Times_any a.natAbs b.natAbs w (by omega)
  have TY := Lib.hid fun w => Times_any c.natAbs d.natAbs w (by omega)
  have CM := Lib.hid fun w => Cmp_any (a.natAbs * b.natAbs) (c.natAbs * d.natAbs) w (by omega) (by omega)
  have HC := Lib.hid (show cmpOf (a.natAbs * b.natAbs) (c.natAbs * d.natAbs) = if a.natAbs * b.natAbs < c.natAbs * d.natAbs then -1 else if c.natAbs * d.natAbs < a.natAbs * b.natAbs then 1 else 0 from rfl)
  unfold natOf at *
  clear p1 p2 hp20
  generalize a.natAbs * b.natAbs = x at *
  generalize c.natAbs * d.natAbs = y at *
  generalize cmpOf x y = cv at *
  go_enter Tryd.func20, Tryd.ntmps20
  go_wp2_with fail
  refine (SA.out _).mono ?_
  rintro e w1 ⟨rfl, hb1⟩
  go_wp2_with fail
  refine (SB.out _).mono ?_
  rintro e w2 ⟨rfl, hb2⟩
  have hb02 := hb1.trans (hb2.mono hb1.size)
  go_wp2_with fail
  refine (TX.out _).mono ?_
  rintro e w3 ⟨rfl, hb3⟩
  have hb03 := hb02.trans (hb3.mono hb02.size)
  go_wp2_with fail
  refine (SC.out _).mono ?_
  rintro e w4 ⟨rfl, hb4⟩
  have hb04 := hb03.trans (hb4.mono hb03.size)
  go_wp2_with fail
  refine (SD.out _).mono ?_
  rintro e w5 ⟨rfl, hb5⟩
  have hb05 := hb04.trans (hb5.mono hb04.size)
  go_wp2_with fail
  refine (TY.out _).mono ?_
  rintro e w6 ⟨rfl, hb6⟩
  have hb06 := hb05.trans (hb6.mono hb05.size)
  clear hb1 hb2 hb3 hb4 hb5 hb6 hb02 hb03 hb04 hb05 SA SB SC SD TX TY
  have hB := hb06.trans ((((((Below.refl w6.heap.size w6).alloc (Nat.le_refl _) (.cells z20 59)).alloc (by simp) (.cells z20 59)).setRow (Nat.le_refl _) (row20 (dg x))).setRow (g := w6.heap.size + 1) (by omega) (row20 (dg y))).mono hb06.size)
  have A0 : ((w6.alloc (.cells z20 59)).alloc (.cells z20 59)).heap[w6.heap.size]? = _ := heap_alloc2_old w6 _ _
  have A1 : (((w6.alloc (.cells z20 59)).alloc (.cells z20 59)).setRow w6.heap.size (row20 (dg x))).heap[w6.heap.size + 1]? = _ := (setRow_other _ _ _ _ (by omega)).trans (heap_alloc2_new w6 _ _)
  have B0 := (setRow_other _ (w6.heap.size + 1) w6.heap.size (row20 (dg y)) (by omega)).trans (setRow_heap _ _ _ (row20 (dg x)) _ _ A0)
  have B1 := setRow_heap _ _ _ (row20 (dg y)) _ _ A1
  have hBB := Lib.hid hB
  have HB0 := Lib.hid B0
  have HB1 := Lib.hid B1
  clear hB hb06 B0 B1
  go_upto_region 2 with (first | (refine wpList_store_row rfl _ _ _ rfl _ _ rfl rfl _ _ A0 (infoN _) (by rw [row20_size]; rfl) (row20_one _) ?_; clear A0) | (refine wpList_store_row rfl _ _ _ rfl _ _ rfl rfl _ _ A1 (infoN _) (by rw [row20_size]; rfl) (row20_one _) ?_))
  clear A1
  go_wp2_with fail
  go_ret
  exact ⟨rfl, hBB.out⟩
set_option maxRecDepth 100000 in
set_option maxHeartbeats 4000000 in
theorem below_zero (a b c d : Int) (w : World) (a0 : -9223372036854775808 ≤ a) (a1 : a ≤ 9223372036854775807) (b0 : -9223372036854775808 ≤ b) (b1 : b ≤ 9223372036854775807) (c0 : -9223372036854775808 ≤ c) (c1 : c ≤ 9223372036854775807) (d0 : -9223372036854775808 ≤ d) (d1 : d ≤ 9223372036854775807) (ha : a < 0) (hb : 0 < b) (hc : c < 0) (hd : (d == 0) = true) :
    Calls Tryd.prog 20 #[.int .i64 a, .int .i64 b, .int .i64 c, .int .i64 d] w fun e w' => e = .returned (.bool true) ∧ Below w.heap.size w w' := by
  have hz := zero20
  have hp20 := pow20_big
  have p1 : a.natAbs * b.natAbs ≤ 9223372036854775808 * 9223372036854775808 := Nat.mul_le_mul (by omega) (by omega)
  have p2 : c.natAbs * d.natAbs ≤ 9223372036854775808 * 9223372036854775808 := Nat.mul_le_mul (by omega) (by omega)
  have SA := Lib.hid fun w => Size_any a w a0 a1
  have SB := Lib.hid fun w => Size_any b w b0 b1
  have SC := Lib.hid fun w => Size_any c w c0 c1
  have SD := Lib.hid fun w => Size_any d w d0 d1
  have TX := Lib.hid fun w => Times_any a.natAbs b.natAbs w (by omega)
  have TY := Lib.hid fun w => Times_any c.natAbs d.natAbs w (by omega)
  have CM := Lib.hid fun w => Cmp_any (a.natAbs * b.natAbs) (c.natAbs * d.natAbs) w (by omega) (by omega)
  have HC := Lib.hid (show cmpOf (a.natAbs * b.natAbs) (c.natAbs * d.natAbs) = if a.natAbs * b.natAbs < c.natAbs * d.natAbs then -1 else if c.natAbs * d.natAbs < a.natAbs * b.natAbs then 1 else 0 from rfl)
  unfold natOf at *
  clear p1 p2 hp20
  generalize a.natAbs * b.natAbs = x at *
  generalize c.natAbs * d.natAbs = y at *
  generalize cmpOf x y = cv at *
  have hnc : decide (0 ≤ c) = false := decide_eq_false (by omega)
  go_enter Tryd.func20, Tryd.ntmps20
  go_wp2_with fail
  refine (SA.out _).mono ?_
  rintro e w1 ⟨rfl, hb1⟩
  go_wp2_with fail
  refine (SB.out _).mono ?_
  rintro e w2 ⟨rfl, hb2⟩
  have hb02 := hb1.trans (hb2.mono hb1.size)
  go_wp2_with fail
  refine (TX.out _).mono ?_
  rintro e w3 ⟨rfl, hb3⟩
  have hb03 := hb02.trans (hb3.mono hb02.size)
  go_wp2_with fail
  refine (SC.out _).mono ?_
  rintro e w4 ⟨rfl, hb4⟩
  have hb04 := hb03.trans (hb4.mono hb03.size)
  go_wp2_with fail
  refine (SD.out _).mono ?_
  rintro e w5 ⟨rfl, hb5⟩
  have hb05 := hb04.trans (hb5.mono hb04.size)
  go_wp2_with fail
  refine (TY.out _).mono ?_
  rintro e w6 ⟨rfl, hb6⟩
  have hb06 := hb05.trans (hb6.mono hb05.size)
  clear hb1 hb2 hb3 hb4 hb5 hb6 hb02 hb03 hb04 hb05 SA SB SC SD TX TY
  have hB := hb06.trans ((((((Below.refl w6.heap.size w6).alloc (Nat.le_refl _) (.cells z20 59)).alloc (by simp) (.cells z20 59)).setRow (Nat.le_refl _) (row20 (dg x))).setRow (g := w6.heap.size + 1) (by omega) (row20 (dg y))).mono hb06.size)
  have A0 : ((w6.alloc (.cells z20 59)).alloc (.cells z20 59)).heap[w6.heap.size]? = _ := heap_alloc2_old w6 _ _
  have A1 : (((w6.alloc (.cells z20 59)).alloc (.cells z20 59)).setRow w6.heap.size (row20 (dg x))).heap[w6.heap.size + 1]? = _ := (setRow_other _ _ _ _ (by omega)).trans (heap_alloc2_new w6 _ _)
  have B0 := (setRow_other _ (w6.heap.size + 1) w6.heap.size (row20 (dg y)) (by omega)).trans (setRow_heap _ _ _ (row20 (dg x)) _ _ A0)
  have B1 := setRow_heap _ _ _ (row20 (dg y)) _ _ A1
  have hBB := Lib.hid hB
  have HB0 := Lib.hid B0
  have HB1 := Lib.hid B1
  clear hB hb06 B0 B1
  go_upto_region 2 with (first | (refine wpList_store_row rfl _ _ _ rfl _ _ rfl rfl _ _ A0 (infoN _) (by rw [row20_size]; rfl) (row20_one _) ?_; clear A0) | (refine wpList_store_row rfl _ _ _ rfl _ _ rfl rfl _ _ A1 (infoN _) (by rw [row20_size]; rfl) (row20_one _) ?_))
  clear A1
  go_wp2_with fail
  go_ret
  exact ⟨rfl, hBB.out⟩
set_option maxRecDepth 100000 in
set_option maxHeartbeats 4000000 in
theorem below_far (a b c d : Int) (w : World) (a0 : -9223372036854775808 ≤ a) (a1 : a ≤ 9223372036854775807) (b0 : -9223372036854775808 ≤ b) (b1 : b ≤ 9223372036854775807) (c0 : -9223372036854775808 ≤ c) (c1 : c ≤ 9223372036854775807) (d0 : -9223372036854775808 ≤ d) (d1 : d ≤ 9223372036854775807) (ha : a < 0) (hb : 0 < b) (hc : c < 0) (hd : (d == 0) = false) (hlt : c.natAbs * d.natAbs < a.natAbs * b.natAbs) :
    Calls Tryd.prog 20 #[.int .i64 a, .int .i64 b, .int .i64 c, .int .i64 d] w fun e w' => e = .returned (.bool true) ∧ Below w.heap.size w w' := by
  have hz := zero20
  have hp20 := pow20_big
  have p1 : a.natAbs * b.natAbs ≤ 9223372036854775808 * 9223372036854775808 := Nat.mul_le_mul (by omega) (by omega)
  have p2 : c.natAbs * d.natAbs ≤ 9223372036854775808 * 9223372036854775808 := Nat.mul_le_mul (by omega) (by omega)
  have SA := Lib.hid fun w => Size_any a w a0 a1
  have SB := Lib.hid fun w => Size_any b w b0 b1
  have SC := Lib.hid fun w => Size_any c w c0 c1
  have SD := Lib.hid fun w => Size_any d w d0 d1
  have TX := Lib.hid fun w => Times_any a.natAbs b.natAbs w (by omega)
  have TY := Lib.hid fun w => Times_any c.natAbs d.natAbs w (by omega)
  have CM := Lib.hid fun w => Cmp_any (a.natAbs * b.natAbs) (c.natAbs * d.natAbs) w (by omega) (by omega)
  have HC := Lib.hid (show cmpOf (a.natAbs * b.natAbs) (c.natAbs * d.natAbs) = if a.natAbs * b.natAbs < c.natAbs * d.natAbs then -1 else if c.natAbs * d.natAbs < a.natAbs * b.natAbs then 1 else 0 from rfl)
  unfold natOf at *
  clear p1 p2 hp20
  generalize a.natAbs * b.natAbs = x at *
  generalize c.natAbs * d.natAbs = y at *
  obtain ⟨cv, hcv⟩ : ∃ cv, cv = cmpOf x y := ⟨_, rfl⟩
  rw [← hcv] at CM HC
  obtain rfl : cv = 1 := by rw [HC.out, if_neg (by omega), if_pos hlt]
  clear HC hcv hlt
  have hnc : decide (0 ≤ c) = false := decide_eq_false (by omega)
  go_enter Tryd.func20, Tryd.ntmps20
  go_wp2_with fail
  refine (SA.out _).mono ?_
  rintro e w1 ⟨rfl, hb1⟩
  go_wp2_with fail
  refine (SB.out _).mono ?_
  rintro e w2 ⟨rfl, hb2⟩
  have hb02 := hb1.trans (hb2.mono hb1.size)
  go_wp2_with fail
  refine (TX.out _).mono ?_
  rintro e w3 ⟨rfl, hb3⟩
  have hb03 := hb02.trans (hb3.mono hb02.size)
  go_wp2_with fail
  refine (SC.out _).mono ?_
  rintro e w4 ⟨rfl, hb4⟩
  have hb04 := hb03.trans (hb4.mono hb03.size)
  go_wp2_with fail
  refine (SD.out _).mono ?_
  rintro e w5 ⟨rfl, hb5⟩
  have hb05 := hb04.trans (hb5.mono hb04.size)
  go_wp2_with fail
  refine (TY.out _).mono ?_
  rintro e w6 ⟨rfl, hb6⟩
  have hb06 := hb05.trans (hb6.mono hb05.size)
  clear hb1 hb2 hb3 hb4 hb5 hb6 hb02 hb03 hb04 hb05 SA SB SC SD TX TY
  have hB := hb06.trans ((((((Below.refl w6.heap.size w6).alloc (Nat.le_refl _) (.cells z20 59)).alloc (by simp) (.cells z20 59)).setRow (Nat.le_refl _) (row20 (dg x))).setRow (g := w6.heap.size + 1) (by omega) (row20 (dg y))).mono hb06.size)
  have A0 : ((w6.alloc (.cells z20 59)).alloc (.cells z20 59)).heap[w6.heap.size]? = _ := heap_alloc2_old w6 _ _
  have A1 : (((w6.alloc (.cells z20 59)).alloc (.cells z20 59)).setRow w6.heap.size (row20 (dg x))).heap[w6.heap.size + 1]? = _ := (setRow_other _ _ _ _ (by omega)).trans (heap_alloc2_new w6 _ _)
  have B0 := (setRow_other _ (w6.heap.size + 1) w6.heap.size (row20 (dg y)) (by omega)).trans (setRow_heap _ _ _ (row20 (dg x)) _ _ A0)
  have B1 := setRow_heap _ _ _ (row20 (dg y)) _ _ A1
  have hBB := Lib.hid hB
  have HB0 := Lib.hid B0
  have HB1 := Lib.hid B1
  clear hB hb06 B0 B1
  go_upto_region 2 with (first | (refine wpList_store_row rfl _ _ _ rfl _ _ rfl rfl _ _ A0 (infoN _) (by rw [row20_size]; rfl) (row20_one _) ?_; clear A0) | (refine wpList_store_row rfl _ _ _ rfl _ _ rfl rfl _ _ A1 (infoN _) (by rw [row20_size]; rfl) (row20_one _) ?_))
  clear A1
  generalize (((w6.alloc (.cells z20 59)).alloc (.cells z20 59)).setRow w6.heap.size (row20 (dg x))).setRow (w6.heap.size + 1) (row20 (dg y)) = w7 at *
  go_wp2_with (first | (refine wpList_load_row_if (by rfl) 59 _ rfl _ rfl _ _ _ _ HB0.out Tryd.underlying59 rfl (infoN _) ?_) | (refine wpList_load_row_if (by rfl) 59 _ rfl _ rfl _ _ _ _ HB1.out Tryd.underlying59 rfl (infoN _) ?_))
  refine (CM.out _).mono ?_
  rintro e w8 ⟨rfl, hb8⟩
  go_wp2_with fail
  go_ret
  exact ⟨rfl, hBB.out.trans (hb8.mono hBB.out.size)⟩
set_option maxRecDepth 100000 in
set_option maxHeartbeats 4000000 in
theorem below_pos (a b c d : Int) (w : World) (a0 : -9223372036854775808 ≤ a) (a1 : a ≤ 9223372036854775807) (b0 : -9223372036854775808 ≤ b) (b1 : b ≤ 9223372036854775807) (c0 : -9223372036854775808 ≤ c) (c1 : c ≤ 9223372036854775807) (d0 : -9223372036854775808 ≤ d) (d1 : d ≤ 9223372036854775807) (ha : 0 ≤ a) (hc : 0 ≤ c) (hlt : a.natAbs * b.natAbs < c.natAbs * d.natAbs) :
    Calls Tryd.prog 20 #[.int .i64 a, .int .i64 b, .int .i64 c, .int .i64 d] w fun e w' => e = .returned (.bool true) ∧ Below w.heap.size w w' := by
  have hz := zero20
  have hp20 := pow20_big
  have p1 : a.natAbs * b.natAbs ≤ 9223372036854775808 * 9223372036854775808 := Nat.mul_le_mul (by omega) (by omega)
  have p2 : c.natAbs * d.natAbs ≤ 9223372036854775808 * 9223372036854775808 := Nat.mul_le_mul (by omega) (by omega)
  have SA := Lib.hid fun w => Size_any a w a0 a1
  have SB := Lib.hid fun w => Size_any b w b0 b1
  have SC := Lib.hid fun w => Size_any c w c0 c1
  have SD := Lib.hid fun w => Size_any d w d0 d1
  have TX := Lib.hid fun w => Times_any a.natAbs b.natAbs w (by omega)
  have TY := Lib.hid fun w => Times_any c.natAbs d.natAbs w (by omega)
  have CM := Lib.hid fun w => Cmp_any (a.natAbs * b.natAbs) (c.natAbs * d.natAbs) w (by omega) (by omega)
  have HC := Lib.hid (show cmpOf (a.natAbs * b.natAbs) (c.natAbs * d.natAbs) = if a.natAbs * b.natAbs < c.natAbs * d.natAbs then -1 else if c.natAbs * d.natAbs < a.natAbs * b.natAbs then 1 else 0 from rfl)
  unfold natOf at *
  clear p1 p2 hp20
  generalize a.natAbs * b.natAbs = x at *
  generalize c.natAbs * d.natAbs = y at *
  obtain ⟨cv, hcv⟩ : ∃ cv, cv = cmpOf x y := ⟨_, rfl⟩
  rw [← hcv] at CM HC
  obtain rfl : cv = -1 := by rw [HC.out, if_pos hlt]
  clear HC hcv hlt
  have hna : decide (a < 0) = false := decide_eq_false (by omega)
  have hpc : decide (0 ≤ c) = true := decide_eq_true hc
  go_enter Tryd.func20, Tryd.ntmps20
  go_wp2_with fail
  refine (SA.out _).mono ?_
  rintro e w1 ⟨rfl, hb1⟩
  go_wp2_with fail
  refine (SB.out _).mono ?_
  rintro e w2 ⟨rfl, hb2⟩
  have hb02 := hb1.trans (hb2.mono hb1.size)
  go_wp2_with fail
  refine (TX.out _).mono ?_
  rintro e w3 ⟨rfl, hb3⟩
  have hb03 := hb02.trans (hb3.mono hb02.size)
  go_wp2_with fail
  refine (SC.out _).mono ?_
  rintro e w4 ⟨rfl, hb4⟩
  have hb04 := hb03.trans (hb4.mono hb03.size)
  go_wp2_with fail
  refine (SD.out _).mono ?_
  rintro e w5 ⟨rfl, hb5⟩
  have hb05 := hb04.trans (hb5.mono hb04.size)
  go_wp2_with fail
  refine (TY.out _).mono ?_
  rintro e w6 ⟨rfl, hb6⟩
  have hb06 := hb05.trans (hb6.mono hb05.size)
  clear hb1 hb2 hb3 hb4 hb5 hb6 hb02 hb03 hb04 hb05 SA SB SC SD TX TY
  have hB := hb06.trans ((((((Below.refl w6.heap.size w6).alloc (Nat.le_refl _) (.cells z20 59)).alloc (by simp) (.cells z20 59)).setRow (Nat.le_refl _) (row20 (dg x))).setRow (g := w6.heap.size + 1) (by omega) (row20 (dg y))).mono hb06.size)
  have A0 : ((w6.alloc (.cells z20 59)).alloc (.cells z20 59)).heap[w6.heap.size]? = _ := heap_alloc2_old w6 _ _
  have A1 : (((w6.alloc (.cells z20 59)).alloc (.cells z20 59)).setRow w6.heap.size (row20 (dg x))).heap[w6.heap.size + 1]? = _ := (setRow_other _ _ _ _ (by omega)).trans (heap_alloc2_new w6 _ _)
  have B0 := (setRow_other _ (w6.heap.size + 1) w6.heap.size (row20 (dg y)) (by omega)).trans (setRow_heap _ _ _ (row20 (dg x)) _ _ A0)
  have B1 := setRow_heap _ _ _ (row20 (dg y)) _ _ A1
  have hBB := Lib.hid hB
  have HB0 := Lib.hid B0
  have HB1 := Lib.hid B1
  clear hB hb06 B0 B1
  go_upto_region 2 with (first | (refine wpList_store_row rfl _ _ _ rfl _ _ rfl rfl _ _ A0 (infoN _) (by rw [row20_size]; rfl) (row20_one _) ?_; clear A0) | (refine wpList_store_row rfl _ _ _ rfl _ _ rfl rfl _ _ A1 (infoN _) (by rw [row20_size]; rfl) (row20_one _) ?_))
  clear A1
  generalize (((w6.alloc (.cells z20 59)).alloc (.cells z20 59)).setRow w6.heap.size (row20 (dg x))).setRow (w6.heap.size + 1) (row20 (dg y)) = w7 at *
  go_wp2_with (first | (refine wpList_load_row_if (by rfl) 59 _ rfl _ rfl _ _ _ _ HB0.out Tryd.underlying59 rfl (infoN _) ?_) | (refine wpList_load_row_if (by rfl) 59 _ rfl _ rfl _ _ _ _ HB1.out Tryd.underlying59 rfl (infoN _) ?_))
  refine (CM.out _).mono ?_
  rintro e w8 ⟨rfl, hb8⟩
  go_wp2_with fail
  go_ret
  exact ⟨rfl, hBB.out.trans (hb8.mono hBB.out.size)⟩
theorem below_any (a b c d : Int) (w : World) (a0 : -9223372036854775808 ≤ a) (a1 : a ≤ 9223372036854775807) (b0 : -9223372036854775808 ≤ b) (b1 : b ≤ 9223372036854775807) (c0 : -9223372036854775808 ≤ c) (c1 : c ≤ 9223372036854775807) (d0 : -9223372036854775808 ≤ d) (d1 : d ≤ 9223372036854775807) (h : BelowP a b c d) :
    Calls Tryd.prog 20 #[.int .i64 a, .int .i64 b, .int .i64 c, .int .i64 d] w fun e w' => e = .returned (.bool true) ∧ Below w.heap.size w w' := by
  rcases h with ⟨h1, h2, h3⟩ | ⟨h1, h2, h3⟩
  · by_cases hc : 0 ≤ c
    · exact below_up a b c d w a0 a1 b0 b1 c0 c1 d0 d1 h1 h2 hc
    · cases hd : d == 0
      · exact below_far a b c d w a0 a1 b0 b1 c0 c1 d0 d1 h1 h2 (by omega) hd (by rcases h3 with h3 | h3; omega; exact h3)
      · exact below_zero a b c d w a0 a1 b0 b1 c0 c1 d0 d1 h1 h2 (by omega) hd
  · exact below_pos a b c d w a0 a1 b0 b1 c0 c1 d0 d1 h1 h2 h3
end Go.Proofs.YtjniclalobggpaaDoor
