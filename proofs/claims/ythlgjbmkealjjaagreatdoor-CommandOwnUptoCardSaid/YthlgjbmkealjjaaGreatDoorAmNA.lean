/-
  Joined texts: AmN AmN2 AmN3 AmN4 AmN5 AmN6 AmN7 AmN8. No statement is proved here.
-/
import Derived.Test.YthlgjbmkealjjaaGreatDoorAmA
namespace Go.Proofs.YthlgjbmkealjjaaGreatDoor
open Go.RowKit
set_option linter.unusedVariables false

/-- The i-th digit. -/
def dg (n i : Nat) : Nat := n / 65536 ^ i % 65536
theorem dg_lt (n i : Nat) : dg n i < 65536 := Nat.mod_lt _ (by omega)
/-- Twenty cells. -/
def row20 (f : Nat → Nat) : Array Value := ((List.range 20).map fun i => Value.int .u64 (f i : Int)).toArray
theorem row20_size (f : Nat → Nat) : (row20 f).size = 20 := by simp [row20]
theorem row20_at (f : Nat → Nat) (i : Nat) (h : i < 20) : (row20 f)[i]? = some (.int .u64 (f i : Int)) := by
  simp [row20, h]
theorem row20_ext (f g : Nat → Nat) (h : ∀ i, i < 20 → f i = g i) : row20 f = row20 g := by
  unfold row20
  congr 1
  apply List.map_congr_left
  intro i hi
  rw [h i (by simpa using hi)]
theorem row20_set (f : Nat → Nat) (i v : Nat) (h : i < 20) : (row20 f).setIfInBounds i (.int .u64 (v : Int)) = row20 (fun k => if k = i then v else f k) := by
  apply Array.ext
  · simp [row20]
  · intro k hk1 hk2
    have hk0 : k < (row20 f).size := by simpa using hk1
    rw [Array.getElem_setIfInBounds hk0]
    simp only [row20, List.getElem_toArray, List.getElem_map, List.getElem_range]
    by_cases e : i = k
    · subst e; simp
    · rw [if_neg e, if_neg (fun h => e h.symm)]
/-- A number as the program has it. -/
def natOf (n : Nat) : Value := .agg (row20 (dg n))
theorem pow_pos' (i : Nat) : 0 < 65536 ^ i := Nat.pow_pos (by omega)
/-- What is carried into the i-th digit of a sum. -/
def carryAt (a b i : Nat) : Nat := (a % 65536 ^ i + b % 65536 ^ i) / 65536 ^ i
theorem carryAt_zero (a b : Nat) : carryAt a b 0 = 0 := by simp [carryAt, Nat.mod_one]
theorem carryAt_le (a b i : Nat) : carryAt a b i ≤ 1 := by
  unfold carryAt
  have h1 := Nat.mod_lt a (pow_pos' i)
  have h2 := Nat.mod_lt b (pow_pos' i)
  apply Nat.le_of_lt_succ
  rw [Nat.div_lt_iff_lt_mul (pow_pos' i)]
  omega
theorem sum_div (a b p : Nat) (hp : 0 < p) : (a + b) / p = a / p + b / p + (a % p + b % p) / p := by
  have ha := Nat.div_add_mod a p
  have hb := Nat.div_add_mod b p
  have e : a + b = p * (a / p + b / p) + (a % p + b % p) := by rw [Nat.mul_add]; omega
  rw [e, Nat.mul_add_div hp]
theorem pow_succ' (i : Nat) : 65536 ^ (i + 1) = 65536 ^ i * 65536 := Nat.pow_succ 65536 i
/-- One digit of a sum. -/
theorem add_step (a b i : Nat) : (dg a i + dg b i + carryAt a b i) % 65536 = dg (a + b) i ∧ (dg a i + dg b i + carryAt a b i) / 65536 = carryAt a b (i + 1) := by
  have hp := pow_pos' i
  constructor
  · unfold dg carryAt
    rw [sum_div a b _ hp]
    omega
  · have e : carryAt a b (i + 1) = (a % 65536 ^ i + 65536 ^ i * dg a i + (b % 65536 ^ i + 65536 ^ i * dg b i)) / 65536 ^ i / 65536 := by
      unfold carryAt dg
      rw [pow_succ', Nat.div_div_eq_div_mul, Nat.mod_mul, Nat.mod_mul]
    rw [e]
    have e2 : a % 65536 ^ i + 65536 ^ i * dg a i + (b % 65536 ^ i + 65536 ^ i * dg b i) = 65536 ^ i * (dg a i + dg b i) + (a % 65536 ^ i + b % 65536 ^ i) := by
      rw [Nat.mul_add]; omega
    rw [e2, Nat.mul_add_div hp]
    rfl
/-- One digit of a difference. -/
theorem sub_step (b c i : Nat) : (65536 + dg (b + c) i - dg b i - carryAt b c i) % 65536 = dg c i ∧ 1 - (65536 + dg (b + c) i - dg b i - carryAt b c i) / 65536 = carryAt b c (i + 1) ∧ dg b i + carryAt b c i ≤ 65536 + dg (b + c) i := by
  obtain ⟨h1, h2⟩ := add_step b c i
  have h3 := dg_lt b i
  have h4 := dg_lt c i
  have h5 := dg_lt (b + c) i
  have h6 := carryAt_le b c i
  have h7 := carryAt_le b c (i + 1)
  generalize dg b i = x at *
  generalize dg c i = y at *
  generalize dg (b + c) i = z at *
  generalize carryAt b c i = k at *
  generalize carryAt b c (i + 1) = l at *
  omega
/-- The upper digits and the next one. -/
theorem div_stepN (a i : Nat) : a / 65536 ^ i = a / 65536 ^ (i + 1) * 65536 + dg a i := by
  unfold dg
  rw [pow_succ', ← Nat.div_div_eq_div_mul]
  omega
theorem cmp_lt (a b i : Nat) (h : a / 65536 ^ (i + 1) = b / 65536 ^ (i + 1)) (hd : dg a i < dg b i) : a < b := by
  have h1 := div_stepN a i
  have h2 := div_stepN b i
  rw [← h] at h2
  have h3 : a / 65536 ^ i < b / 65536 ^ i := by omega
  rcases Nat.lt_or_ge a b with h4 | h4
  · exact h4
  · have := Nat.div_le_div_right (c := 65536 ^ i) h4
    omega
theorem cmp_eq' (a b i : Nat) (h : a / 65536 ^ (i + 1) = b / 65536 ^ (i + 1)) (hd : dg a i = dg b i) : a / 65536 ^ i = b / 65536 ^ i := by
  rw [div_stepN a i, div_stepN b i, h, hd]
theorem dg_small (n i : Nat) (h : n < 65536 ^ i) : dg n i = 0 := by
  unfold dg
  rw [Nat.div_eq_of_lt h]
end Go.Proofs.YthlgjbmkealjjaaGreatDoor

namespace Go.Proofs.YthlgjbmkealjjaaGreatDoor
open Go.RowKit
set_option linter.unusedVariables false

theorem row20_one (f : Nat → Nat) : (row20 f).all (·.oneCell') = true := by
  simp [row20, Value.oneCell']
def z20 : Array Value := row20 (fun _ => 0)
theorem zero20 (w : World) : (zeroValue 81).run Tryz.prog w = .ok (.agg z20) w := by kernel_rfl
theorem infoN (f : Nat → Nat) : (Tryz.prog.info? 81).map (·.size) = some (row20 f).size := by rw [row20_size]; kernel_rfl
theorem _root_.Go.RowKit.Below.setRow {B : Nat} {a w : World} (h : Below B a w) {g : Nat} (hg : B ≤ g) (cs : Array Value) : Below B a (w.setRow g cs) :=
  h.trans ⟨rfl, rfl, rfl, by simp, fun k hk => setRow_other w g k cs (by omega)⟩
theorem dg_far (n m i : Nat) (h : n < 65536 ^ m) (hi : m ≤ i) : dg n i = 0 :=
  dg_small n i (Nat.lt_of_lt_of_le h (Nat.pow_le_pow_right (by omega) hi))
set_option maxRecDepth 100000 in
set_option maxHeartbeats 1000000 in
theorem Of_any (n : Nat) (w : World) (hn : n < 18446744073709551616) :
    Calls Tryz.prog 43 #[.int .u64 n] w fun e w' => e = .returned (natOf n) ∧ Below w.heap.size w w' := by
  have hz := zero20
  go_enter Tryz.func43, Tryz.ntmps43
  go_wp2
  go_loopw [0, 4] (fun v t wr => ∃ k : Nat, k ≤ 4 ∧ v = .int .u64 (n / 65536 ^ k : Nat) ∧ t = .int .i64 k ∧ wr.heap[w.heap.size]? = some (.cells z20 81 (0, 0)) ∧ wr.heap[w.heap.size + 1]? = some (.cells (row20 fun i => if i < k then dg n i else 0) 81 (0, 0)) ∧ Below w.heap.size w wr) (fun _ t _ => 4 - (intOf t).toNat)
  case atStart =>
    refine ⟨0, by omega, by simp, rfl, ?_, ?_, ?_⟩
    · exact heap_alloc2_old w _ _
    · exact heap_alloc2_new w _ _
    · exact ((Below.refl _ _).alloc (Nat.le_refl _) _).alloc (by simp) _
  case round =>
    obtain ⟨k, hk, rfl, rfl, h0, h1, hb⟩ := hrel
    by_cases hlt : k < 4
    · have hc : wr.cell? ⟨w.heap.size + 1, k, none⟩ = some (.int .u64 0) := by
        rw [cell_of_row _ _ _ _ _ _ h1, row20_at _ k (by omega), if_neg (by omega)]
        rfl
      have hf := frozen_of_row _ _ k _ _ h1
      have H0 := Lib.hid h0
      have H1 := Lib.hid h1
      have e1 : ((n / 65536 ^ k : Nat) : Int) % 65536 = (dg n k : Int) := rfl
      have e2 : ((n / 65536 ^ k : Nat) : Int) / 65536 = ((n / 65536 ^ (k + 1) : Nat) : Int) := by
        rw [pow_succ', ← Nat.div_div_eq_div_mul]
        rfl
      have hx : n / 65536 ^ k < 18446744073709551616 := Nat.lt_of_le_of_lt (Nat.div_le_self _ _) hn
      have hdl := dg_lt n k
      clear h0 h1
      have HS : Hid (∀ w0 : World, w0.heap[w.heap.size + 1]? = some (.cells (row20 fun i => if i < k then dg n i else 0) 81 (0, 0)) → (w0.setCell ⟨w.heap.size + 1, k, none⟩ (.int .u64 (dg n k : Int))).heap[w.heap.size + 1]? = some (.cells (row20 fun i => if i < k + 1 then dg n i else 0) 81 (0, 0))) := Lib.hid (fun w0 h => by
        rw [heap_setCell_same _ _ _ _ _ _ h, row20_set _ k _ (by omega)]
        congr 2
        apply row20_ext
        intro i hi
        by_cases e : i = k
        · subst e; rw [if_pos rfl, if_pos (by omega)]
        · rw [if_neg e]
          by_cases e2 : i < k
          · rw [if_pos e2, if_pos (by omega)]
          · rw [if_neg e2, if_neg (by omega)])
      generalize dg n k = d at *
      generalize n / 65536 ^ k = x at *
      generalize hx' : n / 65536 ^ (k + 1) = x' at *
      have HX := Lib.hid hx'
      clear hx'
      go_wp2
      go_roundw
      case rel =>
        refine ⟨k + 1, by omega, by rw [HX.out], by go_num, ?_, HS.out _ H1.out, hb.setCell (by simp) _⟩
        rw [heap_setCell_other _ _ _ _ (by simp)]
        exact H0.out
      case measure => simp [intOf]; omega
    · obtain rfl : k = 4 := by omega
      have e4 : (row20 fun i => if i < 4 then dg n i else 0) = row20 (dg n) := row20_ext _ _ fun i hi => by
        by_cases h : i < 4
        · rw [if_pos h]
        · rw [if_neg h, dg_far n 4 i (by omega) (by omega)]
      rw [e4] at h1
      have H0 := Lib.hid h0
      have H1 := Lib.hid h1
      clear h0 h1 e4
      go_wp2_with (first | (refine wpList_load_row rfl 81 _ rfl _ rfl _ _ _ _ H1.out Tryz.underlying81 rfl ?c1 ?_) | (refine wpList_store_row rfl _ _ _ rfl _ _ rfl rfl _ _ H0.out ?c2 ?c3 ?c4 ?_))
      case c1 => exact infoN _
      case c2 => exact infoN _
      case c3 => rw [row20_size]; rfl
      case c4 => exact row20_one _
      exact bodyPost_ret (results_cell_row (fn := Tryz.f43) rfl _ _ w.heap.size 81 (row20 (dg n)) (0, 0) _ rfl (setRow_heap _ _ _ _ _ _ H0.out) Tryz.underlying81 rfl (infoN _)) rfl ⟨rfl, hb.setRow (Nat.le_refl _) _⟩
set_option maxRecDepth 100000 in
set_option maxHeartbeats 1000000 in
theorem Size_any (v : Int) (w : World) (h0 : -9223372036854775808 ≤ v) (h1 : v ≤ 9223372036854775807) :
    Calls Tryz.prog 51 #[.int .i64 v] w fun e w' => e = .returned (natOf v.natAbs) ∧ Below w.heap.size w w' := by
  have hz := zero20
  have O := Lib.hid (fun w => Of_any v.natAbs w (by omega))
  rcases Int.lt_or_le v 0 with hv | hv
  · obtain ⟨n, rfl⟩ : ∃ n : Nat, v = -(n : Int) := ⟨v.natAbs, by omega⟩
    rw [show (-(n : Int)).natAbs = n by omega] at O ⊢
    have hn1 : 1 ≤ n := by omega
    go_enter Tryz.func51, Tryz.ntmps51
    go_wp2_with fail
    rw [show -(-(n : Int) + 1) + 1 = (n : Int) by omega]
    refine (O.out _).mono ?_
    rintro e w2 ⟨rfl, hb2⟩
    have H0 : w2.heap[w.heap.size]? = some (.cells z20 81 (0, 0)) := (hb2.block _ (by simp)).trans (heap_alloc_new w _)
    have hb : Below w.heap.size w w2 := (below_alloc (Below.refl _ w) _).trans (hb2.mono (by simp))
    unfold natOf
    go_wp2_with (first | (refine wpList_store_row rfl _ _ _ rfl _ _ rfl rfl _ _ H0 ?c2 ?c3 ?c4 ?_))
    case c2 => exact infoN _
    case c3 => rw [row20_size]; rfl
    case c4 => exact row20_one _
    exact bodyPost_ret (results_cell_row (fn := Tryz.f51) rfl _ _ w.heap.size 81 (row20 (dg n)) (0, 0) _ rfl (setRow_heap _ _ _ _ _ _ H0) Tryz.underlying81 rfl (infoN _)) rfl ⟨rfl, hb.setRow (Nat.le_refl _) _⟩
  · obtain ⟨n, rfl⟩ := Int.eq_ofNat_of_zero_le hv
    rw [show ((n : Int)).natAbs = n from rfl] at O ⊢
    go_enter Tryz.func51, Tryz.ntmps51
    go_wp2_with fail
    refine (O.out _).mono ?_
    rintro e w2 ⟨rfl, hb2⟩
    have H0 : w2.heap[w.heap.size]? = some (.cells z20 81 (0, 0)) := (hb2.block _ (by simp)).trans (heap_alloc_new w _)
    have hb : Below w.heap.size w w2 := (below_alloc (Below.refl _ w) _).trans (hb2.mono (by simp))
    unfold natOf
    go_wp2_with (first | (refine wpList_store_row rfl _ _ _ rfl _ _ rfl rfl _ _ H0 ?c2 ?c3 ?c4 ?_))
    case c2 => exact infoN _
    case c3 => rw [row20_size]; rfl
    case c4 => exact row20_one _
    exact bodyPost_ret (results_cell_row (fn := Tryz.f51) rfl _ _ w.heap.size 81 (row20 (dg n)) (0, 0) _ rfl (setRow_heap _ _ _ _ _ _ H0) Tryz.underlying81 rfl (infoN _)) rfl ⟨rfl, hb.setRow (Nat.le_refl _) _⟩
end Go.Proofs.YthlgjbmkealjjaaGreatDoor

namespace Go.Proofs.YthlgjbmkealjjaaGreatDoor
open Go.RowKit
set_option linter.unusedVariables false

def cmpOf (a b : Nat) : Int := if a < b then -1 else if b < a then 1 else 0
theorem cells_at {w : World} {g : Nat} {f : Nat → Nat} (h : w.heap[g]? = some (.cells (row20 f) 81 (0, 0))) (k : Nat) (hk : k < 20) : w.cell? ⟨g, k, none⟩ = some (.int .u64 (f k : Int)) := by
  rw [cell_of_row _ _ _ _ _ _ h, row20_at _ k hk]
set_option maxRecDepth 100000 in
set_option maxHeartbeats 2000000 in
theorem Cmp_any (a b : Nat) (w : World) (ha : a < 65536 ^ 20) (hb : b < 65536 ^ 20) :
    Calls Tryz.prog 76 #[natOf a, natOf b] w fun e w' => e = .returned (.int .i64 (cmpOf a b)) ∧ Below w.heap.size w w' := by
  have HC := Lib.hid (show cmpOf a b = if a < b then -1 else if b < a then 1 else 0 from rfl)
  have H20 : Hid (a / 65536 ^ (19 + 1) = b / 65536 ^ (19 + 1)) := Lib.hid (by rw [Nat.div_eq_of_lt ha, Nat.div_eq_of_lt hb])
  generalize cmpOf a b = c at *
  have e1 : (row20 (dg a)).size = 20 := row20_size _
  have e2 : (row20 (dg b)).size = 20 := row20_size _
  clear ha hb
  unfold natOf
  go_enter Tryz.func76, Tryz.ntmps76
  go_wp2
  go_loopw [5] (fun t wr => ((∃ j : Nat, j < 20 ∧ t = .int .i64 j ∧ Hid (a / 65536 ^ (j + 1) = b / 65536 ^ (j + 1))) ∨ (t = .int .i64 (-1) ∧ a = b)) ∧ wr.heap[w.heap.size]? = some (.cells (row20 (dg a)) 81 (0, 0)) ∧ wr.heap[w.heap.size + 1]? = some (.cells (row20 (dg b)) 81 (0, 0)) ∧ Below w.heap.size w wr) (fun t _ => (intOf t + 1).toNat)
  case atStart => exact ⟨.inl ⟨19, by omega, rfl, H20⟩, heap_alloc2_old w _ _, heap_alloc2_new w _ _, ((Below.refl _ _).alloc (Nat.le_refl _) _).alloc (by simp) _⟩
  case round =>
    obtain ⟨hj, h0, h1, hb⟩ := hrel
    rcases hj with ⟨j, hj, rfl, hq⟩ | ⟨rfl, hab⟩
    · have c0 := cells_at h0 j hj
      have c1 := cells_at h1 j hj
      have hl := Lib.hid (cmp_lt a b j hq.out)
      have hg := Lib.hid (cmp_lt b a j hq.out.symm)
      have he := Lib.hid (cmp_eq' a b j hq.out)
      have H0 := Lib.hid h0
      have H1 := Lib.hid h1
      have hx := dg_lt a j
      have hy := dg_lt b j
      clear h0 h1
      generalize dg a j = x at *
      generalize dg b j = y at *
      rcases Nat.lt_trichotomy x y with h | h | h
      · have hc : c = -1 := by rw [HC.out, if_pos (hl.out h)]
        subst hc
        have hd : decide ((x : Int) < (y : Int)) = true := by rw [decide_eq_true_iff]; omega
        go_upto_region 4 with (fail)
        go_quiet (fail)
        go_wp2
        go_ret
        exact ⟨rfl, below_drewN hb _⟩
      · subst h
        have HE := Lib.hid (he.out rfl)
        have hd : decide ((x : Int) < (x : Int)) = false := by rw [decide_eq_false_iff_not]; omega
        go_upto_region 4 with (fail)
        go_quiet (fail)
        go_upto_region 6 with (fail)
        go_quiet (fail)
        go_wp2
        go_roundw
        case rel =>
          refine ⟨?_, H0.out, H1.out, below_drewN hb _⟩
          cases j with
          | zero => exact .inr ⟨rfl, by have := HE.out; simpa using this⟩
          | succ j => exact .inl ⟨j, by omega, by go_num, Lib.hid HE.out⟩
        case measure => (try simp [intOf]) <;> (try omega)
      · have hc : c = 1 := by rw [HC.out, if_neg (by have := hg.out h; omega), if_pos (hg.out h)]
        subst hc
        have hd : decide ((x : Int) < (y : Int)) = false := by rw [decide_eq_false_iff_not]; omega
        have hd2 : decide ((y : Int) < (x : Int)) = true := by rw [decide_eq_true_iff]; omega
        go_upto_region 4 with (fail)
        go_quiet (fail)
        go_upto_region 6 with (fail)
        go_quiet (fail)
        go_wp2
        go_ret
        first | exact ⟨rfl, below_drewN hb _⟩ | exact ⟨rfl, below_drewN (below_drewN hb _) _⟩
    · have hc : c = 0 := by rw [HC.out, if_neg (by omega), if_neg (by omega)]
      subst hc
      go_wp2
      go_ret
      exact ⟨rfl, hb⟩
/-- One digit of a row is set: the digits below it are those of one number, the others of another one. -/
theorem row_step (f h : Nat → Nat) (k : Nat) (hk : k < 20) : (row20 fun i => if i < k then h i else f i).setIfInBounds k (.int .u64 (h k : Int)) = row20 fun i => if i < k + 1 then h i else f i := by
  rw [row20_set _ k _ hk]
  apply row20_ext
  intro i hi
  by_cases e : i = k
  · subst e; rw [if_pos rfl, if_pos (by omega)]
  · rw [if_neg e]
    by_cases e2 : i < k
    · rw [if_pos e2, if_pos (by omega)]
    · rw [if_neg e2, if_neg (by omega)]
theorem row_end (f h : Nat → Nat) : (row20 fun i => if i < 20 then h i else f i) = row20 h := row20_ext _ _ fun i hi => by rw [if_pos hi]
theorem alloc3 (w : World) (a b c : Obj) : (((w.alloc a).alloc b).alloc c).heap[w.heap.size]? = some a ∧ (((w.alloc a).alloc b).alloc c).heap[w.heap.size + 1]? = some b ∧ (((w.alloc a).alloc b).alloc c).heap[w.heap.size + 2]? = some c := by
  have hB := (Below.refl ((w.alloc a).alloc b).heap.size ((w.alloc a).alloc b)).alloc (Nat.le_refl _) c
  refine ⟨(hB.block _ (by simp; omega)).trans (heap_alloc2_old w _ _), (hB.block _ (by simp)).trans (heap_alloc2_new w _ _), ?_⟩
  have := heap_alloc_new ((w.alloc a).alloc b) c
  simpa using this
set_option maxRecDepth 100000 in
set_option maxHeartbeats 2000000 in
theorem Plus_any (a b : Nat) (w : World) :
    Calls Tryz.prog 41 #[natOf a, natOf b] w fun e w' => e = .returned (natOf (a + b)) ∧ Below w.heap.size w w' := by
  have hz := zero20
  have e1 : (row20 (dg a)).size = 20 := row20_size _
  have e2 : (row20 (dg b)).size = 20 := row20_size _
  unfold natOf
  go_enter Tryz.func41, Tryz.ntmps41
  go_wp2
  go_loopw [5, 6] (fun c t wr => ∃ k : Nat, k ≤ 20 ∧ c = .int .u64 (carryAt a b k : Int) ∧ t = .int .i64 k ∧ wr.heap[w.heap.size]? = some (.cells (row20 fun i => if i < k then dg (a + b) i else dg a i) 81 (0, 0)) ∧ wr.heap[w.heap.size + 1]? = some (.cells (row20 (dg b)) 81 (0, 0)) ∧ wr.heap[w.heap.size + 2]? = some (.cells z20 81 (0, 0)) ∧ Below w.heap.size w wr) (fun _ t _ => 20 - (intOf t).toNat)
  case atStart =>
    obtain ⟨q0, q1, q2⟩ := alloc3 w (.cells (row20 (dg a)) 81) (.cells (row20 (dg b)) 81) (.cells z20 81)
    exact ⟨0, by omega, by rw [carryAt_zero]; rfl, rfl, q0, q1, q2, (((Below.refl _ _).alloc (Nat.le_refl _) _).alloc (by simp) _).alloc (by simp; omega) _⟩
  case round =>
    obtain ⟨k, hk, rfl, rfl, h0, h1, h2, hb⟩ := hrel
    by_cases hlt : k < 20
    · have c0 := cells_at h0 k hlt
      rw [if_neg (by omega)] at c0
      have c1 := cells_at h1 k hlt
      have f0 := frozen_of_row _ _ k _ _ h0
      obtain ⟨s1, s2⟩ := add_step a b k
      have HS := Lib.hid (row_step (dg a) (dg (a + b)) k hlt)
      have hx := dg_lt a k
      have hy := dg_lt b k
      have hcl := carryAt_le a b k
      have hdl := dg_lt (a + b) k
      have hcl2 := carryAt_le a b (k + 1)
      have H0 := Lib.hid h0
      have H1 := Lib.hid h1
      have H2 := Lib.hid h2
      clear h0 h1 h2
      generalize dg a k = x at *
      generalize dg b k = y at *
      generalize carryAt a b k = c at *
      generalize hcn : carryAt a b (k + 1) = cn at *
      have HCN := Lib.hid hcn
      generalize hdn : dg (a + b) k = d at *
      clear hcn hdn
      have t1 : ((x : Int) + (y : Int) + (c : Int)) % 65536 = (d : Int) := by omega
      have t2 : ((x : Int) + (y : Int) + (c : Int)) / 65536 = (cn : Int) := by omega
      clear s1 s2
      go_upto_region 5 with (fail)
      go_quiet (fail)
      go_wp2
      go_roundw
      case rel =>
        refine ⟨k + 1, by omega, by rw [HCN.out]; first | rw [t2] | rfl, by go_num, ?_, ?_, ?_, ?_⟩
        · rw [heap_setCell_same _ _ _ _ _ _ (by exact H0.out), HS.out]
        · rw [heap_setCell_other _ _ _ _ (by simp)]; exact H1.out
        · rw [heap_setCell_other _ _ _ _ (by simp)]; exact H2.out
        · exact (below_drewN hb _).setCell (Nat.le_refl _) _
      case measure => (try simp [intOf]) <;> (try omega)
    · obtain rfl : k = 20 := by omega
      rw [row_end] at h0
      have H0 := Lib.hid h0
      have H2 := Lib.hid h2
      clear h0 h1 h2
      go_wp2_with (first | (refine wpList_load_row rfl 81 _ rfl _ rfl _ _ _ _ H0.out Tryz.underlying81 rfl ?c1 ?_) | (refine wpList_store_row rfl _ _ _ rfl _ _ rfl rfl _ _ H2.out ?c2 ?c3 ?c4 ?_))
      case c1 => exact infoN _
      case c2 => exact infoN _
      case c3 => rw [row20_size]; rfl
      case c4 => exact row20_one _
      exact bodyPost_ret (results_cell_row (fn := Tryz.f41) rfl _ _ (w.heap.size + 2) 81 (row20 (dg (a + b))) (0, 0) _ rfl (setRow_heap _ _ _ _ _ _ H2.out) Tryz.underlying81 rfl (infoN _)) rfl ⟨rfl, hb.setRow (by omega) _⟩
end Go.Proofs.YthlgjbmkealjjaaGreatDoor

namespace Go.Proofs.YthlgjbmkealjjaaGreatDoor
open Go.RowKit
set_option linter.unusedVariables false

set_option maxRecDepth 100000 in
set_option maxHeartbeats 2000000 in
theorem Minus_any (b m : Nat) (w : World) :
    Calls Tryz.prog 105 #[natOf (b + m), natOf b] w fun e w' => e = .returned (natOf m) ∧ Below w.heap.size w w' := by
  have hz := zero20
  have e1 : (row20 (dg (b + m))).size = 20 := row20_size _
  have e2 : (row20 (dg b)).size = 20 := row20_size _
  unfold natOf
  go_enter Tryz.func105, Tryz.ntmps105
  go_wp2
  go_loopw [5, 6] (fun c t wr => ∃ k : Nat, k ≤ 20 ∧ c = .int .u64 (carryAt b m k : Int) ∧ t = .int .i64 k ∧ wr.heap[w.heap.size]? = some (.cells (row20 fun i => if i < k then dg m i else dg (b + m) i) 81 (0, 0)) ∧ wr.heap[w.heap.size + 1]? = some (.cells (row20 (dg b)) 81 (0, 0)) ∧ wr.heap[w.heap.size + 2]? = some (.cells z20 81 (0, 0)) ∧ Below w.heap.size w wr) (fun _ t _ => 20 - (intOf t).toNat)
  case atStart =>
    obtain ⟨q0, q1, q2⟩ := alloc3 w (.cells (row20 (dg (b + m))) 81) (.cells (row20 (dg b)) 81) (.cells z20 81)
    exact ⟨0, by omega, by rw [carryAt_zero]; rfl, rfl, q0, q1, q2, (((Below.refl _ _).alloc (Nat.le_refl _) _).alloc (by simp) _).alloc (by simp; omega) _⟩
  case round =>
    obtain ⟨k, hk, rfl, rfl, h0, h1, h2, hb⟩ := hrel
    by_cases hlt : k < 20
    · have c0 := cells_at h0 k hlt
      rw [if_neg (by omega)] at c0
      have c1 := cells_at h1 k hlt
      have f0 := frozen_of_row _ _ k _ _ h0
      obtain ⟨s1, s2, s3⟩ := sub_step b m k
      have HS := Lib.hid (row_step (dg (b + m)) (dg m) k hlt)
      have hx := dg_lt (b + m) k
      have hy := dg_lt b k
      have hcl := carryAt_le b m k
      have hdl := dg_lt m k
      have hcl2 := carryAt_le b m (k + 1)
      have H0 := Lib.hid h0
      have H1 := Lib.hid h1
      have H2 := Lib.hid h2
      clear h0 h1 h2
      generalize dg (b + m) k = x at *
      generalize dg b k = y at *
      generalize carryAt b m k = c at *
      generalize hcn : carryAt b m (k + 1) = cn at *
      have HCN := Lib.hid hcn
      generalize hdn : dg m k = d at *
      clear hcn hdn
      have t1 : (65536 + (x : Int) - (y : Int) - (c : Int)) % 65536 = (d : Int) := by omega
      have t2 : 1 - (65536 + (x : Int) - (y : Int) - (c : Int)) / 65536 = (cn : Int) := by omega
      have t3 : (y : Int) + (c : Int) ≤ 65536 + (x : Int) := by omega
      clear s1 s2 s3
      go_upto_region 5 with (fail)
      go_quiet (fail)
      go_wp2
      go_roundw
      case rel =>
        refine ⟨k + 1, by omega, by (rw [HCN.out]) <;> (first | rw [t2] | rfl), by go_num, ?_, ?_, ?_, ?_⟩
        · rw [heap_setCell_same _ _ _ _ _ _ (by exact H0.out), HS.out]
        · rw [heap_setCell_other _ _ _ _ (by simp)]; exact H1.out
        · rw [heap_setCell_other _ _ _ _ (by simp)]; exact H2.out
        · exact (below_drewN hb _).setCell (Nat.le_refl _) _
      case measure => (try simp [intOf]) <;> (try omega)
    · obtain rfl : k = 20 := by omega
      rw [row_end] at h0
      have H0 := Lib.hid h0
      have H2 := Lib.hid h2
      clear h0 h1 h2
      go_wp2_with (first | (refine wpList_load_row rfl 81 _ rfl _ rfl _ _ _ _ H0.out Tryz.underlying81 rfl ?c1 ?_) | (refine wpList_store_row rfl _ _ _ rfl _ _ rfl rfl _ _ H2.out ?c2 ?c3 ?c4 ?_))
      case c1 => exact infoN _
      case c2 => exact infoN _
      case c3 => rw [row20_size]; rfl
      case c4 => exact row20_one _
      exact bodyPost_ret (results_cell_row (fn := Tryz.f105) rfl _ _ (w.heap.size + 2) 81 (row20 (dg m)) (0, 0) _ rfl (setRow_heap _ _ _ _ _ _ H2.out) Tryz.underlying81 rfl (infoN _)) rfl ⟨rfl, hb.setRow (by omega) _⟩
end Go.Proofs.YthlgjbmkealjjaaGreatDoor

namespace Go.Proofs.YthlgjbmkealjjaaGreatDoor
open Go.RowKit
set_option linter.unusedVariables false

theorem dg_add_mul (n m q j : Nat) (h : j < q) : dg (n + m * 65536 ^ q) j = dg n j := by
  obtain ⟨d, rfl⟩ : ∃ d, q = j + 1 + d := ⟨q - j - 1, by omega⟩
  unfold dg
  have e : m * 65536 ^ (j + 1 + d) = 65536 ^ j * (65536 * (m * 65536 ^ d)) := by
    rw [Nat.pow_add, Nat.pow_succ]
    simp only [Nat.mul_assoc, Nat.mul_comm, Nat.mul_left_comm]
  rw [e, Nat.add_comm n, Nat.mul_add_div (pow_pos' j), Nat.add_comm, Nat.add_mul_mod_self_left]
def XX (a b i : Nat) : Nat := a % 65536 ^ i * b
def PP (a b i k : Nat) : Nat := XX a b i + dg a i * (b % 65536 ^ k) * 65536 ^ i
def CC (a b i k : Nat) : Nat := PP a b i k / 65536 ^ (i + k) - XX a b i / 65536 ^ (i + k)
theorem PP_zero (a b i : Nat) : PP a b i 0 = XX a b i := by simp [PP, Nat.mod_one]
theorem CC_zero (a b i : Nat) : CC a b i 0 = 0 := by unfold CC; rw [PP_zero]; omega
theorem PP_succ (a b i k : Nat) : PP a b i (k + 1) = PP a b i k + dg a i * dg b k * 65536 ^ (i + k) := by
  unfold PP
  have e : b % 65536 ^ (k + 1) = b % 65536 ^ k + 65536 ^ k * dg b k := by
    unfold dg
    rw [pow_succ', Nat.mod_mul]
  rw [e, Nat.mul_add, Nat.add_mul, Nat.pow_add, ← Nat.add_assoc]
  congr 1
  simp only [Nat.mul_assoc, Nat.mul_comm, Nat.mul_left_comm]
theorem XX_succ (a b i : Nat) : XX a b (i + 1) = XX a b i + dg a i * b * 65536 ^ i := by
  unfold XX dg
  rw [pow_succ', Nat.mod_mul, Nat.add_mul]
  congr 1
  simp only [Nat.mul_comm, Nat.mul_left_comm]
theorem PP_end (a b i k : Nat) (h : i + k = 20) : ∃ m, XX a b (i + 1) = PP a b i k + m * 65536 ^ 20 := by
  refine ⟨dg a i * (b / 65536 ^ k), ?_⟩
  rw [XX_succ]
  unfold PP
  rw [← h, Nat.pow_add]
  have e := Nat.div_add_mod b (65536 ^ k)
  have e2 : dg a i * b * 65536 ^ i = dg a i * (b % 65536 ^ k) * 65536 ^ i + dg a i * (b / 65536 ^ k) * (65536 ^ i * 65536 ^ k) := by
    have e3 : dg a i * b = dg a i * (b % 65536 ^ k) + dg a i * (b / 65536 ^ k) * 65536 ^ k := by
      rw [Nat.mul_assoc, ← Nat.mul_add]
      congr 1
      rw [Nat.mul_comm (b / 65536 ^ k)]
      omega
    rw [e3, Nat.add_mul]
    congr 1
    simp only [Nat.mul_assoc, Nat.mul_comm, Nat.mul_left_comm]
  rw [e2]
  omega
theorem PP_low (a b i k j : Nat) (h : j < i + k) : dg (PP a b i (k + 1)) j = dg (PP a b i k) j := by
  rw [PP_succ]
  exact dg_add_mul _ _ _ _ h
theorem PP_step (a b i k : Nat) : (dg (XX a b i) (i + k) + dg a i * dg b k + CC a b i k) % 65536 = dg (PP a b i (k + 1)) (i + k) ∧ (dg (XX a b i) (i + k) + dg a i * dg b k + CC a b i k) / 65536 = CC a b i (k + 1) := by
  have hp := pow_pos' (i + k)
  have h1 : PP a b i (k + 1) / 65536 ^ (i + k) = PP a b i k / 65536 ^ (i + k) + dg a i * dg b k := by
    rw [PP_succ, Nat.add_mul_div_right _ _ hp]
  have hle : XX a b i / 65536 ^ (i + k) ≤ PP a b i k / 65536 ^ (i + k) := Nat.div_le_div_right (by unfold PP; omega)
  have e1 : dg (PP a b i (k + 1)) (i + k) = PP a b i (k + 1) / 65536 ^ (i + k) % 65536 := rfl
  have e2 : CC a b i (k + 1) = PP a b i (k + 1) / 65536 ^ (i + k) / 65536 - XX a b i / 65536 ^ (i + k) / 65536 := by
    unfold CC
    rw [← Nat.add_assoc, pow_succ', Nat.div_div_eq_div_mul, Nat.div_div_eq_div_mul]
  have e3 : CC a b i k = PP a b i k / 65536 ^ (i + k) - XX a b i / 65536 ^ (i + k) := rfl
  have e4 : dg (XX a b i) (i + k) = XX a b i / 65536 ^ (i + k) % 65536 := rfl
  rw [e1, e2, e3, e4, h1]
  generalize PP a b i k / 65536 ^ (i + k) = u at *
  generalize XX a b i / 65536 ^ (i + k) = v at *
  generalize dg a i * dg b k = m at *
  omega
theorem XX_zero (a b : Nat) : XX a b 0 = 0 := by simp [XX, Nat.mod_one]
theorem alloc4 (w : World) (a b c d : Obj) : ((((w.alloc a).alloc b).alloc c).alloc d).heap[w.heap.size]? = some a ∧ ((((w.alloc a).alloc b).alloc c).alloc d).heap[w.heap.size + 1]? = some b ∧ ((((w.alloc a).alloc b).alloc c).alloc d).heap[w.heap.size + 2]? = some c ∧ ((((w.alloc a).alloc b).alloc c).alloc d).heap[w.heap.size + 3]? = some d := by
  obtain ⟨h1, h2, h3⟩ := alloc3 w a b c
  have hB := (Below.refl (((w.alloc a).alloc b).alloc c).heap.size (((w.alloc a).alloc b).alloc c)).alloc (Nat.le_refl _) d
  refine ⟨(hB.block _ (by (simp) <;> omega)).trans h1, (hB.block _ (by (simp) <;> omega)).trans h2, (hB.block _ (by simp)).trans h3, ?_⟩
  have := heap_alloc_new (((w.alloc a).alloc b).alloc c) d
  simpa using this
theorem below4 (w : World) (a b c d : Obj) : Below w.heap.size w ((((w.alloc a).alloc b).alloc c).alloc d) :=
  ((((Below.refl _ _).alloc (Nat.le_refl _) _).alloc (by simp) _).alloc (by (simp) <;> omega) _).alloc (by (simp) <;> omega) _
set_option maxRecDepth 100000 in
set_option maxHeartbeats 4000000 in
theorem Times_any (a b : Nat) (w : World) (ha : a < 65536 ^ 20) :
    Calls Tryz.prog 42 #[natOf a, natOf b] w fun e w' => e = .returned (natOf (a * b)) ∧ Below w.heap.size w w' := by
  have hz := zero20
  have e1 : (row20 (dg a)).size = 20 := row20_size _
  have e2 : (row20 (dg b)).size = 20 := row20_size _
  have HAB : Hid (XX a b 20 = a * b) := Lib.hid (by unfold XX; rw [Nat.mod_eq_of_lt ha])
  clear ha
  unfold natOf
  rw [← HAB.out]
  clear HAB
  go_enter Tryz.func42, Tryz.ntmps42
  go_wp2
  go_loopw [6] (fun t wr => ∃ i : Nat, i ≤ 20 ∧ t = .int .i64 i ∧ wr.heap[w.heap.size]? = some (.cells (row20 (dg a)) 81 (0, 0)) ∧ wr.heap[w.heap.size + 1]? = some (.cells (row20 (dg b)) 81 (0, 0)) ∧ wr.heap[w.heap.size + 2]? = some (.cells z20 81 (0, 0)) ∧ wr.heap[w.heap.size + 3]? = some (.cells (row20 (dg (XX a b i))) 81 (0, 0)) ∧ Below w.heap.size w wr) (fun t _ => 20 - (intOf t).toNat)
  case atStart =>
    obtain ⟨q0, q1, q2, q3⟩ := alloc4 w (.cells (row20 (dg a)) 81) (.cells (row20 (dg b)) 81) (.cells z20 81) (.cells z20 81)
    refine ⟨0, by omega, rfl, q0, q1, q2, ?_, below4 _ _ _ _ _⟩
    rw [XX_zero, show row20 (dg 0) = z20 from row20_ext _ _ fun i _ => by simp [dg]]
    exact q3
  case round =>
    obtain ⟨i, hi, rfl, h0, h1, h2, h3, hb⟩ := hrel
    by_cases hlt : i < 20
    · have H0 := Lib.hid h0
      have H1 := Lib.hid h1
      have H2 := Lib.hid h2
      have H3 := Lib.hid h3
      clear h0 h1 h2 h3
      obtain ⟨wo, hwo⟩ : ∃ x, x = wr := ⟨_, rfl⟩
      go_wp2
      go_loopw [7, 8] (fun c t wz => ∃ k : Nat, i + k ≤ 20 ∧ c = .int .u64 (CC a b i k : Int) ∧ t = .int .i64 k ∧ CC a b i k ≤ 65535 ∧ Hid (wz.heap[w.heap.size]? = some (.cells (row20 (dg a)) 81 (0, 0))) ∧ Hid (wz.heap[w.heap.size + 1]? = some (.cells (row20 (dg b)) 81 (0, 0))) ∧ Hid (wz.heap[w.heap.size + 2]? = some (.cells z20 81 (0, 0))) ∧ Hid (wz.heap[w.heap.size + 3]? = some (.cells (row20 fun j => if j < i + k then dg (PP a b i k) j else dg (XX a b i) j) 81 (0, 0))) ∧ Below w.heap.size w wz) (fun _ t _ => 20 - (intOf t).toNat)
      case atStart =>
        refine ⟨0, by omega, by rw [CC_zero]; rfl, rfl, by rw [CC_zero]; omega, H0, H1, H2, Lib.hid ?_, hb⟩
        rw [PP_zero]
        rw [show (fun j => if j < i + 0 then dg (XX a b i) j else dg (XX a b i) j) = dg (XX a b i) from funext fun j => by split <;> rfl]
        exact H3.out
      case round =>
        clear hb H0 H1 H2 H3 hwo
        obtain ⟨k, hk, rfl, rfl, hcl, H0, H1, H2, H3, hb⟩ := hrel
        by_cases hlk : i + k < 20
        · have c0 := cells_at H0.out i hlt
          have c1 := cells_at H1.out k (by omega)
          have c3 := cells_at H3.out (i + k) hlk
          rw [if_neg (by omega)] at c3
          have f3 := frozen_of_row _ _ (i + k) _ _ H3.out
          obtain ⟨s1, s2⟩ := PP_step a b i k
          have HS : Hid ((row20 fun j => if j < i + k then dg (PP a b i k) j else dg (XX a b i) j).setIfInBounds (i + k) (.int .u64 (dg (PP a b i (k + 1)) (i + k) : Int)) = row20 fun j => if j < i + (k + 1) then dg (PP a b i (k + 1)) j else dg (XX a b i) j) := Lib.hid (by
            refine Eq.trans ?_ (row_step (dg (XX a b i)) (dg (PP a b i (k + 1))) (i + k) hlk)
            congr 1
            exact row20_ext _ _ fun j hj => by
              by_cases h : j < i + k
              · rw [if_pos h, if_pos h, PP_low a b i k j h]
              · rw [if_neg h, if_neg h])
          have hx := dg_lt (XX a b i) (i + k)
          have hy := dg_lt a i
          have hzz := dg_lt b k
          have hdl := dg_lt (PP a b i (k + 1)) (i + k)
          have hm : dg a i * dg b k ≤ 65535 * 65535 := Nat.mul_le_mul (by omega) (by omega)
          have hmm : ((dg a i : Nat) : Int) * ((dg b k : Nat) : Int) = ((dg a i * dg b k : Nat) : Int) := rfl
          generalize dg (XX a b i) (i + k) = x at *
          generalize dg a i * dg b k = m at *
          generalize dg a i = y at *
          generalize dg b k = z at *
          generalize hcn : CC a b i (k + 1) = cn at *
          generalize CC a b i k = c at *
          have HCN := Lib.hid hcn
          generalize hdn : dg (PP a b i (k + 1)) (i + k) = d at *
          clear hcn hdn
          have t1 : ((x : Int) + (m : Int) + (c : Int)) % 65536 = (d : Int) := by omega
          have t2 : ((x : Int) + (m : Int) + (c : Int)) / 65536 = (cn : Int) := by omega
          have hcnl : Hid (cn ≤ 65535) := Lib.hid (by omega)
          clear s1 s2
          go_upto_region 9 with (fail)
          go_quiet (fail)
          go_wp2
          go_roundw
          case rel =>
            refine ⟨k + 1, by omega, by (rw [HCN.out]) <;> (first | rw [t2] | rfl), by go_num, by rw [HCN.out]; exact hcnl.out, Lib.hid ?_, Lib.hid ?_, Lib.hid ?_, Lib.hid ?_, ?_⟩
            · rw [heap_setCell_other _ _ _ _ (by (simp) <;> omega)]; exact H0.out
            · rw [heap_setCell_other _ _ _ _ (by (simp) <;> omega)]; exact H1.out
            · rw [heap_setCell_other _ _ _ _ (by (simp) <;> omega)]; exact H2.out
            · rw [heap_setCell_same _ _ _ _ _ _ (by exact H3.out), HS.out]
            · exact (below_drewN hb _).setCell (by (simp) <;> omega) _
          case measure => (try simp [intOf]) <;> (try omega)
        · have hk20 : i + k = 20 := by omega
          have HE : Hid ((row20 fun j => if j < i + k then dg (PP a b i k) j else dg (XX a b i) j) = row20 (dg (XX a b (i + 1)))) := Lib.hid (row20_ext _ _ fun j hj => by
            rw [if_pos (by omega)]
            obtain ⟨m, hm⟩ := PP_end a b i k hk20
            rw [hm, dg_add_mul _ _ _ _ hj])
          rw [HE.out] at H3
          clear HE
          go_wp2
          go_roundw
          case rel => exact ⟨i + 1, by omega, by go_num, H0.out, H1.out, H2.out, H3.out, hb⟩
          case measure => (try simp [intOf]) <;> (try omega)
    · obtain rfl : i = 20 := by omega
      have H2 := Lib.hid h2
      have H3 := Lib.hid h3
      clear h0 h1 h2 h3
      go_wp2_with (first | (refine wpList_load_row rfl 81 _ rfl _ rfl _ _ _ _ H3.out Tryz.underlying81 rfl ?c1 ?_) | (refine wpList_store_row rfl _ _ _ rfl _ _ rfl rfl _ _ H2.out ?c2 ?c3 ?c4 ?_))
      case c1 => exact infoN _
      case c2 => exact infoN _
      case c3 => rw [row20_size]; rfl
      case c4 => exact row20_one _
      exact bodyPost_ret (results_cell_row (fn := Tryz.f42) rfl _ _ (w.heap.size + 2) 81 (row20 (dg (XX a b 20))) (0, 0) _ rfl (setRow_heap _ _ _ _ _ _ H2.out) Tryz.underlying81 rfl (infoN _)) rfl ⟨rfl, hb.setRow (by omega) _⟩
end Go.Proofs.YthlgjbmkealjjaaGreatDoor

namespace Go.Proofs.YthlgjbmkealjjaaGreatDoor
open Go.RowKit
set_option linter.unusedVariables false

/-- The bit at i. -/
def bitAt (a i : Nat) : Nat := a / 2 ^ i % 2
theorem bit_dg (a i : Nat) : dg a (i / 16) / 2 ^ (i % 16) % 2 = bitAt a i := by
  unfold dg bitAt
  have e : (65536 : Nat) ^ (i / 16) = 2 ^ (16 * (i / 16)) := by rw [Nat.pow_mul]
  have hi : i = 16 * (i / 16) + i % 16 := by omega
  have hr : i % 16 < 16 := Nat.mod_lt _ (by omega)
  rw [e]
  have e2 : a / 2 ^ i = a / 2 ^ (16 * (i / 16)) / 2 ^ (i % 16) := by rw [Nat.div_div_eq_div_mul, ← Nat.pow_add, ← hi]
  rw [e2]
  generalize a / 2 ^ (16 * (i / 16)) = n
  generalize i % 16 = r at *
  have e3 : (65536 : Nat) = 2 ^ r * 2 ^ (16 - r) := by rw [← Nat.pow_add, show r + (16 - r) = 16 by omega]
  rw [e3, Nat.mod_mul_right_div_self]
  have e4 : (2 : Nat) ∣ 2 ^ (16 - r) := ⟨2 ^ (15 - r), by rw [show 16 - r = 15 - r + 1 by omega, Nat.pow_succ, Nat.mul_comm]⟩
  exact Nat.mod_mod_of_dvd _ e4
/-- The next bit of a long division. -/
theorem over_step (a b i : Nat) (hb : 0 < b) : 2 * (a / 2 ^ (i + 1) % b) + bitAt a i = if a / 2 ^ i % b = 2 * (a / 2 ^ (i + 1) % b) + bitAt a i then a / 2 ^ i % b else a / 2 ^ i % b + b := by
  have e : a / 2 ^ i = 2 * (a / 2 ^ (i + 1)) + bitAt a i := by
    unfold bitAt
    rw [Nat.pow_succ, ← Nat.div_div_eq_div_mul]
    omega
  have hbit : bitAt a i < 2 := Nat.mod_lt _ (by omega)
  have h1 := Nat.div_add_mod (a / 2 ^ (i + 1)) b
  have h2 : a / 2 ^ (i + 1) % b < b := Nat.mod_lt _ hb
  rw [e]
  generalize a / 2 ^ (i + 1) = n at *
  generalize bitAt a i = t at *
  have e2 : (2 * n + t) % b = (2 * (n % b) + t) % b := by
    have e3 : 2 * n + t = 2 * (n % b) + t + b * (2 * (n / b)) := by rw [Nat.mul_left_comm]; omega
    rw [e3, Nat.add_mul_mod_self_left]
  rw [e2]
  generalize n % b = r at *
  split
  · rename_i h; exact h.symm
  · rename_i h
    rcases Nat.lt_or_ge (2 * r + t) b with h3 | h3
    · exact absurd (Nat.mod_eq_of_lt h3) h
    · rw [Nat.mod_eq_sub_mod h3, Nat.mod_eq_of_lt (by omega)]
      omega
theorem over_quot (a b i : Nat) (hb : 0 < b) : a / 2 ^ i / b = 2 * (a / 2 ^ (i + 1) / b) + (if b ≤ 2 * (a / 2 ^ (i + 1) % b) + bitAt a i then 1 else 0) ∧
    a / 2 ^ i % b = 2 * (a / 2 ^ (i + 1) % b) + bitAt a i - (if b ≤ 2 * (a / 2 ^ (i + 1) % b) + bitAt a i then b else 0) := by
  have e : a / 2 ^ i = 2 * (a / 2 ^ (i + 1)) + bitAt a i := by
    unfold bitAt
    rw [Nat.pow_succ, ← Nat.div_div_eq_div_mul]
    omega
  have hbit : bitAt a i < 2 := Nat.mod_lt _ (by omega)
  have h1 := Nat.div_add_mod (a / 2 ^ (i + 1)) b
  have h2 : a / 2 ^ (i + 1) % b < b := Nat.mod_lt _ hb
  rw [e]
  generalize a / 2 ^ (i + 1) = n at *
  generalize bitAt a i = t at *
  have e3 : 2 * n + t = b * (2 * (n / b)) + (2 * (n % b) + t) := by rw [Nat.mul_left_comm]; omega
  rw [e3, Nat.mul_add_div hb, Nat.mul_add_mod]
  generalize n % b = r at *
  generalize n / b = q at *
  by_cases h : b ≤ 2 * r + t
  · rw [if_pos h, if_pos h]
    have h4 : (2 * r + t) / b = 1 := Nat.div_eq_of_lt_le (by omega) (by omega)
    rw [h4, Nat.mod_eq_sub_mod h, Nat.mod_eq_of_lt (by omega)]
    exact ⟨rfl, rfl⟩
  · rw [if_neg h, if_neg h, Nat.div_eq_of_lt (by omega), Nat.mod_eq_of_lt (by omega)]
    exact ⟨rfl, rfl⟩
/-- A bit of the quotient is laid. -/
theorem q_bit (m i : Nat) : (∀ j, j ≠ i / 16 → dg (m * 2 ^ (i + 1) + 2 ^ i) j = dg (m * 2 ^ (i + 1)) j) ∧ dg (m * 2 ^ (i + 1) + 2 ^ i) (i / 16) = dg (m * 2 ^ (i + 1)) (i / 16) + 2 ^ (i % 16) := by
  have hr : i % 16 < 16 := Nat.mod_lt _ (by omega)
  have hi : i = 16 * (i / 16) + i % 16 := by omega
  generalize i / 16 = K at *
  generalize i % 16 = s at *
  have e0 : (65536 : Nat) ^ K = 2 ^ (16 * K) := by rw [Nat.pow_mul]
  have e1 : (2 : Nat) ^ i = 2 ^ s * 65536 ^ K := by rw [e0, ← Nat.pow_add, hi, Nat.add_comm]
  have e2 : m * 2 ^ (i + 1) = m * 2 ^ (s + 1) * 65536 ^ K := by rw [Nat.pow_succ, e1, Nat.pow_succ]; simp only [Nat.mul_assoc, Nat.mul_comm]
  have hp := pow_pos' K
  have hs : 0 < 2 ^ s := Nat.two_pow_pos s
  have hs2 : 2 ^ (s + 1) = 2 * 2 ^ s := by rw [Nat.pow_succ, Nat.mul_comm]
  have hno : m * 2 ^ (s + 1) % 65536 + 2 ^ s < 65536 := by
    have e3 : (65536 : Nat) = 2 ^ (s + 1) * 2 ^ (15 - s) := by rw [← Nat.pow_add, show s + 1 + (15 - s) = 16 by omega]
    rw [Nat.mul_comm m, e3, Nat.mul_mod_mul_left]
    have h5 : m % 2 ^ (15 - s) + 1 ≤ 2 ^ (15 - s) := Nat.mod_lt _ (Nat.two_pow_pos _)
    have h6 : 2 ^ (s + 1) * (m % 2 ^ (15 - s) + 1) ≤ 2 ^ (s + 1) * 2 ^ (15 - s) := Nat.mul_le_mul_left _ h5
    rw [Nat.mul_add, Nat.mul_one] at h6
    omega
  rw [e1, e2]
  have hd0 : m * 2 ^ (s + 1) * 65536 ^ K / 65536 ^ K = m * 2 ^ (s + 1) := Nat.mul_div_cancel _ hp
  have hd1 : (m * 2 ^ (s + 1) * 65536 ^ K + 2 ^ s * 65536 ^ K) / 65536 ^ K = m * 2 ^ (s + 1) + 2 ^ s := by rw [← Nat.add_mul, Nat.mul_div_cancel _ hp]
  constructor
  · intro j hj
    rcases Nat.lt_or_gt_of_ne hj with h | h
    · exact dg_add_mul _ _ _ _ h
    · obtain ⟨d, rfl⟩ : ∃ d, j = K + 1 + d := ⟨j - K - 1, by omega⟩
      unfold dg
      have e6 : (65536 : Nat) ^ (K + 1 + d) = 65536 ^ K * 65536 * 65536 ^ d := by rw [Nat.pow_add, Nat.pow_succ]
      rw [e6, ← Nat.div_div_eq_div_mul, ← Nat.div_div_eq_div_mul, ← Nat.div_div_eq_div_mul, ← Nat.div_div_eq_div_mul, hd0, hd1]
      have e5 : (m * 2 ^ (s + 1) + 2 ^ s) / 65536 = m * 2 ^ (s + 1) / 65536 := by omega
      rw [e5]
  · unfold dg
    rw [hd0, hd1]
    omega
theorem dg0_even (r t : Nat) (ht : t < 2) : dg (2 * r) 0 + t = dg (2 * r + t) 0 ∧ ∀ j, j ≠ 0 → dg (2 * r) j = dg (2 * r + t) j := by
  constructor
  · unfold dg
    simp only [Nat.pow_zero, Nat.div_one]
    omega
  · intro j hj
    obtain ⟨d, rfl⟩ : ∃ d, j = d + 1 := ⟨j - 1, by omega⟩
    unfold dg
    rw [Nat.pow_succ, Nat.mul_comm (65536 ^ d), ← Nat.div_div_eq_div_mul, ← Nat.div_div_eq_div_mul]
    have : (2 * r + t) / 65536 = 2 * r / 65536 := by omega
    rw [this]
end Go.Proofs.YthlgjbmkealjjaaGreatDoor

namespace Go.Proofs.YthlgjbmkealjjaaGreatDoor
open Go.RowKit
set_option linter.unusedVariables false

theorem results_cells {P : Program} {fn : Func} {p u : Tmp} {ty ty' : TypeId} (h : fn.results = #[.cell p ty, .cell u ty']) (tmps : Array Value) (w : World) (g g' : Nat) (t t' : TypeId) (cs cs' : Array Value) (fr fr' : Nat × Nat) (d d' : TypeDesc)
    (hp : tmps.getD p undef = .pointer (some ⟨g, 0, none⟩)) (hg : w.heap[g]? = some (.cells cs t fr))
    (hu : P.underlying ty = some d) (hd : (match d with | .struct _ | .array _ _ => true | _ => false) = true) (hi : (P.info? ty).map (·.size) = some cs.size)
    (hp2 : tmps.getD u undef = .pointer (some ⟨g', 0, none⟩)) (hg2 : w.heap[g']? = some (.cells cs' t' fr'))
    (hu2 : P.underlying ty' = some d') (hd2 : (match d' with | .struct _ | .array _ _ => true | _ => false) = true) (hi2 : (P.info? ty').map (·.size) = some cs'.size) :
    (results fn tmps).run P w = .ok (.tuple #[.agg cs, .agg cs']) w := by
  have hp' : tmps[p]?.getD undef = .pointer (some ⟨g, 0, none⟩) := by simpa using hp
  have hp2' : tmps[u]?.getD undef = .pointer (some ⟨g', 0, none⟩) := by simpa using hp2
  simp [results, h, hp', hp2', asAddr, run_loadVar_row w g t ty cs fr d hg hu hd hi, run_loadVar_row w g' t' ty' cs' fr' d' hg2 hu2 hd2 hi2]
structure OvSt (w wr : World) (a b q r : Nat) : Prop where
  h0 : wr.heap[w.heap.size]? = some (.cells (row20 (dg a)) 81 (0, 0))
  h1 : wr.heap[w.heap.size + 1]? = some (.cells (row20 (dg b)) 81 (0, 0))
  h2 : wr.heap[w.heap.size + 2]? = some (.cells z20 81 (0, 0))
  h3 : wr.heap[w.heap.size + 3]? = some (.cells z20 81 (0, 0))
  h4 : wr.heap[w.heap.size + 4]? = some (.cells (row20 (dg q)) 81 (0, 0))
  h5 : wr.heap[w.heap.size + 5]? = some (.cells (row20 (dg r)) 81 (0, 0))
  bel : Below w.heap.size w wr
theorem heap_lt {w : World} {g : Nat} {o : Obj} (h : w.heap[g]? = some o) : g < w.heap.size := by
  rcases Nat.lt_or_ge g w.heap.size with h2 | h2
  · exact h2
  · rw [Array.getElem?_eq_none h2] at h; cases h
theorem OvSt.below {w wr w2 : World} {a b q r : Nat} (S : OvSt w wr a b q r) (hb : Below wr.heap.size wr w2) : OvSt w w2 a b q r := by
  have h := heap_lt S.h5
  exact ⟨(hb.block _ (by omega)).trans S.h0, (hb.block _ (by omega)).trans S.h1, (hb.block _ (by omega)).trans S.h2, (hb.block _ (by omega)).trans S.h3, (hb.block _ (by omega)).trans S.h4, (hb.block _ (by omega)).trans S.h5, S.bel.trans (hb.mono (by omega))⟩
theorem OvSt.set5 {w wr : World} {a b q r : Nat} (S : OvSt w wr a b q r) (r' : Nat) : OvSt w (wr.setRow (w.heap.size + 5) (row20 (dg r'))) a b q r' :=
  ⟨(setRow_other _ _ _ _ (by omega)).trans S.h0, (setRow_other _ _ _ _ (by omega)).trans S.h1, (setRow_other _ _ _ _ (by omega)).trans S.h2, (setRow_other _ _ _ _ (by omega)).trans S.h3, (setRow_other _ _ _ _ (by omega)).trans S.h4, setRow_heap _ _ _ _ _ _ S.h5, S.bel.setRow (by omega) _⟩
theorem OvSt.cell5 {w wr : World} {a b q r : Nat} (S : OvSt w wr a b q (2 * r)) (t : Nat) (ht : t < 2) : OvSt w (wr.setCell ⟨w.heap.size + 5, 0, none⟩ (.int .u64 (dg (2 * r + t) 0 : Nat))) a b q (2 * r + t) := by
  obtain ⟨d0, dj⟩ := dg0_even r t ht
  refine ⟨(heap_setCell_other _ _ _ _ (by simp)).trans S.h0, (heap_setCell_other _ _ _ _ (by (simp) <;> omega)).trans S.h1, (heap_setCell_other _ _ _ _ (by (simp) <;> omega)).trans S.h2, (heap_setCell_other _ _ _ _ (by (simp) <;> omega)).trans S.h3, (heap_setCell_other _ _ _ _ (by (simp) <;> omega)).trans S.h4, ?_, S.bel.setCell (by (simp) <;> omega) _⟩
  rw [heap_setCell_same _ _ _ _ _ _ S.h5, row20_set _ 0 _ (by omega)]
  congr 2
  apply row20_ext
  intro i hi
  by_cases e : i = 0
  · subst e; rw [if_pos rfl]
  · rw [if_neg e, dj i e]
theorem OvSt.cell4 {w wr : World} {a b q r : Nat} (S : OvSt w wr a b q r) (m i : Nat) (hi : i < 320) (hq : q = m * 2 ^ (i + 1)) : OvSt w (wr.setCell ⟨w.heap.size + 4, i / 16, none⟩ (.int .u64 (dg (m * 2 ^ (i + 1)) (i / 16) + 2 ^ (i % 16) : Nat))) a b (m * 2 ^ (i + 1) + 2 ^ i) r := by
  subst hq
  obtain ⟨dj, d0⟩ := q_bit m i
  refine ⟨(heap_setCell_other _ _ _ _ (by simp)).trans S.h0, (heap_setCell_other _ _ _ _ (by (simp) <;> omega)).trans S.h1, (heap_setCell_other _ _ _ _ (by (simp) <;> omega)).trans S.h2, (heap_setCell_other _ _ _ _ (by (simp) <;> omega)).trans S.h3, ?_, (heap_setCell_other _ _ _ _ (by (simp) <;> omega)).trans S.h5, S.bel.setCell (by (simp) <;> omega) _⟩
  rw [heap_setCell_same _ _ _ _ _ _ S.h4, row20_set _ (i / 16) _ (by omega)]
  congr 2
  apply row20_ext
  intro j hj
  by_cases e : j = i / 16
  · subst e; rw [if_pos rfl, d0]
  · rw [if_neg e, dj j e]
set_option exponentiation.threshold 400 in
theorem over_start (w : World) (a b : Nat) (ha : a / 2 ^ 320 = 0) : OvSt w ((((((w.alloc (.cells (row20 (dg a)) 81)).alloc (.cells (row20 (dg b)) 81)).alloc (.cells z20 81)).alloc (.cells z20 81)).alloc (.cells z20 81)).alloc (.cells z20 81)) a b (a / 2 ^ 320 / b * 2 ^ 320) (a / 2 ^ 320 % b) := by
  rw [ha, Nat.zero_div, Nat.zero_mul, Nat.zero_mod]
  obtain ⟨q0, q1, q2, q3⟩ := alloc4 w (.cells (row20 (dg a)) 81) (.cells (row20 (dg b)) 81) (.cells z20 81) (.cells z20 81)
  have hb4 := below4 w (.cells (row20 (dg a)) 81) (.cells (row20 (dg b)) 81) (.cells z20 81) (.cells z20 81)
  have hs : ((((w.alloc (.cells (row20 (dg a)) 81)).alloc (.cells (row20 (dg b)) 81)).alloc (.cells z20 81)).alloc (.cells z20 81)).heap.size = w.heap.size + 4 := by simp
  generalize (((w.alloc (.cells (row20 (dg a)) 81)).alloc (.cells (row20 (dg b)) 81)).alloc (.cells z20 81)).alloc (.cells z20 81) = v at *
  have hB := ((Below.refl v.heap.size v).alloc (Nat.le_refl _) (.cells z20 81)).alloc (by simp) (.cells z20 81)
  have ez : row20 (dg 0) = z20 := row20_ext _ _ fun i _ => by simp [dg]
  refine ⟨(hB.block _ (by omega)).trans q0, (hB.block _ (by omega)).trans q1, (hB.block _ (by omega)).trans q2, (hB.block _ (by omega)).trans q3, ?_, ?_, hb4.trans (hB.mono (by omega))⟩
  · rw [ez]
    have := heap_alloc2_old v (.cells z20 81) (.cells z20 81)
    rw [hs] at this
    exact this
  · rw [ez]
    have := heap_alloc2_new v (.cells z20 81) (.cells z20 81)
    rw [hs] at this
    exact this
end Go.Proofs.YthlgjbmkealjjaaGreatDoor

namespace Go.Proofs.YthlgjbmkealjjaaGreatDoor
open Go.RowKit
set_option linter.unusedVariables false

theorem step_load_row {P : Program} {ops : Array Oper} {o : Oper} {a : Act} {w : World} {K : Act → World → Prop} {Q : Exit → Act → World → Prop} {E : Prop} (hgd : o.guard = none) (ty : TypeId) (x : Operand) (ho : o.op = .load ty x)
    (g : Nat) (hx : a.eval x = .pointer (some ⟨g, 0, none⟩)) (t : TypeId) (cs : Array Value) (fr : Nat × Nat) (d : TypeDesc) (hg : w.heap[g]? = some (.cells cs t fr))
    (hu : P.underlying ty = some d) (hd : (match d with | .struct _ | .array _ _ => true | _ => false) = true) (hi : (P.info? ty).map (·.size) = some cs.size)
    (h : K (a.put o.dst (.agg cs)) w) : if Region.wanted o (yielded ops a.tmps) = true then Oper.wp P o a w K Q else E := by
  have hw : Region.wanted o (yielded ops a.tmps) = true := by simp [Region.wanted, hgd]
  rw [if_pos hw]
  exact wp_load_row ty x ho g hx t cs fr d hg hu hd hi h
theorem step_store_row {P : Program} {ops : Array Oper} {o : Oper} {a : Act} {w : World} {K : Act → World → Prop} {Q : Exit → Act → World → Prop} {E : Prop} (hgd : o.guard = none) (ty : TypeId) (x y : Operand) (ho : o.op = .store ty x y)
    (g : Nat) (cells : Array Value) (hx : a.eval x = .pointer (some ⟨g, 0, none⟩)) (hy : a.eval y = .agg cells)
    (t : TypeId) (old : Array Value) (hg : w.heap[g]? = some (.cells old t (0, 0))) (hi : (P.info? ty).map (·.size) = some cells.size)
    (hold : old.size = cells.size) (h1 : cells.all (·.oneCell') = true)
    (h : K (a.put o.dst undef) (w.setRow g cells)) : if Region.wanted o (yielded ops a.tmps) = true then Oper.wp P o a w K Q else E := by
  have hw : Region.wanted o (yielded ops a.tmps) = true := by simp [Region.wanted, hgd]
  rw [if_pos hw]
  exact wp_store_row ty x y ho g cells hx hy t old hg hi hold h1 h
theorem over_next (i : Nat) (hi : i < 320) : (∃ j : Nat, j < 320 ∧ Value.int .i64 ((i : Int) - 1) = .int .i64 (j : Int) ∧ i = j + 1) ∨ (Value.int .i64 ((i : Int) - 1) = .int .i64 (-1) ∧ i = 0) := by
  rcases i with _ | j
  · exact .inr ⟨rfl, rfl⟩
  · exact .inl ⟨j, by omega, by congr 1; omega, rfl⟩
set_option maxRecDepth 100000 in
set_option maxHeartbeats 8000000 in
theorem Over_any (a b : Nat) (w : World) (hb0 : 0 < b) (ha : a < 65536 ^ 20) (hb2 : 2 * b < 65536 ^ 20) :
    Calls Tryz.prog 77 #[natOf a, natOf b] w fun e w' => e = .returned (.tuple #[natOf (a / b), natOf (a % b)]) ∧ Below w.heap.size w w' := by
  have hz := zero20
  have e1 : (row20 (dg a)).size = 20 := row20_size _
  have e2 : (row20 (dg b)).size = 20 := row20_size _
  have ST := Lib.hid (over_start w a b (Nat.div_eq_of_lt (by rw [show (2 : Nat) ^ 320 = 65536 ^ 20 from by decide +kernel]; exact ha)))
  have PL := Lib.hid (fun r w => Plus_any r r w)
  have CM := Lib.hid (fun r (hr : r < 65536 ^ 20) w => Cmp_any r b w hr (by omega))
  have MI := Lib.hid (fun m w => Minus_any b m w)
  have HB2 := Lib.hid hb2
  clear ha hb2
  unfold natOf at *
  go_enter Tryz.func77, Tryz.ntmps77
  go_wp2
  go_loopw [8] (fun t wr => ∃ h : Nat, ((∃ i : Nat, i < 320 ∧ t = .int .i64 i ∧ h = i + 1) ∨ (t = .int .i64 (-1) ∧ h = 0)) ∧ OvSt w wr a b (a / 2 ^ h / b * 2 ^ h) (a / 2 ^ h % b)) (fun t _ => (intOf t + 1).toNat)
  case atStart => exact ⟨320, .inl ⟨319, by omega, rfl, rfl⟩, ST.out⟩
  case round =>
    clear ST
    obtain ⟨h, hj, S⟩ := hrel
    rcases hj with ⟨i, hi, rfl, rfl⟩ | ⟨rfl, rfl⟩
    · have hR : a / 2 ^ (i + 1) % b < b := Nat.mod_lt _ hb0
      obtain ⟨hq1, hr1⟩ := over_quot a b i hb0
      have ht : bitAt a i < 2 := Nat.mod_lt _ (by omega)
      have hbd := bit_dg a i
      have hy := dg_lt a (i / 16)
      generalize a / 2 ^ (i + 1) % b = R at *
      generalize a / 2 ^ (i + 1) / b = Q at *
      have HQ1 := Lib.hid hq1
      have HR1 := Lib.hid hr1
      clear hq1 hr1
      generalize bitAt a i = t at *
      have HT := Lib.hid ht
      have H5 := S.h5
      have HS := Lib.hid S
      clear S
      go_wp2_with (first | (refine wpList_load_row rfl 81 _ rfl _ rfl _ _ _ _ H5 Tryz.underlying81 rfl (infoN _) ?_))
      refine (PL.out _ _).mono ?_
      rintro e w2 ⟨rfl, hb2⟩
      have S2 := HS.out.below hb2
      have S3 : OvSt w (w2.setRow (w.heap.size + 1 + 1 + 1 + 1 + 1) (row20 (dg (R + R)))) a b (Q * 2 ^ (i + 1)) (2 * R) := by
        rw [show 2 * R = R + R from by omega]
        exact S2.set5 (R + R)
      have H52 := S2.h5
      clear hb2 H5
      have HS3 := Lib.hid S3
      clear S2 S3 HS
      go_wp2_with (first | (refine wpList_store_row rfl _ _ _ rfl _ _ rfl rfl _ _ H52 (infoN _) (by rw [row20_size]; rfl) (row20_one _) ?_))
      generalize w2.setRow (w.heap.size + 1 + 1 + 1 + 1 + 1) (row20 (dg (R + R))) = v at *
      clear H52
      have hi16 : i / 16 < 20 := by omega
      have c0 : v.cell? ⟨w.heap.size, i / 16, none⟩ = _ := cells_at HS3.out.h0 (i / 16) hi16
      have c5 : v.cell? ⟨w.heap.size + 1 + 1 + 1 + 1 + 1, 0, none⟩ = _ := cells_at HS3.out.h5 0 (by omega)
      have f5 : v.frozen? ⟨w.heap.size + 1 + 1 + 1 + 1 + 1, 0, none⟩ = _ := frozen_of_row _ _ 0 _ _ HS3.out.h5
      have HS5 := Lib.hid (HS3.out.cell5 t HT.out)
      have hK : (i : Int) / 16 = ((i / 16 : Nat) : Int) := rfl
      have hs : (i : Int) % 16 = ((i % 16 : Nat) : Int) := rfl
      have hs16 : i % 16 < 16 := Nat.mod_lt _ (by omega)
      have hd0 := (dg0_even R t HT.out).1
      have hdl := dg_lt (2 * R + t) 0
      have hxl := dg_lt (2 * R) 0
      have HKE : Hid (i / 16 < 20) := Lib.hid hi16
      generalize dg (2 * R + t) 0 = d at *
      generalize dg (2 * R) 0 = x at *
      generalize dg a (i / 16) = y at *
      generalize hKe : i / 16 = K at *
      generalize hse : i % 16 = s at *
      have HKe := Lib.hid hKe
      have HSe := Lib.hid hse
      clear hKe hse
      have wK : IntKind.i64.wrap (K : Int) = (K : Int) := IntWalk.i64_in _ (by omega)
      have ws : IntKind.u64.wrap (s : Int) = (s : Int) := IntWalk.u64_in _ (by omega)
      have ws2 : IntKind.i64.wrap (s : Int) = (s : Int) := IntWalk.i64_in _ (by omega)
      have hb1 : bits .and .u64 ((y : Int) / 2 ^ s) 1 = (t : Int) := by
        rw [show ((y : Int) / 2 ^ s) = ((y / 2 ^ s : Nat) : Int) by simp, and1 _ (Nat.lt_of_le_of_lt (Nat.div_le_self _ _) (by omega)), hbd]
      have hxt : (x : Int) + (t : Int) = (d : Int) := by omega
      clear hbd hd0
      have hKs : Hid ((i : Int) / 16 = (K : Int) ∧ (i : Int) % 16 = (s : Int) ∧ IntKind.i64.wrap (K : Int) = (K : Int) ∧ IntKind.u64.wrap (s : Int) = (s : Int) ∧ IntKind.i64.wrap (s : Int) = (s : Int)) := Lib.hid ⟨hK, hs, wK, ws, ws2⟩
      simp only [Act.put]
      go_region
      have S6 : OvSt w ((v.setCell ⟨w.heap.size + 1 + 1 + 1 + 1 + 1, 0, none⟩ (.int .u64 (d : Int))).drew) a b (Q * 2 ^ (i + 1)) (2 * R + t) := HS5.out.below ((Below.refl _ _).drew)
      clear c0 c5 f5 HS5 HS3 hK hs wK ws ws2 hb1 hxt hxl hdl hy
      generalize (v.setCell ⟨w.heap.size + 1 + 1 + 1 + 1 + 1, 0, none⟩ (.int .u64 (d : Int))).drew = v6 at *
      have HS6 := Lib.hid S6
      have G5 := S6.h5
      have G1 := S6.h1
      clear S6
      by_cases hle : b ≤ 2 * R + t
      · obtain ⟨m, hm⟩ : ∃ m, 2 * R + t = b + m := ⟨2 * R + t - b, by omega⟩
        have hmb : m < b := by omega
        have HR1' : Hid (a / 2 ^ i % b = m) := Lib.hid (by rw [HR1.out, if_pos hle]; omega)
        have HQ1' : Hid (a / 2 ^ i / b = 2 * Q + 1) := Lib.hid (by rw [HQ1.out, if_pos hle])
        clear HR1 HQ1
        rw [hm] at HS6 G5 hle
        have hlt : Hid (b + m < 65536 ^ 20) := Lib.hid (by have := HB2.out; omega)
        clear hm
        have hc : cmpOf (b + m) b ≥ 0 := by unfold cmpOf; split; omega; split <;> decide
        go_wp2_with (first | (refine wpList_load_row rfl 81 _ rfl _ rfl _ _ _ _ G5 Tryz.underlying81 rfl (infoN _) ?_) | (refine wpList_load_row rfl 81 _ rfl _ rfl _ _ _ _ G1 Tryz.underlying81 rfl (infoN _) ?_))
        refine (CM.out _ hlt.out _).mono ?_
        rintro e w7 ⟨rfl, hb7⟩
        generalize cmpOf (b + m) b = c at *
        have HS7 := Lib.hid (HS6.out.below hb7)
        clear hb7 G1 G5 HS6
        have G5 := HS7.out.h5
        have G1 := HS7.out.h1
        go_wp2_with (first | (refine wpList_load_row rfl 81 _ rfl _ rfl _ _ _ _ G5 Tryz.underlying81 rfl (infoN _) ?_) | (refine wpList_load_row rfl 81 _ rfl _ rfl _ _ _ _ G1 Tryz.underlying81 rfl (infoN _) ?_))
        refine (MI.out _ _).mono ?_
        rintro e w8 ⟨rfl, hb8⟩
        have S8 := HS7.out.below hb8
        have S9 : OvSt w (w8.setRow (w.heap.size + 1 + 1 + 1 + 1 + 1) (row20 (dg m))) a b (Q * 2 ^ (i + 1)) m := S8.set5 m
        clear hb8 G1 G5 HS7
        have G5 := S8.h5
        have HS9 := Lib.hid S9
        clear S8 S9
        obtain ⟨hK, hs, wK, ws, ws2⟩ := hKs.out
        have c4 : (w8.setRow (w.heap.size + 1 + 1 + 1 + 1 + 1) (row20 (dg m))).cell? ⟨w.heap.size + 1 + 1 + 1 + 1, K, none⟩ = _ := cells_at HS9.out.h4 K hi16
        have f4 : (w8.setRow (w.heap.size + 1 + 1 + 1 + 1 + 1) (row20 (dg m))).frozen? ⟨w.heap.size + 1 + 1 + 1 + 1, K, none⟩ = _ := frozen_of_row _ _ K _ _ HS9.out.h4
        have HS10 := Lib.hid (HS9.out.cell4 Q i hi rfl)
        rw [HKe.out, HSe.out] at HS10
        have hqd := dg_lt (Q * 2 ^ (i + 1)) K
        have hqe := dg_lt (Q * 2 ^ (i + 1) + 2 ^ i) K
        have hq0 := (q_bit Q i).2
        rw [HKe.out, HSe.out] at hq0
        rw [hq0] at hqe
        have HQ2 : Hid (a / 2 ^ i / b * 2 ^ i = Q * 2 ^ (i + 1) + 2 ^ i) := Lib.hid (by rw [HQ1'.out, Nat.add_mul, Nat.one_mul, Nat.pow_succ, Nat.mul_comm 2 Q, Nat.mul_assoc, Nat.mul_comm 2 (2 ^ i)])
        clear hq0
        have hp : IntKind.u64.wrap (2 ^ s) = ((2 ^ s : Nat) : Int) := by
          rw [show ((2 : Int) ^ s) = ((2 ^ s : Nat) : Int) by simp]
          generalize 2 ^ s = p2 at *
          exact IntWalk.u64_in _ (by omega)
        generalize dg (Q * 2 ^ (i + 1)) K = x2 at *
        generalize hpe : 2 ^ s = p2 at *
        clear hpe
        go_wp2_with (first | (refine wpList_store_row rfl _ _ _ rfl _ _ rfl rfl _ _ G5 (infoN _) (by rw [row20_size]; rfl) (row20_one _) ?_))
        refine ⟨⟨i, over_next i hi, ?_⟩, by simp [intOf] <;> omega⟩
        rw [HQ2.out, HR1'.out]
        first
          | exact HS10.out
          | (rw [hp, show IntKind.u64.wrap ((x2 : Int) + (p2 : Int)) = ((x2 + p2 : Nat) : Int) from IntWalk.u64_in _ (by omega)]; exact HS10.out)
      · have HR1' : Hid (a / 2 ^ i % b = 2 * R + t) := Lib.hid (by rw [HR1.out, if_neg hle]; omega)
        have HQ1' : Hid (a / 2 ^ i / b * 2 ^ i = Q * 2 ^ (i + 1)) := Lib.hid (by rw [HQ1.out, if_neg hle, Nat.add_zero, Nat.pow_succ, Nat.mul_comm 2 Q, Nat.mul_assoc, Nat.mul_comm 2 (2 ^ i)])
        clear HR1 HQ1
        have hlt : Hid (2 * R + t < 65536 ^ 20) := Lib.hid (by have := HB2.out; omega)
        have hc : ¬ cmpOf (2 * R + t) b ≥ 0 := by unfold cmpOf; split; decide; omega
        go_wp2_with (first | (refine wpList_load_row rfl 81 _ rfl _ rfl _ _ _ _ G5 Tryz.underlying81 rfl (infoN _) ?_) | (refine wpList_load_row rfl 81 _ rfl _ rfl _ _ _ _ G1 Tryz.underlying81 rfl (infoN _) ?_))
        refine (CM.out _ hlt.out _).mono ?_
        rintro e w7 ⟨rfl, hb7⟩
        generalize cmpOf (2 * R + t) b = c at *
        have HS7 := Lib.hid (HS6.out.below hb7)
        clear hb7 G1 G5 HS6
        go_wp2
        refine ⟨⟨i, over_next i hi, ?_⟩, by simp [intOf] <;> omega⟩
        rw [HQ1'.out, HR1'.out]
        exact HS7.out
    · rw [show a / 2 ^ 0 / b * 2 ^ 0 = a / b by simp, show a / 2 ^ 0 % b = a % b by simp] at S
      have G4 := S.h4
      have G5 := S.h5
      have G2 := S.h2
      have G3 := S.h3
      go_upto_region 10 with (fail)
      have G3b : (wr.drew.setRow (w.heap.size + 1 + 1) (row20 (dg (a / b)))).heap[w.heap.size + 3]? = _ := (setRow_other wr.drew _ _ _ (by omega)).trans G3
      have G5b : (wr.drew.setRow (w.heap.size + 1 + 1) (row20 (dg (a / b)))).heap[w.heap.size + 5]? = _ := (setRow_other wr.drew _ _ _ (by omega)).trans G5
      have H2f : ((wr.drew.setRow (w.heap.size + 1 + 1) (row20 (dg (a / b)))).setRow (w.heap.size + 1 + 1 + 1) (row20 (dg (a % b)))).heap[w.heap.size + 2]? = some (.cells (row20 (dg (a / b))) 81 (0, 0)) := (setRow_other _ _ _ _ (by omega)).trans (setRow_heap wr.drew _ _ _ _ _ G2)
      have H3f : ((wr.drew.setRow (w.heap.size + 1 + 1) (row20 (dg (a / b)))).setRow (w.heap.size + 1 + 1 + 1) (row20 (dg (a % b)))).heap[w.heap.size + 3]? = some (.cells (row20 (dg (a % b))) 81 (0, 0)) := setRow_heap _ _ _ _ _ _ G3b
      have BEL : Below w.heap.size w ((wr.drew.setRow (w.heap.size + 1 + 1) (row20 (dg (a / b)))).setRow (w.heap.size + 1 + 1 + 1) (row20 (dg (a % b)))) := ((S.bel.drew).setRow (by omega) _).setRow (by omega) _
      refine wp_region_any (by kernel_rfl) ?_
      change wpAny _ _ _ _ _ _ _ (World.drew _)
      refine wpAny_ready (rs := [0, 1]) (by kernel_rfl) (by simp) ?_
      refine AllReady.cons rfl (fun K hK => ?_) (AllReady.cons rfl (fun K hK => ?_) AllReady.nil)
      · refine step_load_row rfl 81 _ rfl _ rfl _ _ _ _ G4 Tryz.underlying81 rfl (infoN _) ?_; refine hK _ _ ?_; clear hK K
        refine wpAny_ready (rs := [1, 2]) (by kernel_rfl) (by simp) ?_
        refine AllReady.cons rfl (fun K hK => ?_) (AllReady.cons rfl (fun K hK => ?_) AllReady.nil)
        · refine step_load_row rfl 81 _ rfl _ rfl _ _ _ _ G5 Tryz.underlying81 rfl (infoN _) ?_; refine hK _ _ ?_; clear hK K
          refine wpAny_ready (rs := [2]) (by kernel_rfl) (by simp) ?_
          refine AllReady.cons rfl (fun K hK => ?_) AllReady.nil
          refine step_store_row rfl _ _ _ rfl _ _ rfl rfl _ _ G2 (infoN _) (by rw [row20_size]; rfl) (row20_one _) ?_; refine hK _ _ ?_; clear hK K
          refine wpAny_ready (rs := [3]) (by kernel_rfl) (by simp) ?_
          refine AllReady.cons rfl (fun K hK => ?_) AllReady.nil
          refine step_store_row rfl _ _ _ rfl _ _ rfl rfl _ _ G3b (infoN _) (by rw [row20_size]; rfl) (row20_one _) ?_; refine hK _ _ ?_; clear hK K
          refine wpAny_done (by kernel_rfl) ?_ _; go_wp2; exact bodyPost_ret (results_cells (fn := Tryz.f77) rfl _ _ (w.heap.size + 2) (w.heap.size + 3) 81 81 (row20 (dg (a / b))) (row20 (dg (a % b))) (0, 0) (0, 0) _ _ rfl H2f Tryz.underlying81 rfl (infoN _) rfl H3f Tryz.underlying81 rfl (infoN _)) rfl ⟨rfl, BEL⟩
        · refine step_store_row rfl _ _ _ rfl _ _ rfl rfl _ _ G2 (infoN _) (by rw [row20_size]; rfl) (row20_one _) ?_; refine hK _ _ ?_; clear hK K
          refine wpAny_ready (rs := [1]) (by kernel_rfl) (by simp) ?_
          refine AllReady.cons rfl (fun K hK => ?_) AllReady.nil
          refine step_load_row rfl 81 _ rfl _ rfl _ _ _ _ G5b Tryz.underlying81 rfl (infoN _) ?_; refine hK _ _ ?_; clear hK K
          refine wpAny_ready (rs := [3]) (by kernel_rfl) (by simp) ?_
          refine AllReady.cons rfl (fun K hK => ?_) AllReady.nil
          refine step_store_row rfl _ _ _ rfl _ _ rfl rfl _ _ G3b (infoN _) (by rw [row20_size]; rfl) (row20_one _) ?_; refine hK _ _ ?_; clear hK K
          refine wpAny_done (by kernel_rfl) ?_ _; go_wp2; exact bodyPost_ret (results_cells (fn := Tryz.f77) rfl _ _ (w.heap.size + 2) (w.heap.size + 3) 81 81 (row20 (dg (a / b))) (row20 (dg (a % b))) (0, 0) (0, 0) _ _ rfl H2f Tryz.underlying81 rfl (infoN _) rfl H3f Tryz.underlying81 rfl (infoN _)) rfl ⟨rfl, BEL⟩
      · refine step_load_row rfl 81 _ rfl _ rfl _ _ _ _ G5 Tryz.underlying81 rfl (infoN _) ?_; refine hK _ _ ?_; clear hK K
        refine wpAny_ready (rs := [0]) (by kernel_rfl) (by simp) ?_
        refine AllReady.cons rfl (fun K hK => ?_) AllReady.nil
        refine step_load_row rfl 81 _ rfl _ rfl _ _ _ _ G4 Tryz.underlying81 rfl (infoN _) ?_; refine hK _ _ ?_; clear hK K
        refine wpAny_ready (rs := [2]) (by kernel_rfl) (by simp) ?_
        refine AllReady.cons rfl (fun K hK => ?_) AllReady.nil
        refine step_store_row rfl _ _ _ rfl _ _ rfl rfl _ _ G2 (infoN _) (by rw [row20_size]; rfl) (row20_one _) ?_; refine hK _ _ ?_; clear hK K
        refine wpAny_ready (rs := [3]) (by kernel_rfl) (by simp) ?_
        refine AllReady.cons rfl (fun K hK => ?_) AllReady.nil
        refine step_store_row rfl _ _ _ rfl _ _ rfl rfl _ _ G3b (infoN _) (by rw [row20_size]; rfl) (row20_one _) ?_; refine hK _ _ ?_; clear hK K
        refine wpAny_done (by kernel_rfl) ?_ _; go_wp2; exact bodyPost_ret (results_cells (fn := Tryz.f77) rfl _ _ (w.heap.size + 2) (w.heap.size + 3) 81 81 (row20 (dg (a / b))) (row20 (dg (a % b))) (0, 0) (0, 0) _ _ rfl H2f Tryz.underlying81 rfl (infoN _) rfl H3f Tryz.underlying81 rfl (infoN _)) rfl ⟨rfl, BEL⟩
end Go.Proofs.YthlgjbmkealjjaaGreatDoor
