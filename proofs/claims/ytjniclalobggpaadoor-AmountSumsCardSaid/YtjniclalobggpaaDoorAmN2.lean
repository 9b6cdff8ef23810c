/-
  The walks of the reference's Of and Size. No statement is proved here.
-/
import Derived.Test.YtjniclalobggpaaDoorAmN
import Derived.Test.YtjniclalobggpaaDoorAmW2
namespace Go.Proofs.YtjniclalobggpaaDoor
open Go.RowKit
set_option linter.unusedVariables false

theorem row20_one (f : Nat → Nat) : (row20 f).all (·.oneCell') = true := by
  simp [row20, Value.oneCell']
def z20 : Array Value := row20 (fun _ => 0)
theorem zero20 (w : World) : (zeroValue 59).run Tryd.prog w = .ok (.agg z20) w := by kernel_rfl
theorem infoN (f : Nat → Nat) : (Tryd.prog.info? 59).map (·.size) = some (row20 f).size := by rw [row20_size]; kernel_rfl
theorem _root_.Go.RowKit.Below.setRow {B : Nat} {a w : World} (h : Below B a w) {g : Nat} (hg : B ≤ g) (cs : Array Value) : Below B a (w.setRow g cs) :=
  h.trans ⟨rfl, rfl, rfl, by simp, fun k hk => setRow_other w g k cs (by omega)⟩
theorem dg_far (n m i : Nat) (h : n < 65536 ^ m) (hi : m ≤ i) : dg n i = 0 :=
  dg_small n i (Nat.lt_of_lt_of_le h (Nat.pow_le_pow_right (by omega) hi))
set_option maxRecDepth 100000 in
set_option maxHeartbeats 1000000 in
theorem Of_any (n : Nat) (w : World) (hn : n < 18446744073709551616) :
    Calls Tryd.prog 38 #[.int .u64 n] w fun e w' => e = .returned (natOf n) ∧ Below w.heap.size w w' := by
  have hz := zero20
  go_enter Tryd.func38, Tryd.ntmps38
  go_wp2
  go_loopw [0, 4] (fun v t wr => ∃ k : Nat, k ≤ 4 ∧ v = .int .u64 (n / 65536 ^ k : Nat) ∧ t = .int .i64 k ∧ wr.heap[w.heap.size]? = some (.cells z20 59 (0, 0)) ∧ wr.heap[w.heap.size + 1]? = some (.cells (row20 fun i => if i < k then dg n i else 0) 59 (0, 0)) ∧ Below w.heap.size w wr) (fun _ t _ => 4 - (intOf t).toNat)
  case atStart =>
    refine ⟨0, by omega, by simp, rfl, ?_, ?_, ?_⟩
    · exact heap_alloc2_old w _ _
    · exact heap_alloc2_new w _ _
    · exact ((Below.refl _ _).alloc (Nat.le_refl _) _).alloc (by simp) _
  case round =>
    obtain ⟨k, hk, rfl, rfl, h0, h1, hb⟩ := hrel
    by_cases hlt : k < 4
    · have hc : wr.cell? ⟨w.heap.size + 1, k, none⟩ = some (.int .u64 0) := by
        rw [cell_of_row _ _ _ _ _ _ h1, row20_at _ k (by omega), if_neg (by omega)]
        rfl
      have hf := frozen_of_row _ _ k _ _ h1
      have H0 := Lib.hid h0
      have H1 := Lib.hid h1
      have e1 : ((n / 65536 ^ k : Nat) : Int) % 65536 = (dg n k : Int) := rfl
      have e2 : ((n / 65536 ^ k : Nat) : Int) / 65536 = ((n / 65536 ^ (k + 1) : Nat) : Int) := by
        rw [pow_succ', ← Nat.div_div_eq_div_mul]
        rfl
      have hx : n / 65536 ^ k < 18446744073709551616 := Nat.lt_of_le_of_lt (Nat.div_le_self _ _) hn
      have hdl := dg_lt n k
      clear h0 h1
      have HS : Hid (∀ w0 : World, w0.heap[w.heap.size + 1]? = some (.cells (row20 fun i => if i < k then dg n i else 0) 59 (0, 0)) → (w0.setCell ⟨w.heap.size + 1, k, none⟩ (.int .u64 (dg n k : Int))).heap[w.heap.size + 1]? = some (.cells (row20 fun i => if i < k + 1 then dg n i else 0) 59 (0, 0))) := Lib.hid (fun w0 h => by
        rw [heap_setCell_same _ _ _ _ _ _ h, row20_set _ k _ (by omega)]
        congr 2
        apply row20_ext
        intro i hi
        by_cases e : i = k
        · subst e; rw [if_pos rfl, if_pos (by omega)]
        · rw [if_neg e]
          by_cases e2 : i < k
          · rw [if_pos e2, if_pos (by omega)]
          · rw [if_neg e2, if_neg (by omega)])
      generalize dg n k = d at *
      generalize n / 65536 ^ k = x at *
      generalize hx' : n / 65536 ^ (k + 1) = x' at *
      have HX := Lib.hid hx'
      clear hx'
      go_wp2
      go_roundw
      case rel =>
        refine ⟨k + 1, by omega, by rw [HX.out], by go_num, ?_, HS.out _ H1.out, hb.setCell (by simp) _⟩
        rw [heap_setCell_other _ _ _ _ (by simp)]
        exact H0.out
      case measure => simp [intOf]; omega
    · obtain rfl : k = 4 := by omega
      have e4 : (row20 fun i => if i < 4 then dg n i else 0) = row20 (dg n) := row20_ext _ _ fun i hi => by
        by_cases h : i < 4
        · rw [if_pos h]
        · rw [if_neg h, dg_far n 4 i (by omega) (by omega)]
      rw [e4] at h1
      have H0 := Lib.hid h0
      have H1 := Lib.hid h1
      clear h0 h1 e4
      go_wp2_with (first | (refine wpList_load_row rfl 59 _ rfl _ rfl _ _ _ _ H1.out Tryd.underlying59 rfl ?c1 ?_) | (refine wpList_store_row rfl _ _ _ rfl _ _ rfl rfl _ _ H0.out ?c2 ?c3 ?c4 ?_))
      case c1 => exact infoN _
      case c2 => exact infoN _
      case c3 => rw [row20_size]; rfl
      case c4 => exact row20_one _
      exact bodyPost_ret (results_cell_row (fn := Tryd.f38) rfl _ _ w.heap.size 59 (row20 (dg n)) (0, 0) _ rfl (setRow_heap _ _ _ _ _ _ H0.out) Tryd.underlying59 rfl (infoN _)) rfl ⟨rfl, hb.setRow (Nat.le_refl _) _⟩
set_option maxRecDepth 100000 in
set_option maxHeartbeats 1000000 in
theorem Size_any (v : Int) (w : World) (h0 : -9223372036854775808 ≤ v) (h1 : v ≤ 9223372036854775807) :
    Calls Tryd.prog 35 #[.int .i64 v] w fun e w' => e = .returned (natOf v.natAbs) ∧ Below w.heap.size w w' := by
  have hz := zero20
  have O := Lib.hid (fun w => Of_any v.natAbs w (by omega))
  rcases Int.lt_or_le v 0 with hv | hv
  · obtain ⟨n, rfl⟩ : ∃ n : Nat, v = -(n : Int) := ⟨v.natAbs, by omega⟩
    rw [show (-(n : Int)).natAbs = n by omega] at O ⊢
    have hn1 : 1 ≤ n := by omega
    go_enter Tryd.func35, Tryd.ntmps35
    go_wp2_with fail
    rw [show -(-(n : Int) + 1) + 1 = (n : Int) by omega]
    refine (O.out _).mono ?_
    rintro e w2 ⟨rfl, hb2⟩
    have H0 : w2.heap[w.heap.size]? = some (.cells z20 59 (0, 0)) := (hb2.block _ (by simp)).trans (heap_alloc_new w _)
    have hb : Below w.heap.size w w2 := (below_alloc (Below.refl _ w) _).trans (hb2.mono (by simp))
    unfold natOf
    go_wp2_with (first | (refine wpList_store_row rfl _ _ _ rfl _ _ rfl rfl _ _ H0 ?c2 ?c3 ?c4 ?_))
    case c2 => exact infoN _
    case c3 => rw [row20_size]; rfl
    case c4 => exact row20_one _
    exact bodyPost_ret (results_cell_row (fn := Tryd.f35) rfl _ _ w.heap.size 59 (row20 (dg n)) (0, 0) _ rfl (setRow_heap _ _ _ _ _ _ H0) Tryd.underlying59 rfl (infoN _)) rfl ⟨rfl, hb.setRow (Nat.le_refl _) _⟩
  · obtain ⟨n, rfl⟩ := Int.eq_ofNat_of_zero_le hv
    rw [show ((n : Int)).natAbs = n from rfl] at O ⊢
    go_enter Tryd.func35, Tryd.ntmps35
    go_wp2_with fail
    refine (O.out _).mono ?_
    rintro e w2 ⟨rfl, hb2⟩
    have H0 : w2.heap[w.heap.size]? = some (.cells z20 59 (0, 0)) := (hb2.block _ (by simp)).trans (heap_alloc_new w _)
    have hb : Below w.heap.size w w2 := (below_alloc (Below.refl _ w) _).trans (hb2.mono (by simp))
    unfold natOf
    go_wp2_with (first | (refine wpList_store_row rfl _ _ _ rfl _ _ rfl rfl _ _ H0 ?c2 ?c3 ?c4 ?_))
    case c2 => exact infoN _
    case c3 => rw [row20_size]; rfl
    case c4 => exact row20_one _
    exact bodyPost_ret (results_cell_row (fn := Tryd.f35) rfl _ _ w.heap.size 59 (row20 (dg n)) (0, 0) _ rfl (setRow_heap _ _ _ _ _ _ H0) Tryd.underlying59 rfl (infoN _)) rfl ⟨rfl, hb.setRow (Nat.le_refl _) _⟩
end Go.Proofs.YtjniclalobggpaaDoor
