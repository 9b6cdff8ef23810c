/-
  The walk of the reference's Minus. No statement is proved here.
-/
import Derived.Test.YtjniclalobggpaaDoorAmN3
namespace Go.Proofs.YtjniclalobggpaaDoor
open Go.RowKit
set_option linter.unusedVariables false

set_option maxRecDepth 100000 in
set_option maxHeartbeats 2000000 in
theorem Minus_any (b m : Nat) (w : World) :
    Calls Tryd.prog 59 #[natOf (b + m), natOf b] w fun e w' => e = .returned (natOf m) ∧ Below w.heap.size w w' := by
  have hz := zero20
  have e1 : (row20 (dg (b + m))).size = 20 := row20_size _
  have e2 : (row20 (dg b)).size = 20 := row20_size _
  unfold natOf
  go_enter Tryd.func59, Tryd.ntmps59
  go_wp2
  go_loopw [5, 6] (fun c t wr => ∃ k : Nat, k ≤ 20 ∧ c = .int .u64 (carryAt b m k : Int) ∧ t = .int .i64 k ∧ wr.heap[w.heap.size]? = some (.cells (row20 fun i => if i < k then dg m i else dg (b + m) i) 59 (0, 0)) ∧ wr.heap[w.heap.size + 1]? = some (.cells (row20 (dg b)) 59 (0, 0)) ∧ wr.heap[w.heap.size + 2]? = some (.cells z20 59 (0, 0)) ∧ Below w.heap.size w wr) (fun _ t _ => 20 - (intOf t).toNat)
  case atStart =>
    obtain ⟨q0, q1, q2⟩ := alloc3 w (.cells (row20 (dg (b + m))) 59) (.cells (row20 (dg b)) 59) (.cells z20 59)
    exact ⟨0, by omega, by rw [carryAt_zero]; rfl, rfl, q0, q1, q2, (((Below.refl _ _).alloc (Nat.le_refl _) _).alloc (by simp) _).alloc (by simp; omega) _⟩
  case round =>
    obtain ⟨k, hk, rfl, rfl, h0, h1, h2, hb⟩ := hrel
    by_cases hlt : k < 20
    · have c0 := cells_at h0 k hlt
      rw [if_neg (by omega)] at c0
      have c1 := cells_at h1 k hlt
      have f0 := frozen_of_row _ _ k _ _ h0
      obtain ⟨s1, s2, s3⟩ := sub_step b m k
      have HS := Lib.hid (row_step (dg (b + m)) (dg m) k hlt)
      have hx := dg_lt (b + m) k
      have hy := dg_lt b k
      have hcl := carryAt_le b m k
      have hdl := dg_lt m k
      have hcl2 := carryAt_le b m (k + 1)
      have H0 := Lib.hid h0
      have H1 := Lib.hid h1
      have H2 := Lib.hid h2
      clear h0 h1 h2
      generalize dg (b + m) k = x at *
      generalize dg b k = y at *
      generalize carryAt b m k = c at *
      generalize hcn : carryAt b m (k + 1) = cn at *
      have HCN := Lib.hid hcn
      generalize hdn : dg m k = d at *
      clear hcn hdn
      have t1 : (65536 + (x : Int) - (y : Int) - (c : Int)) % 65536 = (d : Int) := by omega
      have t2 : 1 - (65536 + (x : Int) - (y : Int) - (c : Int)) / 65536 = (cn : Int) := by omega
      have t3 : (y : Int) + (c : Int) ≤ 65536 + (x : Int) := by omega
      clear s1 s2 s3
      go_upto_region 5 with (fail)
      go_quiet (fail)
      go_wp2
      go_roundw
      case rel =>
        refine ⟨k + 1, by omega, by (rw [HCN.out]) <;> (first | rw [t2] | rfl), by go_num, ?_, ?_, ?_, ?_⟩
        · rw [heap_setCell_same _ _ _ _ _ _ (by exact H0.out), HS.out]
        · rw [heap_setCell_other _ _ _ _ (by simp)]; exact H1.out
        · rw [heap_setCell_other _ _ _ _ (by simp)]; exact H2.out
        · exact (below_drewN hb _).setCell (Nat.le_refl _) _
      case measure => (try simp [intOf]) <;> (try omega)
    · obtain rfl : k = 20 := by omega
      rw [row_end] at h0
      have H0 := Lib.hid h0
      have H2 := Lib.hid h2
      clear h0 h1 h2
      go_wp2_with (first | (refine wpList_load_row rfl 59 _ rfl _ rfl _ _ _ _ H0.out Tryd.underlying59 rfl ?c1 ?_) | (refine wpList_store_row rfl _ _ _ rfl _ _ rfl rfl _ _ H2.out ?c2 ?c3 ?c4 ?_))
      case c1 => exact infoN _
      case c2 => exact infoN _
      case c3 => rw [row20_size]; rfl
      case c4 => exact row20_one _
      exact bodyPost_ret (results_cell_row (fn := Tryd.f59) rfl _ _ (w.heap.size + 2) 59 (row20 (dg m)) (0, 0) _ rfl (setRow_heap _ _ _ _ _ _ H2.out) Tryd.underlying59 rfl (infoN _)) rfl ⟨rfl, hb.setRow (by omega) _⟩
end Go.Proofs.YtjniclalobggpaaDoor
