/-
  The walks of the reference's Cmp, Plus, Minus. No statement is proved here.
-/
import Derived.Test.YtjniclalobggpaaDoorAmN2
namespace Go.Proofs.YtjniclalobggpaaDoor
open Go.RowKit
set_option linter.unusedVariables false

def cmpOf (a b : Nat) : Int := if a < b then -1 else if b < a then 1 else 0
theorem cells_at {w : World} {g : Nat} {f : Nat → Nat} (h : w.heap[g]? = some (.cells (row20 f) 59 (0, 0))) (k : Nat) (hk : k < 20) : w.cell? ⟨g, k, none⟩ = some (.int .u64 (f k : Int)) := by
  rw [cell_of_row _ _ _ _ _ _ h, row20_at _ k hk]
set_option maxRecDepth 100000 in
set_option maxHeartbeats 2000000 in
theorem Cmp_any (a b : Nat) (w : World) (ha : a < 65536 ^ 20) (hb : b < 65536 ^ 20) :
    Calls Tryd.prog 44 #[natOf a, natOf b] w fun e w' => e = .returned (.int .i64 (cmpOf a b)) ∧ Below w.heap.size w w' := by
  have HC := Lib.hid (show cmpOf a b = if a < b then -1 else if b < a then 1 else 0 from rfl)
  have H20 : Hid (a / 65536 ^ (19 + 1) = b / 65536 ^ (19 + 1)) := Lib.hid (by rw [Nat.div_eq_of_lt ha, Nat.div_eq_of_lt hb])
  generalize cmpOf a b = c at *
  have e1 : (row20 (dg a)).size = 20 := row20_size _
  have e2 : (row20 (dg b)).size = 20 := row20_size _
  clear ha hb
  unfold natOf
  go_enter Tryd.func44, Tryd.ntmps44
  go_wp2
  go_loopw [5] (fun t wr => ((∃ j : Nat, j < 20 ∧ t = .int .i64 j ∧ Hid (a / 65536 ^ (j + 1) = b / 65536 ^ (j + 1))) ∨ (t = .int .i64 (-1) ∧ a = b)) ∧ wr.heap[w.heap.size]? = some (.cells (row20 (dg a)) 59 (0, 0)) ∧ wr.heap[w.heap.size + 1]? = some (.cells (row20 (dg b)) 59 (0, 0)) ∧ Below w.heap.size w wr) (fun t _ => (intOf t + 1).toNat)
  case atStart => exact ⟨.inl ⟨19, by omega, rfl, H20⟩, heap_alloc2_old w _ _, heap_alloc2_new w _ _, ((Below.refl _ _).alloc (Nat.le_refl _) _).alloc (by simp) _⟩
  case round =>
    obtain ⟨hj, h0, h1, hb⟩ := hrel
    rcases hj with ⟨j, hj, rfl, hq⟩ | ⟨rfl, hab⟩
    · have c0 := cells_at h0 j hj
      have c1 := cells_at h1 j hj
      have hl := Lib.hid (cmp_lt a b j hq.out)
      have hg := Lib.hid (cmp_lt b a j hq.out.symm)
      have he := Lib.hid (cmp_eq' a b j hq.out)
      have H0 := Lib.hid h0
      have H1 := Lib.hid h1
      have hx := dg_lt a j
      have hy := dg_lt b j
      clear h0 h1
      generalize dg a j = x at *
      generalize dg b j = y at *
      rcases Nat.lt_trichotomy x y with h | h | h
      · have hc : c = -1 := by rw [HC.out, if_pos (hl.out h)]
        subst hc
        have hd : decide ((x : Int) < (y : Int)) = true := by rw [decide_eq_true_iff]; omega
        go_upto_region 4 with (fail)
        go_quiet (fail)
        go_wp2
        go_ret
        exact ⟨rfl, below_drewN hb _⟩
      · subst h
        have HE := Lib.hid (he.out rfl)
        have hd : decide ((x : Int) < (x : Int)) = false := by rw [decide_eq_false_iff_not]; omega
        go_upto_region 4 with (fail)
        go_quiet (fail)
        go_upto_region 6 with (fail)
        go_quiet (fail)
        go_wp2
        go_roundw
        case rel =>
          refine ⟨?_, H0.out, H1.out, below_drewN hb _⟩
          cases j with
          | zero => exact .inr ⟨rfl, by have := HE.out; simpa using this⟩
          | succ j => exact .inl ⟨j, by omega, by go_num, Lib.hid HE.out⟩
        case measure => (try simp [intOf]) <;> (try omega)
      · have hc : c = 1 := by rw [HC.out, if_neg (by have := hg.out h; omega), if_pos (hg.out h)]
        subst hc
        have hd : decide ((x : Int) < (y : Int)) = false := by rw [decide_eq_false_iff_not]; omega
        have hd2 : decide ((y : Int) < (x : Int)) = true := by rw [decide_eq_true_iff]; omega
        go_upto_region 4 with (fail)
        go_quiet (fail)
        go_upto_region 6 with (fail)
        go_quiet (fail)
        go_wp2
        go_ret
        first | exact ⟨rfl, below_drewN hb _⟩ | exact ⟨rfl, below_drewN (below_drewN hb _) _⟩
    · have hc : c = 0 := by rw [HC.out, if_neg (by omega), if_neg (by omega)]
      subst hc
      go_wp2
      go_ret
      exact ⟨rfl, hb⟩
/-- One digit of a row is set: the digits below it are those of one number, the others of another one. -/
theorem row_step (f h : Nat → Nat) (k : Nat) (hk : k < 20) : (row20 fun i => if i < k then h i else f i).setIfInBounds k (.int .u64 (h k : Int)) = row20 fun i => if i < k + 1 then h i else f i := by
  rw [row20_set _ k _ hk]
  apply row20_ext
  intro i hi
  by_cases e : i = k
  · subst e; rw [if_pos rfl, if_pos (by omega)]
  · rw [if_neg e]
    by_cases e2 : i < k
    · rw [if_pos e2, if_pos (by omega)]
    · rw [if_neg e2, if_neg (by omega)]
theorem row_end (f h : Nat → Nat) : (row20 fun i => if i < 20 then h i else f i) = row20 h := row20_ext _ _ fun i hi => by rw [if_pos hi]
theorem alloc3 (w : World) (a b c : Obj) : (((w.alloc a).alloc b).alloc c).heap[w.heap.size]? = some a ∧ (((w.alloc a).alloc b).alloc c).heap[w.heap.size + 1]? = some b ∧ (((w.alloc a).alloc b).alloc c).heap[w.heap.size + 2]? = some c := by
  have hB := (Below.refl ((w.alloc a).alloc b).heap.size ((w.alloc a).alloc b)).alloc (Nat.le_refl _) c
  refine ⟨(hB.block _ (by simp; omega)).trans (heap_alloc2_old w _ _), (hB.block _ (by simp)).trans (heap_alloc2_new w _ _), ?_⟩
  have := heap_alloc_new ((w.alloc a).alloc b) c
  simpa using this
set_option maxRecDepth 100000 in
set_option maxHeartbeats 2000000 in
theorem Plus_any (a b : Nat) (w : World) :
    Calls Tryd.prog 52 #[natOf a, natOf b] w fun e w' => e = .returned (natOf (a + b)) ∧ Below w.heap.size w w' := by
  have hz := zero20
  have e1 : (row20 (dg a)).size = 20 := row20_size _
  have e2 : (row20 (dg b)).size = 20 := row20_size _
  unfold natOf
  go_enter Tryd.func52, Tryd.ntmps52
  go_wp2
  go_loopw [5, 6] (fun c t wr => ∃ k : Nat, k ≤ 20 ∧ c = .int .u64 (carryAt a b k : Int) ∧ t = .int .i64 k ∧ wr.heap[w.heap.size]? = some (.cells (row20 fun i => if i < k then dg (a + b) i else dg a i) 59 (0, 0)) ∧ wr.heap[w.heap.size + 1]? = some (.cells (row20 (dg b)) 59 (0, 0)) ∧ wr.heap[w.heap.size + 2]? = some (.cells z20 59 (0, 0)) ∧ Below w.heap.size w wr) (fun _ t _ => 20 - (intOf t).toNat)
  case atStart =>
    obtain ⟨q0, q1, q2⟩ := alloc3 w (.cells (row20 (dg a)) 59) (.cells (row20 (dg b)) 59) (.cells z20 59)
    exact ⟨0, by omega, by rw [carryAt_zero]; rfl, rfl, q0, q1, q2, (((Below.refl _ _).alloc (Nat.le_refl _) _).alloc (by simp) _).alloc (by simp; omega) _⟩
  case round =>
    obtain ⟨k, hk, rfl, rfl, h0, h1, h2, hb⟩ := hrel
    by_cases hlt : k < 20
    · have c0 := cells_at h0 k hlt
      rw [if_neg (by omega)] at c0
      have c1 := cells_at h1 k hlt
      have f0 := frozen_of_row _ _ k _ _ h0
      obtain ⟨s1, s2⟩ := add_step a b k
      have HS := Lib.hid (row_step (dg a) (dg (a + b)) k hlt)
      have hx := dg_lt a k
      have hy := dg_lt b k
      have hcl := carryAt_le a b k
      have hdl := dg_lt (a + b) k
      have hcl2 := carryAt_le a b (k + 1)
      have H0 := Lib.hid h0
      have H1 := Lib.hid h1
      have H2 := Lib.hid h2
      clear h0 h1 h2
      generalize dg a k = x at *
      generalize dg b k = y at *
      generalize carryAt a b k = c at *
      generalize hcn : carryAt a b (k + 1) = cn at *
      have HCN := Lib.hid hcn
      generalize hdn : dg (a + b) k = d at *
      clear hcn hdn
      have t1 : ((x : Int) + (y : Int) + (c : Int)) % 65536 = (d : Int) := by omega
      have t2 : ((x : Int) + (y : Int) + (c : Int)) / 65536 = (cn : Int) := by omega
      clear s1 s2
      go_upto_region 5 with (fail)
      go_quiet (fail)
      go_wp2
      go_roundw
      case rel =>
        refine ⟨k + 1, by omega, by rw [HCN.out]; first | rw [t2] | rfl, by go_num, ?_, ?_, ?_, ?_⟩
        · rw [heap_setCell_same _ _ _ _ _ _ (by exact H0.out), HS.out]
        · rw [heap_setCell_other _ _ _ _ (by simp)]; exact H1.out
        · rw [heap_setCell_other _ _ _ _ (by simp)]; exact H2.out
        · exact (below_drewN hb _).setCell (Nat.le_refl _) _
      case measure => (try simp [intOf]) <;> (try omega)
    · obtain rfl : k = 20 := by omega
      rw [row_end] at h0
      have H0 := Lib.hid h0
      have H2 := Lib.hid h2
      clear h0 h1 h2
      go_wp2_with (first | (refine wpList_load_row rfl 59 _ rfl _ rfl _ _ _ _ H0.out Tryd.underlying59 rfl ?c1 ?_) | (refine wpList_store_row rfl _ _ _ rfl _ _ rfl rfl _ _ H2.out ?c2 ?c3 ?c4 ?_))
      case c1 => exact infoN _
      case c2 => exact infoN _
      case c3 => rw [row20_size]; rfl
      case c4 => exact row20_one _
      exact bodyPost_ret (results_cell_row (fn := Tryd.f52) rfl _ _ (w.heap.size + 2) 59 (row20 (dg (a + b))) (0, 0) _ rfl (setRow_heap _ _ _ _ _ _ H2.out) Tryd.underlying59 rfl (infoN _)) rfl ⟨rfl, hb.setRow (by omega) _⟩
end Go.Proofs.YtjniclalobggpaaDoor
