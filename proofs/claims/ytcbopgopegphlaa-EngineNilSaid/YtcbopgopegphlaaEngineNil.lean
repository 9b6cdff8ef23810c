/-
  The walk of EngineNil.
-/
import Derived.Test.YtcbopgopegphlaaEnV
namespace Go.Proofs.Ytcbopgopegphlaa
open Go.RowKit
set_option linter.unusedVariables false
set_option maxRecDepth 100000 in
set_option maxHeartbeats 2000000 in
theorem EngineNil_walk (e : Ev) (v : Int) (w : World) (he : e.loan.size ≤ 140737488351232) (hv0 : -9223372036854775808 ≤ v) (hv1 : v ≤ 9223372036854775807) :
    Calls Try.prog 4 #[e.val, .int .i64 v] w fun x w' => x = .returned (.bool true) ∧ Below w.heap.size w w' := by
  have HAT := Lib.hid fun W => At_nil v W
  have HAS := Lib.hid fun W => AsOf_nil v v W
  have HAD := Lib.hid fun W => Add_nil e W
  have HWK := Lib.hid wakes_any
  have hie := info_ev e
  unfold Ev.val at HAD ⊢
  unfold St.val at HAT HAS
  have hsi := info_st St.zero
  have hso := st_one St.zero
  have hsz : ((Try.prog.info? 40).bind (·.zero)).map (·.cells.size) = some (stCells St.zero).size := by rw [show (stCells St.zero).size = 12 from rfl]; kernel_rfl
  have heq : ∀ W, (Op.equalIn 10000 40 (.agg (stCells St.zero)) (.agg (stCells St.zero))).run Try.prog W = .ok true W := fun W => st_equal St.zero W
  have g40 : Try.prog.eqGuardType Try.prog.depth 40 = false := by kernel_rfl
  obtain ⟨w1, hw1⟩ : ∃ w1, w1 = w.alloc (.cells (evCells e) 38) := ⟨_, rfl⟩
  have hb1 : Below w.heap.size w w1 := by rw [hw1]; exact (Below.refl _ _).alloc (Nat.le_refl _) _
  have hr1 : w1.heap[w.heap.size]? = some (.cells (evCells e) 38 (0, 0)) := by rw [hw1]; exact heap_alloc_new _ _
  generalize evCells e = EC at *
  rw [show stCells St.zero = #[.int .i64 0, .int .i64 0, .int .i64 0, .int .i64 0, .int .i64 0, .int .i64 0, .int .i64 0, .int .i64 0, .int .i64 0, .int .i64 0, .int .i64 0, .int .i64 0] from rfl] at hsi hso hsz
  have HAT : Hid (∀ W, Calls Try.prog 11 #[.pointer none, .int .i64 v] W fun x w' => x = .returned (.tuple #[.agg #[.int .i64 0, .int .i64 0, .int .i64 0, .int .i64 0, .int .i64 0, .int .i64 0, .int .i64 0, .int .i64 0, .int .i64 0, .int .i64 0, .int .i64 0, .int .i64 0], .int .i64 1]) ∧ Below W.heap.size W w') := Lib.hid HAT.out
  have HAS : Hid (∀ W, Calls Try.prog 10 #[.pointer none, .int .i64 v, .int .i64 v] W fun x w' => x = .returned (.tuple #[.agg #[.int .i64 0, .int .i64 0, .int .i64 0, .int .i64 0, .int .i64 0, .int .i64 0, .int .i64 0, .int .i64 0, .int .i64 0, .int .i64 0, .int .i64 0, .int .i64 0], .int .i64 1]) ∧ Below W.heap.size W w') := Lib.hid HAS.out
  have heq : ∀ W, (Op.equalIn 10000 40 (.agg #[.int .i64 0, .int .i64 0, .int .i64 0, .int .i64 0, .int .i64 0, .int .i64 0, .int .i64 0, .int .i64 0, .int .i64 0, .int .i64 0, .int .i64 0, .int .i64 0]) (.agg #[.int .i64 0, .int .i64 0, .int .i64 0, .int .i64 0, .int .i64 0, .int .i64 0, .int .i64 0, .int .i64 0, .int .i64 0, .int .i64 0, .int .i64 0, .int .i64 0])).run Try.prog W = .ok true W := heq
  go_enter Try.func4, Try.ntmps4
  go_upto_region 2 with (fail)
  rw [← hw1]
  clear hw1
  go_upto_region 3 with (first
    | (go_at_call 11; refine (HAT.out w1).mono ?_; rintro x w2 ⟨rfl, hb2⟩)
    | (refine alloc_store rfl rfl 40 _ _ rfl rfl rfl rfl #[.int .i64 0, .int .i64 0, .int .i64 0, .int .i64 0, .int .i64 0, .int .i64 0, .int .i64 0, .int .i64 0, .int .i64 0, .int .i64 0, .int .i64 0, .int .i64 0] rfl rfl hsz hsi hso ?_))
  have hr2 := (hb2.block _ (Array.getElem?_eq_some_iff.1 hr1).1).trans hr1
  obtain ⟨g6, hg6⟩ : ∃ g6, g6 = w2.heap.size := ⟨_, rfl⟩
  rw [← hg6]
  refine wp_at (fun wx => wx.heap[g6]? = some (.cells #[.int .i64 0, .int .i64 0, .int .i64 0, .int .i64 0, .int .i64 0, .int .i64 0, .int .i64 0, .int .i64 0, .int .i64 0, .int .i64 0, .int .i64 0, .int .i64 0] 40 (0, 0)) ∧ Below w2.heap.size w2 wx) (by rw [hg6]; exact ⟨heap_alloc_new _ _, (Below.refl _ _).alloc (Nat.le_refl _) _⟩) ?_
  rintro w3 ⟨hq3, hb3⟩
  clear hg6
  have hr3 := (hb3.block _ (Array.getElem?_eq_some_iff.1 hr2).1).trans hr2
  have hb03 := hb1.trans ((hb2.mono hb1.size).trans (hb3.mono (Nat.le_trans hb1.size hb2.size)))
  clear hr1 hr2 hb2 hb3 hb1
  go_upto_region 4 with (first
    | (go_at_call 10; refine (HAS.out w3).mono ?_; rintro x w4 ⟨rfl, hb4⟩)
    | (refine alloc_store rfl rfl 40 _ _ rfl rfl rfl rfl #[.int .i64 0, .int .i64 0, .int .i64 0, .int .i64 0, .int .i64 0, .int .i64 0, .int .i64 0, .int .i64 0, .int .i64 0, .int .i64 0, .int .i64 0, .int .i64 0] rfl rfl hsz hsi hso ?_))
  have hr4 := (hb4.block _ (Array.getElem?_eq_some_iff.1 hr3).1).trans hr3
  have hq4 := (hb4.block _ (Array.getElem?_eq_some_iff.1 hq3).1).trans hq3
  obtain ⟨g8, hg8⟩ : ∃ g8, g8 = w4.heap.size := ⟨_, rfl⟩
  rw [← hg8]
  refine wp_at (fun wx => wx.heap[g8]? = some (.cells #[.int .i64 0, .int .i64 0, .int .i64 0, .int .i64 0, .int .i64 0, .int .i64 0, .int .i64 0, .int .i64 0, .int .i64 0, .int .i64 0, .int .i64 0, .int .i64 0] 40 (0, 0)) ∧ Below w4.heap.size w4 wx) (by rw [hg8]; exact ⟨heap_alloc_new _ _, (Below.refl _ _).alloc (Nat.le_refl _) _⟩) ?_
  rintro w5 ⟨hs5, hb5⟩
  clear hg8
  have hr5 := (hb5.block _ (Array.getElem?_eq_some_iff.1 hr4).1).trans hr4
  have hq5 := (hb5.block _ (Array.getElem?_eq_some_iff.1 hq4).1).trans hq4
  have hb05 := hb03.trans ((hb4.mono hb03.size).trans (hb5.mono (Nat.le_trans hb03.size hb4.size)))
  clear hr3 hr4 hq3 hq4 hb4 hb5 hb03
  go_wp2_with (first
    | (go_at_call 6; refine (HWK.out w5).mono ?_; rintro x w6 ⟨rfl, hb6⟩; have hr6 := (hb6.block _ (Array.getElem?_eq_some_iff.1 hr5).1).trans hr5; have hq6 := (hb6.block _ (Array.getElem?_eq_some_iff.1 hq5).1).trans hq5; have hs6 := (hb6.block _ (Array.getElem?_eq_some_iff.1 hs5).1).trans hs5)
    | (refine wpList_load_row_if (by rfl) 38 _ rfl _ rfl _ _ _ _ hr6 Try.underlying38 rfl hie ?_)
    | (go_at_call 9; refine (HAD.out w6).mono ?_; rintro x w7 ⟨rfl, hb7⟩; have hq7 := (hb7.block _ (Array.getElem?_eq_some_iff.1 hq6).1).trans hq6; have hs7 := (hb7.block _ (Array.getElem?_eq_some_iff.1 hs6).1).trans hs6)
    | (refine wpList_load_row_if (by rfl) 40 _ rfl g6 rfl _ _ _ _ hq7 Try.underlying40 rfl hsi ?_)
    | (refine wpList_load_row_if (by rfl) 40 _ rfl g8 rfl _ _ _ _ hs7 Try.underlying40 rfl hsi ?_)
    | (go_at_call 12; refine (Events_nil w7).mono ?_; rintro x w8 ⟨rfl, rfl⟩))
  go_ret
  exact ⟨rfl, hb05.trans ((hb6.mono hb05.size).trans (hb7.mono (Nat.le_trans hb05.size hb6.size)))⟩
end Go.Proofs.Ytcbopgopegphlaa
