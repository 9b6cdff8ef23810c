/-
  The walk of AccrueOwn.
-/
import Derived.Test.YtmpbpgcmiboflaaAcOr
namespace Go.Proofs.Ytmpbpgcmiboflaa
open Go.RowKit
set_option linter.unusedVariables false
set_option maxRecDepth 100000 in
set_option maxHeartbeats 4000000 in
theorem AccrueOwn_walk (p : Prod) (A : Option Addr) (n c : Nat) (E : Option Addr) (m ce : Nat) (l : List Ev) (v : Int) (w : World) (hA : RdI w A n p.bounds) (hs : p.name.size ≤ 140737488351232) (hn : n ≤ c) (hc : c * 8 ≤ 140737488351232) (hE : RdE w E m l) (hm : m ≤ ce) (hce : ce * 56 ≤ 140737488351232) (he : ∀ e ∈ l, e.loan.size ≤ 140737488351232 ∧ (-9223372036854775808 ≤ e.day ∧ e.day ≤ 9223372036854775807) ∧ (-9223372036854775808 ≤ e.seq ∧ e.seq ≤ 9223372036854775807)) (hv0 : -9223372036854775808 ≤ v) (hv1 : v ≤ 9223372036854775807) :
    Calls Try.prog 9 #[p.val (.slice A n c), .slice E m ce, .int .i64 v] w fun e w' => e = .returned (.bool true) ∧ Below w.heap.size w w' := by
  have WK := Lib.hid wakes_any
  have CP := Lib.hid fun W (h : RdI W A n p.bounds) => Copy_any p A n c W h (by omega)
  have EVO := Lib.hid fun W (h : RdE W E m l) => events_own E m ce l W h (by omega)
  have RP := Lib.hid fun A' c' E' ce' W (h : RdI W A' n p.bounds) (h2 : RdE W E' m l) => Replay_any p A' n c' E' m ce' l v W h h2 (by omega)
  generalize replayAns p l v = ans at RP
  have CN := Lib.hid fun W (h : RdI W A n p.bounds) => Copy_new p A n c W h (by omega)
  have LT := Lib.hid fun A' c' W (h : RdI W A' n p.bounds) => Late_any p A' n c' v 5 3 v W h
  generalize lateAns p v 5 3 v = ans2 at LT
  have SM := Lib.hid fun A' c' W (h : RdI W A' n p.bounds) (h2 : RdI W A n p.bounds) => SameP_any p A' A n c' c W h h2 (by omega)
  have SE := Lib.hid fun E' c' W (h : RdE W E' m l) (h2 : RdE W E m l) => SameE_any E' E m c' ce l W h h2 (by omega)
  obtain ⟨name, rate, conv, step, count, o1, o2, o3, bounds⟩ := p
  simp only [Prod.val, pCells] at CP CN RP LT SM ⊢
  obtain ⟨w1, hw1⟩ : ∃ w1, w1 = w.alloc (.cells #[.string name, .int .i64 rate, .int .i64 conv, .int .i64 step, .int .i64 count, .int .i64 o1, .int .i64 o2, .int .i64 o3, .slice A n c] 25) := ⟨_, rfl⟩
  have hb1 : Below w.heap.size w w1 := by rw [hw1]; exact (Below.refl _ _).alloc (Nat.le_refl _) _
  have hz1 : w1.heap.size = w.heap.size + 1 := by rw [hw1]; simp
  have hS1 : w1.heap[w.heap.size]? = some (.cells #[.string name, .int .i64 rate, .int .i64 conv, .int .i64 step, .int .i64 count, .int .i64 o1, .int .i64 o2, .int .i64 o3, .slice A n c] 25 (0, 0)) := by rw [hw1]; exact heap_alloc_new _ _
  go_enter Try.func9, Try.ntmps9
  go_upto_region 1 with (fail)
  rw [← hw1]
  clear hw1
  go_wp2_with fail
  refine (WK.out _).mono ?_
  rintro e w2 ⟨rfl, hb2⟩
  have hb02 := hb1.trans (hb2.mono hb1.size)
  have hl2 : w.heap.size < w2.heap.size := by have := hb2.size; omega
  have hS2 := (hb2.block w.heap.size (by omega)).trans hS1
  have HA := Lib.hid fun W (hW : Below w2.heap.size w2 W) => (hA.below hb02).below hW
  have HE := Lib.hid fun W (hW : Below w2.heap.size w2 W) => (hE.below hb02).below hW
  have CS := Lib.hid fun W (hW : Below w2.heap.size w2 W) => show Below w2.heap.size w2 W ∧ W.cell? ⟨w.heap.size, 0, none⟩ = some (.string name) ∧ W.cell? ⟨w.heap.size, 1, none⟩ = some (.int .i64 rate) ∧ W.cell? ⟨w.heap.size, 2, none⟩ = some (.int .i64 conv) ∧ W.cell? ⟨w.heap.size, 3, none⟩ = some (.int .i64 step) ∧ W.cell? ⟨w.heap.size, 4, none⟩ = some (.int .i64 count) ∧ W.cell? ⟨w.heap.size, 5, none⟩ = some (.int .i64 o1) ∧ W.cell? ⟨w.heap.size, 6, none⟩ = some (.int .i64 o2) ∧ W.cell? ⟨w.heap.size, 7, none⟩ = some (.int .i64 o3) ∧ W.cell? ⟨w.heap.size, 8, none⟩ = some (.slice A n c) from ⟨hW, by rw [cell_of_row _ _ _ _ _ _ ((hW.block w.heap.size hl2).trans hS2)]; rfl, by rw [cell_of_row _ _ _ _ _ _ ((hW.block w.heap.size hl2).trans hS2)]; rfl, by rw [cell_of_row _ _ _ _ _ _ ((hW.block w.heap.size hl2).trans hS2)]; rfl, by rw [cell_of_row _ _ _ _ _ _ ((hW.block w.heap.size hl2).trans hS2)]; rfl, by rw [cell_of_row _ _ _ _ _ _ ((hW.block w.heap.size hl2).trans hS2)]; rfl, by rw [cell_of_row _ _ _ _ _ _ ((hW.block w.heap.size hl2).trans hS2)]; rfl, by rw [cell_of_row _ _ _ _ _ _ ((hW.block w.heap.size hl2).trans hS2)]; rfl, by rw [cell_of_row _ _ _ _ _ _ ((hW.block w.heap.size hl2).trans hS2)]; rfl, by rw [cell_of_row _ _ _ _ _ _ ((hW.block w.heap.size hl2).trans hS2)]; rfl⟩
  have HROW := Lib.hid hS2
  clear hb1 hb2 hS1 hz1 hA hE hS2 WK
  have h22 : Below w2.heap.size w2 w2 := Below.refl _ _
  have hlm : l.length = m := (HE.out _ h22).1
  have hrw : w2.heap[w.heap.size]? = some (.cells (pCells ⟨name, rate, conv, step, count, o1, o2, o3, bounds⟩ (.slice A n c)) 25 (0, 0)) := HROW.out
  go_upto_region 3 with (fail)
  go_cut [7, 8] from 11 to 17 (fun t7 t8 wx => ∃ wq : World, wq = wx ∧ OwnEnd w2 ⟨name, rate, conv, step, count, o1, o2, o3, bounds⟩ n m l t7 t8 wq)
  case first =>
    refine own_region _ _ w2 ⟨name, rate, conv, step, count, o1, o2, o3, bounds⟩ A n c E m ce l w.heap.size (fun _ _ _ _ _ h => h) rfl rfl rfl hrw (HE.out _ h22) (HA.out _ h22) (by omega) (by omega) ?_
    intro v6 gl E7 c7 A9 c9 gp W hE
    simp only [Act.put, List.setIfInBounds_toArray, List.set_cons_zero, List.set_cons_succ]
    go_wp2
    go_meet
    case rel => exact ⟨_, rfl, hE⟩
  case rest =>
    obtain ⟨w3, rfl, E3, c3, gp, A3, c4, rfl, rfl, hc3, hrow, hE3, hA3, hb3⟩ := hcut
    obtain ⟨E4, hct, hE4⟩ := cut_e E3 (m + 1) c3 m (by omega) (by omega)
    have htake : (l ++ [ev77]).take m = l := by rw [← hlm]; simp
    have HE4 := Lib.hid fun W (hW : Below w3.heap.size w3 W) => show RdE W E4 m l from htake ▸ hE4 W _ (hE3.below hW)
    have HA4 := Lib.hid fun W (hW : Below w3.heap.size w3 W) => hA3.below hW
    have HR4 := Lib.hid fun W (hW : Below w3.heap.size w3 W) => (hW.block gp (Array.getElem?_eq_some_iff.1 hrow).1).trans hrow
    have CS4 := Lib.hid fun W (hW : Below w3.heap.size w3 W) => show Below w3.heap.size w3 W ∧ W.cell? ⟨gp, 0, none⟩ = some (.string name) ∧ W.cell? ⟨gp, 1, none⟩ = some (.int .i64 rate) ∧ W.cell? ⟨gp, 2, none⟩ = some (.int .i64 conv) ∧ W.cell? ⟨gp, 3, none⟩ = some (.int .i64 step) ∧ W.cell? ⟨gp, 4, none⟩ = some (.int .i64 count) ∧ W.cell? ⟨gp, 5, none⟩ = some (.int .i64 o1) ∧ W.cell? ⟨gp, 6, none⟩ = some (.int .i64 o2) ∧ W.cell? ⟨gp, 7, none⟩ = some (.int .i64 o3) ∧ W.cell? ⟨gp, 8, none⟩ = some (.slice A3 n c4) from ⟨hW, by rw [cell_of_row _ _ _ _ _ _ (HR4.out W hW)]; rfl, by rw [cell_of_row _ _ _ _ _ _ (HR4.out W hW)]; rfl, by rw [cell_of_row _ _ _ _ _ _ (HR4.out W hW)]; rfl, by rw [cell_of_row _ _ _ _ _ _ (HR4.out W hW)]; rfl, by rw [cell_of_row _ _ _ _ _ _ (HR4.out W hW)]; rfl, by rw [cell_of_row _ _ _ _ _ _ (HR4.out W hW)]; rfl, by rw [cell_of_row _ _ _ _ _ _ (HR4.out W hW)]; rfl, by rw [cell_of_row _ _ _ _ _ _ (HR4.out W hW)]; rfl, by rw [cell_of_row _ _ _ _ _ _ (HR4.out W hW)]; rfl⟩
    have h33 : Below w3.heap.size w3 w3 := Below.refl _ _
    obtain ⟨b7, o7, rfl, hc7⟩ := hE3.2 (by omega)
    have hx7 : (l ++ [ev77])[m]? = some ev77 := by rw [← hlm]; simp
    obtain ⟨hm7, hg7⟩ := List.getElem?_eq_some_iff.1 hx7
    have HX := Lib.hid fun W (hW : Below w3.heap.size w3 W) => show W.cell? ⟨b7, o7 + m * 6, none⟩ = some (.int .i64 77) from by
      have := hc7 m hm7 0 (.int .i64 77) (by rw [hg7]; rfl)
      exact cell_later hW this
    have HB3 := Lib.hid hb3
    clear hE4 hE3 hA3 hrow hc7 hx7 hm7 hg7 hb3 htake h22
    go_wp2_with fail
    go_region_held3 (fun W => Below w3.heap.size w3 W ∧ W.cell? ⟨gp, 0, none⟩ = some (.string name) ∧ W.cell? ⟨gp, 1, none⟩ = some (.int .i64 rate) ∧ W.cell? ⟨gp, 2, none⟩ = some (.int .i64 conv) ∧ W.cell? ⟨gp, 3, none⟩ = some (.int .i64 step) ∧ W.cell? ⟨gp, 4, none⟩ = some (.int .i64 count) ∧ W.cell? ⟨gp, 5, none⟩ = some (.int .i64 o1) ∧ W.cell? ⟨gp, 6, none⟩ = some (.int .i64 o2) ∧ W.cell? ⟨gp, 7, none⟩ = some (.int .i64 o3) ∧ W.cell? ⟨gp, 8, none⟩ = some (.slice A3 n c4))
      (refine CS4.out _ ?_ <;> with_reducible (repeat (first | assumption | exact Below.refl _ _ | apply below_drewN | apply Below.drew | apply below_alloc)))
      (first
        | (go_simp; go_at_call 11; refine (RP.out A3 c4 E4 c3 _ (HA4.out _ (by with_reducible (repeat (first | assumption | exact Below.refl _ _ | apply below_drewN | apply Below.drew | apply below_alloc)))) (HE4.out _ (by with_reducible (repeat (first | assumption | exact Below.refl _ _ | apply below_drewN | apply Below.drew | apply below_alloc))))).mono ?_; rintro e w5 ⟨rfl, hb5⟩; have HB5 : Below w3.heap.size w3 w5 := Below.then hb5 (by with_reducible (repeat (first | assumption | exact Below.refl _ _ | apply below_drewN | apply Below.drew | apply below_alloc)))))
    obtain ⟨_, q0, q1, q2, q3, q4, q5, q6, q7, q8⟩ := CS4.out _ HB5
    go_wp2_with fail
    refine (LT.out A3 c4 _ (HA4.out _ HB5)).mono ?_
    rintro e w6 ⟨rfl, hb6⟩
    have HB6 := Below.then hb6 HB5
    clear q0 q1 q2 q3 q4 q5 q6 q7 q8
    have x7 := HX.out _ HB6
    have hmi : (m : Int) < ((m + 1 : Nat) : Int) := by omega
    go_wp2_with fail
    refine (SE.out E4 c3 _ (HE4.out _ HB6) (HE.out _ (HB3.out.trans (HB6.mono HB3.out.size)))).mono ?_
    rintro e w7 ⟨rfl, hb7⟩
    have HB7 := Below.then hb7 HB6
    have HB27 := HB3.out.trans (HB7.mono HB3.out.size)
    obtain ⟨_, q0, q1, q2, q3, q4, q5, q6, q7, q8⟩ := CS4.out _ HB7
    obtain ⟨_, r0, r1, r2, r3, r4, r5, r6, r7, r8⟩ := CS.out _ HB27
    go_wp2_with fail
    refine (SM.out A3 c4 _ (HA4.out _ HB7) (HA.out _ HB27)).mono ?_
    rintro e w8 ⟨rfl, hb8⟩
    go_wp2
    go_ret
    exact ⟨rfl, hb02.trans ((HB27.trans (hb8.mono HB27.size)).mono hb02.size)⟩
end Go.Proofs.Ytmpbpgcmiboflaa
