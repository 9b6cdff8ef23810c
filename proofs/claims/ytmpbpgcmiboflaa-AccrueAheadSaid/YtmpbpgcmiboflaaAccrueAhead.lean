/-
  The walk of AccrueAhead.
-/
import Derived.Test.YtmpbpgcmiboflaaAcWW
import Derived.Test.YtmpbpgcmiboflaaAcS
import Derived.Test.YtmpbpgcmiboflaaAcU
namespace Go.Proofs.Ytmpbpgcmiboflaa
open Go.RowKit
set_option linter.unusedVariables false

theorem elemUndE : Try.prog.underlying 26 = some (.slice (Try.prog.elem 26)) := by kernel_rfl
theorem cut_e (E : Option Addr) (m ce j : Nat) (hj : j ≤ m) (hm : m ≤ ce) : ∃ E', (∀ W, (Instr.slice 26 (.slice E m ce) none (some (.int .i64 (j : Int))) none).run Try.prog W = .ok (.slice E' j ce) W) ∧ (∀ W l, RdE W E m l → RdE W E' j (l.take j)) := by
  refine ⟨(if ce = 0 then E else E.map (·.add (0 * 6))), fun W => ?_, fun W l h => ?_⟩
  · have hs : (sizeOf (Try.prog.elem 26)).run Try.prog W = .ok 6 W := by kernel_rfl
    rw [run_slice_h W 26 E m ce elemUndE .i64 _ (by omega) (by omega), hs]
    simp [Result.andThen, sliced]
  · have hl := h.1
    refine ⟨by rw [List.length_take]; omega, fun h0 => ?_⟩
    obtain ⟨b, off, rfl, hc⟩ := h.2 (by omega)
    refine ⟨b, off, by rw [if_neg (by omega)]; simp [Addr.add], fun q hq k u hu => ?_⟩
    rw [List.getElem_take] at hu
    exact hc q (by rw [List.length_take] at hq; omega) k u hu

set_option maxRecDepth 100000 in
set_option maxHeartbeats 4000000 in
theorem AccrueAhead_walk (p : Prod) (A : Option Addr) (n c : Nat) (E : Option Addr) (m ce : Nat) (l : List Ev) (v : Int) (w : World) (hA : RdI w A n p.bounds) (hs : p.name.size ≤ 140737488351232) (hn : n ≤ c) (hc : c * 8 ≤ 140737488351232) (hE : RdE w E m l) (hm : m ≤ ce) (hce : ce * 56 ≤ 140737488351232) (he : ∀ e ∈ l, e.loan.size ≤ 140737488351232 ∧ (-9223372036854775808 ≤ e.day ∧ e.day ≤ 9223372036854775807) ∧ (-9223372036854775808 ≤ e.seq ∧ e.seq ≤ 9223372036854775807)) (hv0 : -9223372036854775808 ≤ v) (hv1 : v ≤ 9223372036854775807) :
    Calls Try.prog 6 #[p.val (.slice A n c), .slice E m ce, .int .i64 v] w fun e w' => e = .returned (.bool true) ∧ Below w.heap.size w w' := by
  have WK := Lib.hid wakes_any
  have CP := Lib.hid fun W (h : RdI W A n p.bounds) => Copy_any p A n c W h (by omega)
  have EV := Lib.hid fun W (h : RdE W E m l) => events_any E m ce l W h (by omega)
  have RP := Lib.hid fun A' c' E' ce' W (h : RdI W A' n p.bounds) (h2 : RdE W E' m l) => Replay_any p A' n c' E' m ce' l v W h h2 (by omega)
  have RC := Lib.hid (replay_cases p l v)
  have RJ := Lib.hid fun j A' c' E' ce' W (hj : j ≤ m) (h : RdI W A' n p.bounds) (h2 : RdE W E' j (l.take j)) => Replay_any p A' n c' E' j ce' (l.take j) v W h h2 (by omega)
  generalize hans : replayAns p l v = ans at RP
  have HANS := Lib.hid hans
  clear hans
  obtain ⟨⟨d, r, pr, i, f, cr, o, nn, a, ch, la, bk⟩, k⟩ := ans
  simp only [St.val, stCells] at RP
  obtain ⟨name, rate, conv, step, count, o1, o2, o3, bounds⟩ := p
  simp only [Prod.val, pCells] at CP RP RJ ⊢
  obtain ⟨w1, hw1⟩ : ∃ w1, w1 = w.alloc (.cells #[.string name, .int .i64 rate, .int .i64 conv, .int .i64 step, .int .i64 count, .int .i64 o1, .int .i64 o2, .int .i64 o3, .slice A n c] 25) := ⟨_, rfl⟩
  have hb1 : Below w.heap.size w w1 := by rw [hw1]; exact (Below.refl _ _).alloc (Nat.le_refl _) _
  have hz1 : w1.heap.size = w.heap.size + 1 := by rw [hw1]; simp
  have hS1 : w1.heap[w.heap.size]? = some (.cells #[.string name, .int .i64 rate, .int .i64 conv, .int .i64 step, .int .i64 count, .int .i64 o1, .int .i64 o2, .int .i64 o3, .slice A n c] 25 (0, 0)) := by rw [hw1]; exact heap_alloc_new _ _
  go_enter Try.func6, Try.ntmps6
  go_upto_region 1 with (fail)
  rw [← hw1]
  clear hw1
  go_wp2_with fail
  refine (WK.out _).mono ?_
  rintro e w2 ⟨rfl, hb2⟩
  have hb02 := hb1.trans (hb2.mono hb1.size)
  have hl2 : w.heap.size < w2.heap.size := by have := hb2.size; omega
  have hS2 := (hb2.block w.heap.size (by omega)).trans hS1
  have HA := Lib.hid fun W (hW : Below w2.heap.size w2 W) => (hA.below hb02).below hW
  have HE := Lib.hid fun W (hW : Below w2.heap.size w2 W) => (hE.below hb02).below hW
  have CS := Lib.hid fun W (hW : Below w2.heap.size w2 W) => show W.cell? ⟨w.heap.size, 0, none⟩ = some (.string name) ∧ W.cell? ⟨w.heap.size, 1, none⟩ = some (.int .i64 rate) ∧ W.cell? ⟨w.heap.size, 2, none⟩ = some (.int .i64 conv) ∧ W.cell? ⟨w.heap.size, 3, none⟩ = some (.int .i64 step) ∧ W.cell? ⟨w.heap.size, 4, none⟩ = some (.int .i64 count) ∧ W.cell? ⟨w.heap.size, 5, none⟩ = some (.int .i64 o1) ∧ W.cell? ⟨w.heap.size, 6, none⟩ = some (.int .i64 o2) ∧ W.cell? ⟨w.heap.size, 7, none⟩ = some (.int .i64 o3) ∧ W.cell? ⟨w.heap.size, 8, none⟩ = some (.slice A n c) from ⟨by rw [cell_of_row _ _ _ _ _ _ ((hW.block w.heap.size hl2).trans hS2)]; rfl, by rw [cell_of_row _ _ _ _ _ _ ((hW.block w.heap.size hl2).trans hS2)]; rfl, by rw [cell_of_row _ _ _ _ _ _ ((hW.block w.heap.size hl2).trans hS2)]; rfl, by rw [cell_of_row _ _ _ _ _ _ ((hW.block w.heap.size hl2).trans hS2)]; rfl, by rw [cell_of_row _ _ _ _ _ _ ((hW.block w.heap.size hl2).trans hS2)]; rfl, by rw [cell_of_row _ _ _ _ _ _ ((hW.block w.heap.size hl2).trans hS2)]; rfl, by rw [cell_of_row _ _ _ _ _ _ ((hW.block w.heap.size hl2).trans hS2)]; rfl, by rw [cell_of_row _ _ _ _ _ _ ((hW.block w.heap.size hl2).trans hS2)]; rfl, by rw [cell_of_row _ _ _ _ _ _ ((hW.block w.heap.size hl2).trans hS2)]; rfl⟩
  clear hb1 hb2 hS1 hz1 hA hE hS2 WK
  have h22 : Below w2.heap.size w2 w2 := Below.refl _ _
  obtain ⟨q0, q1, q2, q3, q4, q5, q6, q7, q8⟩ := CS.out _ h22
  go_upto_region 3 with (fail)
  go_wp2_with fail
  refine (CP.out _ (HA.out _ h22)).mono ?_
  rintro e w5 ⟨⟨A5, c5, rfl, hA5⟩, hb5⟩
  go_wp2_with fail
  refine (EV.out _ (HE.out _ hb5)).mono ?_
  rintro e w6 ⟨⟨E6, c6, rfl, hE6⟩, hb6⟩
  have HB6 := Below.then hb6 hb5
  go_wp2_with fail
  refine (RP.out _ _ _ _ _ (hA5.below hb6) hE6).mono ?_
  rintro e w7 ⟨rfl, hb7⟩
  have HB7 := Below.then hb7 HB6
  clear q0 q1 q2 q3 q4 q5 q6 q7 q8 hb5 hb6 hb7 hA5 hE6 HB6
  go_upto_region 4 with (fail)
  refine wp_at (fun wx => wx.heap[w7.heap.size]? = some (.cells #[.int .i64 d, .int .i64 r, .int .i64 pr, .int .i64 i, .int .i64 f, .int .i64 cr, .int .i64 o, .int .i64 nn, .int .i64 a, .int .i64 ch, .int .i64 la, .int .i64 bk] 29 (0, 0)) ∧ Below w2.heap.size w2 wx) ⟨heap_alloc_new _ _, HB7.alloc HB7.size _⟩ ?_
  rintro w8 ⟨hr8, hb8⟩
  obtain ⟨g, hg⟩ : ∃ g, g = w7.heap.size := ⟨_, rfl⟩
  rw [← hg] at hr8 ⊢
  clear hg HB7
  obtain ⟨z0, z1, z2, z3, z4, z5, z6, z7, z8, z9, z10, z11⟩ : w8.cell? ⟨g, 0, none⟩ = some (.int .i64 d) ∧ w8.cell? ⟨g, 1, none⟩ = some (.int .i64 r) ∧ w8.cell? ⟨g, 2, none⟩ = some (.int .i64 pr) ∧ w8.cell? ⟨g, 3, none⟩ = some (.int .i64 i) ∧ w8.cell? ⟨g, 4, none⟩ = some (.int .i64 f) ∧ w8.cell? ⟨g, 5, none⟩ = some (.int .i64 cr) ∧ w8.cell? ⟨g, 6, none⟩ = some (.int .i64 o) ∧ w8.cell? ⟨g, 7, none⟩ = some (.int .i64 nn) ∧ w8.cell? ⟨g, 8, none⟩ = some (.int .i64 a) ∧ w8.cell? ⟨g, 9, none⟩ = some (.int .i64 ch) ∧ w8.cell? ⟨g, 10, none⟩ = some (.int .i64 la) ∧ w8.cell? ⟨g, 11, none⟩ = some (.int .i64 bk) := ⟨by rw [cell_of_row _ _ _ _ _ _ hr8]; rfl, by rw [cell_of_row _ _ _ _ _ _ hr8]; rfl, by rw [cell_of_row _ _ _ _ _ _ hr8]; rfl, by rw [cell_of_row _ _ _ _ _ _ hr8]; rfl, by rw [cell_of_row _ _ _ _ _ _ hr8]; rfl, by rw [cell_of_row _ _ _ _ _ _ hr8]; rfl, by rw [cell_of_row _ _ _ _ _ _ hr8]; rfl, by rw [cell_of_row _ _ _ _ _ _ hr8]; rfl, by rw [cell_of_row _ _ _ _ _ _ hr8]; rfl, by rw [cell_of_row _ _ _ _ _ _ hr8]; rfl, by rw [cell_of_row _ _ _ _ _ _ hr8]; rfl, by rw [cell_of_row _ _ _ _ _ _ hr8]; rfl⟩
  have i29 : (Try.prog.info? 29).map (·.size) = some 12 := by kernel_rfl
  have u29 := Try.underlying29
  have g29 : Try.prog.eqGuardType Try.prog.depth 29 = false := by kernel_rfl
  rcases RC.out with ⟨k', hk, h⟩ | ⟨L, s, hwent, h⟩
  · rw [HANS.out] at h
    injection h with h1 h2
    subst h2
    injection h1 with h1 h2 h3 h4 h5 h6 h7 h8 h9 h10 h11 h12
    subst h1 h2 h3 h4 h5 h6 h7 h8 h9 h10 h11 h12
    have hk1 : (k == 0) = false := by simpa using hk
    have hk2 : (k != 0) = true := by simpa using hk
    have heq : ∀ W, (Op.equalIn 10000 29 (.agg #[.int .i64 0, .int .i64 0, .int .i64 0, .int .i64 0, .int .i64 0, .int .i64 0, .int .i64 0, .int .i64 0, .int .i64 0, .int .i64 0, .int .i64 0, .int .i64 0]) (.agg #[.int .i64 0, .int .i64 0, .int .i64 0, .int .i64 0, .int .i64 0, .int .i64 0, .int .i64 0, .int .i64 0, .int .i64 0, .int .i64 0, .int .i64 0, .int .i64 0])).run Try.prog W = .ok true W := fun W => st_equal St.zero W
    go_wp2
    go_ret
    exact ⟨rfl, hb02.trans (hb8.mono hb02.size)⟩
  · rw [HANS.out] at h
    injection h with h1 h2
    subst h1 h2
    have hlm := (HE.out _ hb8).1
    have HAH := Lib.hid fun j (hj : j ≤ l.length) h1 h2 => hwent.ahead j hj h1 h2
    clear hwent
    go_upto_block 0 with (fail)
    go_cut [9] from 28 to 42 (fun y wx => ∃ j : Nat, y = .int .i64 j ∧ j ≤ m ∧ Hid (∀ k (h : k < l.length), k < j → l[k].day ≤ v) ∧ Hid (∀ h : j < l.length, v < l[j].day) ∧ wx = w8)
    case first =>
      go_wp2
      go_loopw [9] (fun i wr => ∃ j : Nat, j ≤ m ∧ i = .int .i64 j ∧ Hid (∀ k (h : k < l.length), k < j → l[k].day ≤ v) ∧ wr = w8) (fun i _ => m - (intOf i).toNat)
      case atStart => exact ⟨0, by omega, rfl, Lib.hid (fun k h hk => by omega), rfl⟩
      case round =>
        obtain ⟨j, hj, rfl, hd, rfl⟩ := hrel
        by_cases hlt : j < m
        · obtain ⟨b, off, rfl, hcs⟩ := (HE.out _ hb8).2 (by omega)
          have hjl : j < l.length := by omega
          have x2 := hcs j hjl 2 (.int .i64 l[j].day) rfl
          have hgo : Hid (l[j].day ≤ v → ∀ k (h : k < l.length), k < j + 1 → l[k].day ≤ v) := Lib.hid fun h k hk hk1 => by
            by_cases ek : k = j
            · subst ek; exact h
            · exact hd.out k hk (by omega)
          have hst : Hid (v < l[j].day → ∀ h : j < l.length, v < l[j].day) := Lib.hid fun h _ => h
          clear hcs
          generalize l[j].day = dj at *
          by_cases hv : dj ≤ v
          · have HN := Lib.hid (hgo.out hv)
            clear hgo hst
            go_wp2
            go_roundw
            case rel => exact ⟨j + 1, by omega, by go_num, HN, (by trivial)⟩
            case measure => simp [intOf]; omega
          · have HN := Lib.hid (hst.out (by omega))
            clear hgo hst
            go_wp2
            go_meet
            case rel => exact ⟨j, rfl, hj, hd, HN, (by trivial)⟩
        · have HN : Hid (∀ h : j < l.length, v < l[j].day) := Lib.hid fun h => by omega
          go_wp2
          go_meet
          case rel => exact ⟨j, rfl, hj, hd, HN, (by trivial)⟩
    case rest =>
      obtain ⟨j, rfl, hj, h1, h2, hwc⟩ := hcut
      subst hwc
      obtain ⟨w8, rfl⟩ : ∃ x, x = wc := ⟨_, rfl⟩
      have hans2 := HAH.out j (by omega) h1.out h2.out
      obtain ⟨E2, hct, hE2⟩ := cut_e E m ce j hj hm
      have h8g : g < w8.heap.size := (Array.getElem?_eq_some_iff.1 hr8).1
      have HA8 := Lib.hid fun W (hW : Below w8.heap.size w8 W) => HA.out W (hb8.trans (hW.mono hb8.size))
      have HE8 := Lib.hid fun W (hW : Below w8.heap.size w8 W) => hE2 W l (HE.out W (hb8.trans (hW.mono hb8.size)))
      have EV2 := Lib.hid fun W (h : RdE W E2 j (l.take j)) => events_any E2 j ce (l.take j) W h (by omega)
      have RP2 := Lib.hid fun A' c' E' ce' W (h : RdI W A' n bounds) (h2 : RdE W E' j (l.take j)) => RJ.out j A' c' E' ce' W hj h h2
      rw [hans2] at RP2
      simp only [St.val, stCells] at RP2
      clear hans2 h1 h2 HAH hE2 RJ EV RP RC
      have CS8 := Lib.hid fun W (hW : Below w8.heap.size w8 W) => show Below w8.heap.size w8 W ∧ W.cell? ⟨w.heap.size, 0, none⟩ = some (.string name) ∧ W.cell? ⟨w.heap.size, 1, none⟩ = some (.int .i64 rate) ∧ W.cell? ⟨w.heap.size, 2, none⟩ = some (.int .i64 conv) ∧ W.cell? ⟨w.heap.size, 3, none⟩ = some (.int .i64 step) ∧ W.cell? ⟨w.heap.size, 4, none⟩ = some (.int .i64 count) ∧ W.cell? ⟨w.heap.size, 5, none⟩ = some (.int .i64 o1) ∧ W.cell? ⟨w.heap.size, 6, none⟩ = some (.int .i64 o2) ∧ W.cell? ⟨w.heap.size, 7, none⟩ = some (.int .i64 o3) ∧ W.cell? ⟨w.heap.size, 8, none⟩ = some (.slice A n c) from ⟨hW, CS.out W (hb8.trans (hW.mono hb8.size))⟩
      clear z0 z1 z2 z3 z4 z5 z6 z7 z8 z9 z10 z11
      go_upto_region 9 with (fail)
      go_cut [10, 11] from 43 to 53 (fun t10 t11 wx => ∃ g2, t10 = .pointer (some ⟨g2, 0, none⟩) ∧ t11 = .int .i64 0 ∧ wx.heap[g2]? = some (.cells #[.int .i64 d, .int .i64 r, .int .i64 pr, .int .i64 i, .int .i64 f, .int .i64 cr, .int .i64 o, .int .i64 nn, .int .i64 a, .int .i64 ch, .int .i64 la, .int .i64 bk] 29 (0, 0)) ∧ Below w8.heap.size w8 wx)
      case first =>
        have h0 : Below w8.heap.size w8 w8 := Below.refl _ _
        go_region_held3 (fun W => Below w8.heap.size w8 W ∧ W.cell? ⟨w.heap.size, 0, none⟩ = some (.string name) ∧ W.cell? ⟨w.heap.size, 1, none⟩ = some (.int .i64 rate) ∧ W.cell? ⟨w.heap.size, 2, none⟩ = some (.int .i64 conv) ∧ W.cell? ⟨w.heap.size, 3, none⟩ = some (.int .i64 step) ∧ W.cell? ⟨w.heap.size, 4, none⟩ = some (.int .i64 count) ∧ W.cell? ⟨w.heap.size, 5, none⟩ = some (.int .i64 o1) ∧ W.cell? ⟨w.heap.size, 6, none⟩ = some (.int .i64 o2) ∧ W.cell? ⟨w.heap.size, 7, none⟩ = some (.int .i64 o3) ∧ W.cell? ⟨w.heap.size, 8, none⟩ = some (.slice A n c))
          (refine CS8.out _ ?_ <;> with_reducible (repeat (first | assumption | exact Below.refl _ _ | (refine Below.setCell ?_ (by first | exact Nat.le_refl _ | exact HB5.size | exact HB6.size | exact HB7.size) _) | apply below_drewN | apply Below.drew | apply below_alloc)))
          (first
          | (go_simp; go_at_call 12; refine (CP.out _ (HA8.out _ (by with_reducible (repeat (first | assumption | exact Below.refl _ _ | (refine Below.setCell ?_ (by first | exact Nat.le_refl _ | exact HB5.size | exact HB6.size | exact HB7.size) _) | apply below_drewN | apply Below.drew | apply below_alloc))))).mono ?_; rintro e w5 ⟨⟨A5, c5, rfl, hA5⟩, hb5⟩; have HB5 : Below w8.heap.size w8 w5 := Below.then hb5 (by with_reducible (repeat (first | assumption | exact Below.refl _ _ | (refine Below.setCell ?_ (by first | exact Nat.le_refl _ | exact HB5.size | exact HB6.size | exact HB7.size) _) | apply below_drewN | apply Below.drew | apply below_alloc))); (try (have HZ5 : w5.heap[w8.heap.size]? = some (.cells #[.int .i64 0, .int .i64 0, .int .i64 0, .int .i64 0, .int .i64 0, .int .i64 0, .int .i64 0, .int .i64 0, .int .i64 0, .int .i64 0, .int .i64 0, .int .i64 0] 29 (0, 0)) := row_now (W := w8.drew) hb5)); (try (have HZ5 : w5.heap[w8.heap.size]? = some (.cells #[.int .i64 0, .int .i64 0, .int .i64 0, .int .i64 0, .int .i64 0, .int .i64 0, .int .i64 0, .int .i64 0, .int .i64 0, .int .i64 0, .int .i64 0, .int .i64 0] 29 (0, 0)) := row_now (W := w8) hb5)))
          | (go_simp; go_at_call 13; refine (EV2.out _ (HE8.out _ (by with_reducible (repeat (first | assumption | exact Below.refl _ _ | (refine Below.setCell ?_ (by first | exact Nat.le_refl _ | exact HB5.size | exact HB6.size | exact HB7.size) _) | apply below_drewN | apply Below.drew | apply below_alloc))))).mono ?_; rintro e w6 ⟨⟨E6, c6, rfl, hE6⟩, hb6⟩; have HB6 : Below w8.heap.size w8 w6 := Below.then hb6 (by with_reducible (repeat (first | assumption | exact Below.refl _ _ | (refine Below.setCell ?_ (by first | exact Nat.le_refl _ | exact HB5.size | exact HB6.size | exact HB7.size) _) | apply below_drewN | apply Below.drew | apply below_alloc))); (try (have HZ6 : w6.heap[w5.heap.size]? = some (.cells #[.int .i64 0, .int .i64 0, .int .i64 0, .int .i64 0, .int .i64 0, .int .i64 0, .int .i64 0, .int .i64 0, .int .i64 0, .int .i64 0, .int .i64 0, .int .i64 0] 29 (0, 0)) := row_now (W := w5) hb6)); (try (have HZ6 : w6.heap[w8.heap.size]? = some (.cells #[.int .i64 0, .int .i64 0, .int .i64 0, .int .i64 0, .int .i64 0, .int .i64 0, .int .i64 0, .int .i64 0, .int .i64 0, .int .i64 0, .int .i64 0, .int .i64 0] 29 (0, 0)) := row_kept (W := w5) HZ5 hb6)); have hA6 : RdI w6 A5 n bounds := (by first | exact hA5.below hb6 | exact (hA5.alloc _).below hb6); skip)
          | (go_simp; go_at_call 11; refine (RP2.out _ _ _ _ _ (by first | exact hA6 | exact hA6.alloc _) (by first | exact hE6 | exact hE6.alloc _)).mono ?_; rintro e w7 ⟨rfl, hb7⟩; have HB7 : Below w8.heap.size w8 w7 := Below.then hb7 (by with_reducible (repeat (first | assumption | exact Below.refl _ _ | (refine Below.setCell ?_ (by first | exact Nat.le_refl _ | exact HB5.size | exact HB6.size | exact HB7.size) _) | apply below_drewN | apply Below.drew | apply below_alloc))); (try (have HZ7 : w7.heap[w6.heap.size]? = some (.cells #[.int .i64 0, .int .i64 0, .int .i64 0, .int .i64 0, .int .i64 0, .int .i64 0, .int .i64 0, .int .i64 0, .int .i64 0, .int .i64 0, .int .i64 0, .int .i64 0] 29 (0, 0)) := row_now (W := w6) hb7)); (try (have HZ7 := row_kept (W := w6) HZ6 hb7)); (try (have HZC := cells12 HZ7; obtain ⟨⟨z0, z1, z2, z3, z4, z5, z6, z7, z8, z9, z10, z11⟩, f0, f1, f2, f3, f4, f5, f6, f7, f8, f9, f10, f11⟩ := HZC))))
        all_goals go_wp2
        all_goals go_meet
        all_goals (case rel => exact ⟨_, rfl, rfl, (by first | exact row12 HZ7 _ _ _ _ _ _ _ _ _ _ _ _ | exact heap_alloc_new _ _), (by with_reducible (repeat (first | assumption | exact Below.refl _ _ | (refine Below.setCell ?_ (by first | exact Nat.le_refl _ | exact HB5.size | exact HB6.size | exact HB7.size) _) | apply below_drewN | apply Below.drew | apply below_alloc)))⟩)
      case rest =>
        obtain ⟨g2, rfl, rfl, hr9, hb9⟩ := hcut
        have hr9' := (hb9.block g h8g).trans hr8
        obtain ⟨x0, x1, x2, x3, x4, x5, x6, x7, x8, x9, x10, x11⟩ : wc.cell? ⟨g2, 0, none⟩ = some (.int .i64 d) ∧ wc.cell? ⟨g2, 1, none⟩ = some (.int .i64 r) ∧ wc.cell? ⟨g2, 2, none⟩ = some (.int .i64 pr) ∧ wc.cell? ⟨g2, 3, none⟩ = some (.int .i64 i) ∧ wc.cell? ⟨g2, 4, none⟩ = some (.int .i64 f) ∧ wc.cell? ⟨g2, 5, none⟩ = some (.int .i64 cr) ∧ wc.cell? ⟨g2, 6, none⟩ = some (.int .i64 o) ∧ wc.cell? ⟨g2, 7, none⟩ = some (.int .i64 nn) ∧ wc.cell? ⟨g2, 8, none⟩ = some (.int .i64 a) ∧ wc.cell? ⟨g2, 9, none⟩ = some (.int .i64 ch) ∧ wc.cell? ⟨g2, 10, none⟩ = some (.int .i64 la) ∧ wc.cell? ⟨g2, 11, none⟩ = some (.int .i64 bk) := ⟨by rw [cell_of_row _ _ _ _ _ _ hr9]; rfl, by rw [cell_of_row _ _ _ _ _ _ hr9]; rfl, by rw [cell_of_row _ _ _ _ _ _ hr9]; rfl, by rw [cell_of_row _ _ _ _ _ _ hr9]; rfl, by rw [cell_of_row _ _ _ _ _ _ hr9]; rfl, by rw [cell_of_row _ _ _ _ _ _ hr9]; rfl, by rw [cell_of_row _ _ _ _ _ _ hr9]; rfl, by rw [cell_of_row _ _ _ _ _ _ hr9]; rfl, by rw [cell_of_row _ _ _ _ _ _ hr9]; rfl, by rw [cell_of_row _ _ _ _ _ _ hr9]; rfl, by rw [cell_of_row _ _ _ _ _ _ hr9]; rfl, by rw [cell_of_row _ _ _ _ _ _ hr9]; rfl⟩
        obtain ⟨y0, y1, y2, y3, y4, y5, y6, y7, y8, y9, y10, y11⟩ : wc.cell? ⟨g, 0, none⟩ = some (.int .i64 d) ∧ wc.cell? ⟨g, 1, none⟩ = some (.int .i64 r) ∧ wc.cell? ⟨g, 2, none⟩ = some (.int .i64 pr) ∧ wc.cell? ⟨g, 3, none⟩ = some (.int .i64 i) ∧ wc.cell? ⟨g, 4, none⟩ = some (.int .i64 f) ∧ wc.cell? ⟨g, 5, none⟩ = some (.int .i64 cr) ∧ wc.cell? ⟨g, 6, none⟩ = some (.int .i64 o) ∧ wc.cell? ⟨g, 7, none⟩ = some (.int .i64 nn) ∧ wc.cell? ⟨g, 8, none⟩ = some (.int .i64 a) ∧ wc.cell? ⟨g, 9, none⟩ = some (.int .i64 ch) ∧ wc.cell? ⟨g, 10, none⟩ = some (.int .i64 la) ∧ wc.cell? ⟨g, 11, none⟩ = some (.int .i64 bk) := ⟨by rw [cell_of_row _ _ _ _ _ _ hr9']; rfl, by rw [cell_of_row _ _ _ _ _ _ hr9']; rfl, by rw [cell_of_row _ _ _ _ _ _ hr9']; rfl, by rw [cell_of_row _ _ _ _ _ _ hr9']; rfl, by rw [cell_of_row _ _ _ _ _ _ hr9']; rfl, by rw [cell_of_row _ _ _ _ _ _ hr9']; rfl, by rw [cell_of_row _ _ _ _ _ _ hr9']; rfl, by rw [cell_of_row _ _ _ _ _ _ hr9']; rfl, by rw [cell_of_row _ _ _ _ _ _ hr9']; rfl, by rw [cell_of_row _ _ _ _ _ _ hr9']; rfl, by rw [cell_of_row _ _ _ _ _ _ hr9']; rfl, by rw [cell_of_row _ _ _ _ _ _ hr9']; rfl⟩
        have heq : ∀ W, (Op.equalIn 10000 29 (.agg #[.int .i64 d, .int .i64 r, .int .i64 pr, .int .i64 i, .int .i64 f, .int .i64 cr, .int .i64 o, .int .i64 nn, .int .i64 a, .int .i64 ch, .int .i64 la, .int .i64 bk]) (.agg #[.int .i64 d, .int .i64 r, .int .i64 pr, .int .i64 i, .int .i64 f, .int .i64 cr, .int .i64 o, .int .i64 nn, .int .i64 a, .int .i64 ch, .int .i64 la, .int .i64 bk])).run Try.prog W = .ok true W := fun W => st_equal ⟨d, r, pr, i, f, cr, o, nn, a, ch, la, bk⟩ W
        go_wp2
        go_ret
        exact ⟨rfl, hb02.trans ((hb8.trans (hb9.mono hb8.size)).mono hb02.size)⟩
end Go.Proofs.Ytmpbpgcmiboflaa

