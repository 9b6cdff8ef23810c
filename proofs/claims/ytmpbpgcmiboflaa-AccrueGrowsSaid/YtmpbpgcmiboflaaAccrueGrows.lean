/-
  The walk of AccrueGrows.
-/
import Derived.Test.YtmpbpgcmiboflaaAcWW
import Derived.Test.YtmpbpgcmiboflaaAcS
import Derived.Test.YtmpbpgcmiboflaaAcU2
namespace Go.Proofs.Ytmpbpgcmiboflaa
open Go.RowKit
set_option linter.unusedVariables false

/-- The last day of some events, or 0. -/
def lastDay (l : List Ev) : Int := l.foldl (fun v e => max v e.day) 0
theorem lastDay_take (l : List Ev) (j : Nat) (h : j < l.length) : lastDay (l.take (j + 1)) = max (lastDay (l.take j)) l[j].day := by
  unfold lastDay
  rw [List.take_succ_eq_append_getElem h, List.foldl_append]
  rfl
theorem foldl_le (l : List Ev) : ∀ (v : Int), v ≤ l.foldl (fun v e => max v e.day) v ∧ ∀ e ∈ l, e.day ≤ l.foldl (fun v e => max v e.day) v := by
  induction l with
  | nil => exact fun v => ⟨Int.le_refl _, fun e h => by simp at h⟩
  | cons x l ih =>
    intro v
    obtain ⟨h1, h2⟩ := ih (max v x.day)
    refine ⟨Int.le_trans (Int.le_max_left _ _) h1, fun e he => ?_⟩
    rcases List.mem_cons.1 he with rfl | he
    · exact Int.le_trans (Int.le_max_right _ _) h1
    · exact h2 e he
theorem foldl_max (l : List Ev) (B : Int) : ∀ (v : Int), v ≤ B → (∀ e ∈ l, e.day ≤ B) → l.foldl (fun v e => max v e.day) v ≤ B := by
  induction l with
  | nil => exact fun v h _ => h
  | cons x l ih => exact fun v h h2 => ih (max v x.day) (Int.max_le.2 ⟨h, h2 x (List.mem_cons_self ..)⟩) (fun e he => h2 e (List.mem_cons_of_mem _ he))

set_option maxRecDepth 100000 in
set_option maxHeartbeats 4000000 in
theorem AccrueGrows_walk (p : Prod) (A : Option Addr) (n c : Nat) (E : Option Addr) (m ce : Nat) (l : List Ev) (x y : Int) (w : World) (hA : RdI w A n p.bounds) (hs : p.name.size ≤ 140737488351232) (hn : n ≤ c) (hc : c * 8 ≤ 140737488351232) (hE : RdE w E m l) (hm : m ≤ ce) (hce : ce * 56 ≤ 140737488351232) (he : ∀ e ∈ l, e.loan.size ≤ 140737488351232 ∧ (-9223372036854775808 ≤ e.day ∧ e.day ≤ 9223372036854775807) ∧ (-9223372036854775808 ≤ e.seq ∧ e.seq ≤ 9223372036854775807)) (hx0 : -9223372036854775808 ≤ x) (hx1 : x ≤ 9223372036854775807) (hy0 : -9223372036854775808 ≤ y) (hy1 : y ≤ 9223372036854775807) :
    Calls Try.prog 7 #[p.val (.slice A n c), .slice E m ce, .agg #[.int .i64 x, .int .i64 y]] w fun e w' => e = .returned (.bool true) ∧ Below w.heap.size w w' := by
  have WK := Lib.hid wakes_any
  have CP := Lib.hid fun W (h : RdI W A n p.bounds) => Copy_any p A n c W h (by omega)
  have EV := Lib.hid fun W (h : RdE W E m l) => events_any E m ce l W h (by omega)
  have RP := Lib.hid fun v A' c' E' ce' W (h : RdI W A' n p.bounds) (h2 : RdE W E' m l) => Replay_any p A' n c' E' m ce' l v W h h2 (by omega)
  have GR := Lib.hid fun a b => grows p l a b
  have hlm := hE.1
  have HDAY := Lib.hid fun e he' => (he e he').2.1
  clear he
  obtain ⟨name, rate, conv, step, count, o1, o2, o3, bounds⟩ := p
  simp only [Prod.val, pCells] at CP RP ⊢
  obtain ⟨w1, hw1⟩ : ∃ w1, w1 = (w.alloc (.cells #[.string name, .int .i64 rate, .int .i64 conv, .int .i64 step, .int .i64 count, .int .i64 o1, .int .i64 o2, .int .i64 o3, .slice A n c] 25)).alloc (.cells #[.int .i64 x, .int .i64 y] 47) := ⟨_, rfl⟩
  have hb1 : Below w.heap.size w w1 := by rw [hw1]; exact ((Below.refl _ _).alloc (Nat.le_refl _) _).alloc (by simp) _
  have hz1 : w1.heap.size = w.heap.size + 2 := by rw [hw1]; simp
  have hS1 : w1.heap[w.heap.size]? = some (.cells #[.string name, .int .i64 rate, .int .i64 conv, .int .i64 step, .int .i64 count, .int .i64 o1, .int .i64 o2, .int .i64 o3, .slice A n c] 25 (0, 0)) := by rw [hw1]; exact heap_old (heap_alloc_new _ _)
  have hT1 : w1.heap[w.heap.size + 1]? = some (.cells #[.int .i64 x, .int .i64 y] 47 (0, 0)) := by rw [hw1, ← World.size_alloc w]; exact heap_alloc_new _ _
  go_enter Try.func7, Try.ntmps7
  go_upto_region 1 with (fail)
  rw [← hw1]
  clear hw1
  go_wp2_with fail
  refine (WK.out _).mono ?_
  rintro e w2 ⟨rfl, hb2⟩
  have hb02 := hb1.trans (hb2.mono hb1.size)
  have hl2 : w.heap.size < w2.heap.size := by have := hb2.size; omega
  have hS2 := (hb2.block w.heap.size (by omega)).trans hS1
  have hT2 := (hb2.block (w.heap.size + 1) (by omega)).trans hT1
  have HA := Lib.hid fun W (hW : Below w2.heap.size w2 W) => (hA.below hb02).below hW
  have HE := Lib.hid fun W (hW : Below w2.heap.size w2 W) => (hE.below hb02).below hW
  have CS := Lib.hid fun W (hW : Below w2.heap.size w2 W) => show W.cell? ⟨w.heap.size, 0, none⟩ = some (.string name) ∧ W.cell? ⟨w.heap.size, 1, none⟩ = some (.int .i64 rate) ∧ W.cell? ⟨w.heap.size, 2, none⟩ = some (.int .i64 conv) ∧ W.cell? ⟨w.heap.size, 3, none⟩ = some (.int .i64 step) ∧ W.cell? ⟨w.heap.size, 4, none⟩ = some (.int .i64 count) ∧ W.cell? ⟨w.heap.size, 5, none⟩ = some (.int .i64 o1) ∧ W.cell? ⟨w.heap.size, 6, none⟩ = some (.int .i64 o2) ∧ W.cell? ⟨w.heap.size, 7, none⟩ = some (.int .i64 o3) ∧ W.cell? ⟨w.heap.size, 8, none⟩ = some (.slice A n c) from ⟨by rw [cell_of_row _ _ _ _ _ _ ((hW.block w.heap.size hl2).trans hS2)]; rfl, by rw [cell_of_row _ _ _ _ _ _ ((hW.block w.heap.size hl2).trans hS2)]; rfl, by rw [cell_of_row _ _ _ _ _ _ ((hW.block w.heap.size hl2).trans hS2)]; rfl, by rw [cell_of_row _ _ _ _ _ _ ((hW.block w.heap.size hl2).trans hS2)]; rfl, by rw [cell_of_row _ _ _ _ _ _ ((hW.block w.heap.size hl2).trans hS2)]; rfl, by rw [cell_of_row _ _ _ _ _ _ ((hW.block w.heap.size hl2).trans hS2)]; rfl, by rw [cell_of_row _ _ _ _ _ _ ((hW.block w.heap.size hl2).trans hS2)]; rfl, by rw [cell_of_row _ _ _ _ _ _ ((hW.block w.heap.size hl2).trans hS2)]; rfl, by rw [cell_of_row _ _ _ _ _ _ ((hW.block w.heap.size hl2).trans hS2)]; rfl⟩
  have cx : w2.cell? ⟨w.heap.size + 1, 0, none⟩ = some (.int .i64 x) := by rw [cell_of_row _ _ _ _ _ _ hT2]; rfl
  have cy : w2.cell? ⟨w.heap.size + 1, 1, none⟩ = some (.int .i64 y) := by rw [cell_of_row _ _ _ _ _ _ hT2]; rfl
  clear hb1 hb2 hS1 hz1 hA hE hS2 WK hT1 hT2
  have h22 : Below w2.heap.size w2 w2 := Below.refl _ _
  go_upto_block 0 with (fail)
  go_cut [7] from 17 to 29 (fun v wx => ∃ V : Int, v = .int .i64 V ∧ Hid (V = lastDay l) ∧ wx = w2)
  case first =>
    go_wp2
    go_loopw [19, 7] (fun i v wr => ∃ j : Nat, ∃ V : Int, j ≤ m ∧ i = .int .i64 j ∧ v = .int .i64 V ∧ Hid (V = lastDay (l.take j)) ∧ wr = w2) (fun i _ _ => m - (intOf i).toNat)
    case atStart => exact ⟨0, 0, by omega, rfl, rfl, Lib.hid rfl, rfl⟩
    case round =>
      obtain ⟨j, V, hj, rfl, rfl, hV, rfl⟩ := hrel
      by_cases hlt : j < m
      · obtain ⟨b, off, rfl, hcs⟩ := (HE.out _ h22).2 (by omega)
        have hjl : j < l.length := by omega
        have x2 := hcs j hjl 2 (.int .i64 l[j].day) rfl
        have HN : Hid (max V l[j].day = lastDay (l.take (j + 1))) := Lib.hid (by rw [lastDay_take l j hjl, hV.out])
        clear hcs hV
        generalize l[j].day = dj at *
        go_wp2
        go_roundw
        case rel => exact ⟨j + 1, max V dj, by omega, by go_num, by first | rfl | go_num, HN, (by trivial)⟩
        case measure => simp [intOf]; omega
      · have HN : Hid (V = lastDay l) := Lib.hid (by rw [hV.out, List.take_of_length_le (by omega)])
        go_wp2
        go_meet
        case rel => exact ⟨V, rfl, HN, (by trivial)⟩
  case rest =>
    obtain ⟨V, rfl, hV, hwc⟩ := hcut
    subst hwc
    obtain ⟨w2, rfl⟩ : ∃ x, x = wc := ⟨_, rfl⟩
    have hV0 : 0 ≤ V := by rw [hV.out]; exact (foldl_le l 0).1
    have hV1 : V ≤ 9223372036854775807 := by rw [hV.out]; exact foldl_max l _ 0 (by omega) (fun e he => (HDAY.out e he).2)
    have HVL : Hid (∀ e ∈ l, e.day ≤ V) := Lib.hid (by rw [hV.out]; exact (foldl_le l 0).2)
    clear hV
    by_cases hbig : 2932896 < V
    · go_wp2
      go_ret
      exact ⟨rfl, hb02⟩
    obtain ⟨u, hu, hu1⟩ : ∃ u : Nat, IntKind.u64.wrap x = (u : Int) ∧ u < 18446744073709551616 := ⟨(IntKind.u64.wrap x).toNat, by rw [IntKind.wrap_u64]; omega, by rw [IntKind.wrap_u64]; omega⟩
    obtain ⟨u2, hu2, hu3⟩ : ∃ u : Nat, IntKind.u64.wrap y = (u : Int) ∧ u < 18446744073709551616 := ⟨(IntKind.u64.wrap y).toNat, by rw [IntKind.wrap_u64]; omega, by rw [IntKind.wrap_u64]; omega⟩
    obtain ⟨D, hD⟩ : ∃ D : Nat, 2932896 - V + 1 = (D : Int) := ⟨(2932896 - V + 1).toNat, by omega⟩
    have hD0 : 0 < D := by omega
    have em0 := Int.emod_nonneg (u : Int) (show (D : Int) ≠ 0 by omega)
    have em1 := Int.emod_lt_of_pos (u : Int) (show (0 : Int) < D by omega)
    go_upto_region 12 with (fail)
    obtain ⟨a, ha⟩ : ∃ a : Int, V + (u : Int) % (D : Int) = a := ⟨_, rfl⟩
    rw [ha]
    have a0 : V ≤ a := by omega
    have a1 : a ≤ 2932896 := by omega
    clear ha em0 em1 hD0 hD hu hu1 cx
    obtain ⟨D2, hD⟩ : ∃ D : Nat, 2932896 - a + 1 = (D : Int) := ⟨(2932896 - a + 1).toNat, by omega⟩
    have hD0 : 0 < D2 := by omega
    have em0 := Int.emod_nonneg (u2 : Int) (show (D2 : Int) ≠ 0 by omega)
    have em1 := Int.emod_lt_of_pos (u2 : Int) (show (0 : Int) < D2 by omega)
    go_upto_region 13 with (fail)
    obtain ⟨b, hb⟩ : ∃ b : Int, a + (u2 : Int) % (D2 : Int) = b := ⟨_, rfl⟩
    rw [hb]
    have b0 : a ≤ b := by omega
    have b1 : b ≤ 2932896 := by omega
    have G := GR.out a b (fun e he => by have := HVL.out e he; omega) b0 (by omega) b1
    clear hb em0 em1 hD0 hD hu2 hu3 cy GR hbig HDAY HVL
    have RPa := Lib.hid fun A' c' E' ce' W h h2 => RP.out a A' c' E' ce' W h h2
    have RPb := Lib.hid fun A' c' E' ce' W h h2 => RP.out b A' c' E' ce' W h h2
    clear RP
    generalize replayAns ⟨name, rate, conv, step, count, o1, o2, o3, bounds⟩ l a = SA at G RPa
    generalize replayAns ⟨name, rate, conv, step, count, o1, o2, o3, bounds⟩ l b = SB at G RPb
    obtain ⟨⟨d, r, pr, i, f, cr, o, nn, ac, ch, la, bk⟩, k⟩ := SA
    obtain ⟨⟨d', r', pr', i', f', cr', o', nn', ac', ch', la', bk'⟩, k'⟩ := SB
    simp only [St.val, stCells] at RPa RPb
    have HG := Lib.hid G
    clear G
    obtain ⟨q0, q1, q2, q3, q4, q5, q6, q7, q8⟩ := CS.out _ h22
    go_wp2_with fail
    refine (CP.out _ (HA.out _ h22)).mono ?_
    rintro e w5 ⟨⟨A5, c5, rfl, hA5⟩, hb5⟩
    go_wp2_with fail
    refine (EV.out _ (HE.out _ hb5)).mono ?_
    rintro e w6 ⟨⟨E6, c6, rfl, hE6⟩, hb6⟩
    have HB6 := Below.then hb6 hb5
    go_wp2_with fail
    refine (RPa.out _ _ _ _ _ (hA5.below hb6) hE6).mono ?_
    rintro e w7 ⟨rfl, hb7⟩
    have HB7 := Below.then hb7 HB6
    clear q0 q1 q2 q3 q4 q5 q6 q7 q8 hb5 hb6 hb7 hA5 hE6 HB6
    go_upto_region 14 with (fail)
    refine wp_at (fun wx => wx.heap[w7.heap.size]? = some (.cells #[.int .i64 d, .int .i64 r, .int .i64 pr, .int .i64 i, .int .i64 f, .int .i64 cr, .int .i64 o, .int .i64 nn, .int .i64 ac, .int .i64 ch, .int .i64 la, .int .i64 bk] 29 (0, 0)) ∧ Below w2.heap.size w2 wx) ⟨heap_alloc_new _ _, HB7.alloc HB7.size _⟩ ?_
    rintro w8 ⟨hr8, hb8⟩
    obtain ⟨g, hg⟩ : ∃ g, g = w7.heap.size := ⟨_, rfl⟩
    rw [← hg] at hr8 ⊢
    have hgw : w2.heap.size ≤ g := by rw [hg]; exact HB7.size
    clear hg HB7
    obtain ⟨q0, q1, q2, q3, q4, q5, q6, q7, q8⟩ := CS.out _ hb8
    go_wp2_with fail
    refine (CP.out _ (HA.out _ hb8)).mono ?_
    rintro e w9 ⟨⟨A5, c5, rfl, hA5⟩, hb9⟩
    have HB9 := Below.then hb9 hb8
    go_wp2_with fail
    refine (EV.out _ (HE.out _ HB9)).mono ?_
    rintro e w10 ⟨⟨E6, c6, rfl, hE6⟩, hb10⟩
    have HB10 := Below.then hb10 HB9
    go_wp2_with fail
    refine (RPb.out _ _ _ _ _ (hA5.below hb10) hE6).mono ?_
    rintro e w11 ⟨rfl, hb11⟩
    have HB11 := Below.then hb11 HB10
    have hr11 := row_kept (row_kept (row_kept hr8 hb9) hb10) hb11
    clear q0 q1 q2 q3 q4 q5 q6 q7 q8 hb9 hb10 hb11 hA5 hE6 HB9 HB10 hr8 hb8
    go_upto_region 15 with (fail)
    have hlt11 : g < w11.heap.size := (Array.getElem?_eq_some_iff.1 hr11).1
    refine wp_at (fun wx => wx.heap[g]? = some (.cells #[.int .i64 d, .int .i64 r, .int .i64 pr, .int .i64 i, .int .i64 f, .int .i64 cr, .int .i64 o, .int .i64 nn, .int .i64 ac, .int .i64 ch, .int .i64 la, .int .i64 bk] 29 (0, 0)) ∧ wx.heap[w11.heap.size]? = some (.cells #[.int .i64 d', .int .i64 r', .int .i64 pr', .int .i64 i', .int .i64 f', .int .i64 cr', .int .i64 o', .int .i64 nn', .int .i64 ac', .int .i64 ch', .int .i64 la', .int .i64 bk'] 29 (0, 0)) ∧ Below w2.heap.size w2 wx) ⟨heap_old hr11, heap_alloc_new _ _, HB11.alloc HB11.size _⟩ ?_
    rintro w12 ⟨hrx, hry, hb12⟩
    obtain ⟨g2, hg2⟩ : ∃ g, g = w11.heap.size := ⟨_, rfl⟩
    rw [← hg2] at hry ⊢
    have hne : g ≠ g2 := by omega
    clear hr11 HB11 hg2 hlt11
    rcases HG.out with (⟨j1, j2⟩ | ⟨j1, j2⟩ | j1) | ⟨s, t, h1, h2, ga, gb, j1, j2, j3, j4, j5, j6, j7, j8, j9⟩
    · (try simp only at j1 j2)
      subst j1 j2
      go_wp2
      all_goals (go_ret; exact ⟨rfl, hb02.trans (hb12.mono hb02.size)⟩)
    · (try simp only at j1 j2)
      subst j1
      have t1 : (k == 0) = false := by simpa using j2
      have t2 : (k != 0) = true := by simpa using j2
      clear j2
      go_wp2
      all_goals (go_ret; exact ⟨rfl, hb02.trans (hb12.mono hb02.size)⟩)
    · (try simp only at j1)
      subst j1
      by_cases hk : 4 = k'
      · subst hk
        go_wp2
        all_goals (go_ret; exact ⟨rfl, hb02.trans (hb12.mono hb02.size)⟩)
      · have t1 : ((4 : Int) == k') = false := by simpa using hk
        go_wp2
        all_goals (go_ret; exact ⟨rfl, hb02.trans (hb12.mono hb02.size)⟩)
    · injection h1 with h1 hk1
      injection h2 with h2 hk2
      subst h1 h2 hk1 hk2
      simp only at j1 j2 j3 j4 j5 j6 j7 j8 j9
      obtain ⟨e1, e2, e3, e4, e5, e6, e7, e8, e9, e10, e11, e12, e13, e14, e15, e16, e17, e18, e19, e20, e21, e22⟩ := ga
      obtain ⟨f1, f2, f3, f4, f5, f6, f7, f8, f9, f10, f11, f12, f13, f14, f15, f16, f17, f18, f19, f20, f21, f22⟩ := gb
      simp only at e3 e4 e11 e12 f3 f4 f11 f12
      clear e1 e2 e5 e6 e7 e8 e9 e10 e13 e14 e15 e16 e17 e18 e19 e20 e21 e22 f1 f2 f5 f6 f7 f8 f9 f10 f13 f14 f15 f16 f17 f18 f19 f20 f21 f22
      subst j3 j4 j5 j6 j7 j8 j9
      have t1 : decide (i' < i) = false := decide_eq_false (by omega)
      have t2 : (ac' - ac != i' - i) = false := by simp only [bne_eq_false_iff_eq]; omega
      obtain ⟨x0, x1, x2, x3, x4, x5, x6, x7, x8, x9, x10, x11⟩ : w12.cell? ⟨g, 0, none⟩ = some (.int .i64 d) ∧ w12.cell? ⟨g, 1, none⟩ = some (.int .i64 r) ∧ w12.cell? ⟨g, 2, none⟩ = some (.int .i64 pr) ∧ w12.cell? ⟨g, 3, none⟩ = some (.int .i64 i) ∧ w12.cell? ⟨g, 4, none⟩ = some (.int .i64 f) ∧ w12.cell? ⟨g, 5, none⟩ = some (.int .i64 cr) ∧ w12.cell? ⟨g, 6, none⟩ = some (.int .i64 o) ∧ w12.cell? ⟨g, 7, none⟩ = some (.int .i64 nn) ∧ w12.cell? ⟨g, 8, none⟩ = some (.int .i64 ac) ∧ w12.cell? ⟨g, 9, none⟩ = some (.int .i64 ch) ∧ w12.cell? ⟨g, 10, none⟩ = some (.int .i64 la) ∧ w12.cell? ⟨g, 11, none⟩ = some (.int .i64 bk) := ⟨by rw [cell_of_row _ _ _ _ _ _ hrx]; rfl, by rw [cell_of_row _ _ _ _ _ _ hrx]; rfl, by rw [cell_of_row _ _ _ _ _ _ hrx]; rfl, by rw [cell_of_row _ _ _ _ _ _ hrx]; rfl, by rw [cell_of_row _ _ _ _ _ _ hrx]; rfl, by rw [cell_of_row _ _ _ _ _ _ hrx]; rfl, by rw [cell_of_row _ _ _ _ _ _ hrx]; rfl, by rw [cell_of_row _ _ _ _ _ _ hrx]; rfl, by rw [cell_of_row _ _ _ _ _ _ hrx]; rfl, by rw [cell_of_row _ _ _ _ _ _ hrx]; rfl, by rw [cell_of_row _ _ _ _ _ _ hrx]; rfl, by rw [cell_of_row _ _ _ _ _ _ hrx]; rfl⟩
      obtain ⟨y0, y1, y2, y3, y4, y5, y6, y7, y8, y9, y10, y11⟩ : w12.cell? ⟨g2, 0, none⟩ = some (.int .i64 d') ∧ w12.cell? ⟨g2, 1, none⟩ = some (.int .i64 r) ∧ w12.cell? ⟨g2, 2, none⟩ = some (.int .i64 pr) ∧ w12.cell? ⟨g2, 3, none⟩ = some (.int .i64 i') ∧ w12.cell? ⟨g2, 4, none⟩ = some (.int .i64 f) ∧ w12.cell? ⟨g2, 5, none⟩ = some (.int .i64 cr) ∧ w12.cell? ⟨g2, 6, none⟩ = some (.int .i64 o) ∧ w12.cell? ⟨g2, 7, none⟩ = some (.int .i64 nn) ∧ w12.cell? ⟨g2, 8, none⟩ = some (.int .i64 ac') ∧ w12.cell? ⟨g2, 9, none⟩ = some (.int .i64 ch) ∧ w12.cell? ⟨g2, 10, none⟩ = some (.int .i64 la') ∧ w12.cell? ⟨g2, 11, none⟩ = some (.int .i64 bk') := ⟨by rw [cell_of_row _ _ _ _ _ _ hry]; rfl, by rw [cell_of_row _ _ _ _ _ _ hry]; rfl, by rw [cell_of_row _ _ _ _ _ _ hry]; rfl, by rw [cell_of_row _ _ _ _ _ _ hry]; rfl, by rw [cell_of_row _ _ _ _ _ _ hry]; rfl, by rw [cell_of_row _ _ _ _ _ _ hry]; rfl, by rw [cell_of_row _ _ _ _ _ _ hry]; rfl, by rw [cell_of_row _ _ _ _ _ _ hry]; rfl, by rw [cell_of_row _ _ _ _ _ _ hry]; rfl, by rw [cell_of_row _ _ _ _ _ _ hry]; rfl, by rw [cell_of_row _ _ _ _ _ _ hry]; rfl, by rw [cell_of_row _ _ _ _ _ _ hry]; rfl⟩
      have hf3 : w12.frozen? ⟨g, 3, none⟩ = false := by simp [World.frozen?, hrx]
      have hf8 : w12.frozen? ⟨g, 8, none⟩ = false := by simp [World.frozen?, hrx]
      have hf0 : w12.frozen? ⟨g, 0, none⟩ = false := by simp [World.frozen?, hrx]
      have hf10 : w12.frozen? ⟨g, 10, none⟩ = false := by simp [World.frozen?, hrx]
      have hf11 : w12.frozen? ⟨g, 11, none⟩ = false := by simp [World.frozen?, hrx]
      go_upto_region 19 with (fail)
      obtain ⟨r1, k1⟩ := row_set (i := 3) (.int .i64 i') hrx
      obtain ⟨r2, k2⟩ := row_set (i := 8) (.int .i64 ac') r1
      obtain ⟨r3, k3⟩ := row_set (i := 0) (.int .i64 d') r2
      obtain ⟨r4, k4⟩ := row_set (i := 10) (.int .i64 la') r3
      obtain ⟨r5, k5⟩ := row_set (i := 11) (.int .i64 bk') r4
      have HR5 := Lib.hid r5
      have HK5 := Lib.hid ((((k1.trans k2).trans k3).trans k4).trans k5)
      have hlt2 : g2 < w12.heap.size := (Array.getElem?_eq_some_iff.1 hry).1
      clear r1 r2 r3 r4 r5 k1 k2 k3 k4 k5
      go_region
      go_upto_region 20 with (fail)
      refine wp_at (fun wx => wx.heap[g]? = some (.cells #[.int .i64 d', .int .i64 r, .int .i64 pr, .int .i64 i', .int .i64 f, .int .i64 cr, .int .i64 o, .int .i64 nn, .int .i64 ac', .int .i64 ch, .int .i64 la', .int .i64 bk'] 29 (0, 0)) ∧ wx.heap[g2]? = some (.cells #[.int .i64 d', .int .i64 r, .int .i64 pr, .int .i64 i', .int .i64 f, .int .i64 cr, .int .i64 o, .int .i64 nn, .int .i64 ac', .int .i64 ch, .int .i64 la', .int .i64 bk'] 29 (0, 0)) ∧ Below w2.heap.size w2 wx) ⟨HR5.out, (HK5.out.drew.block g2 hlt2 (Ne.symm hne)).trans hry, hb12.trans (HK5.out.drew.below hgw hb12.size)⟩ ?_
      rintro w13 ⟨hr13, hy13, hb13⟩
      clear HR5 HK5 hrx hry hb12 x0 x1 x2 x3 x4 x5 x6 x7 x8 x9 x10 x11 y0 y1 y2 y3 y4 y5 y6 y7 y8 y9 y10 y11 hf0 hf3 hf8 hf10 hf11 t1 t2
      obtain ⟨x0, x1, x2, x3, x4, x5, x6, x7, x8, x9, x10, x11⟩ : w13.cell? ⟨g, 0, none⟩ = some (.int .i64 d') ∧ w13.cell? ⟨g, 1, none⟩ = some (.int .i64 r) ∧ w13.cell? ⟨g, 2, none⟩ = some (.int .i64 pr) ∧ w13.cell? ⟨g, 3, none⟩ = some (.int .i64 i') ∧ w13.cell? ⟨g, 4, none⟩ = some (.int .i64 f) ∧ w13.cell? ⟨g, 5, none⟩ = some (.int .i64 cr) ∧ w13.cell? ⟨g, 6, none⟩ = some (.int .i64 o) ∧ w13.cell? ⟨g, 7, none⟩ = some (.int .i64 nn) ∧ w13.cell? ⟨g, 8, none⟩ = some (.int .i64 ac') ∧ w13.cell? ⟨g, 9, none⟩ = some (.int .i64 ch) ∧ w13.cell? ⟨g, 10, none⟩ = some (.int .i64 la') ∧ w13.cell? ⟨g, 11, none⟩ = some (.int .i64 bk') := ⟨by rw [cell_of_row _ _ _ _ _ _ hr13]; rfl, by rw [cell_of_row _ _ _ _ _ _ hr13]; rfl, by rw [cell_of_row _ _ _ _ _ _ hr13]; rfl, by rw [cell_of_row _ _ _ _ _ _ hr13]; rfl, by rw [cell_of_row _ _ _ _ _ _ hr13]; rfl, by rw [cell_of_row _ _ _ _ _ _ hr13]; rfl, by rw [cell_of_row _ _ _ _ _ _ hr13]; rfl, by rw [cell_of_row _ _ _ _ _ _ hr13]; rfl, by rw [cell_of_row _ _ _ _ _ _ hr13]; rfl, by rw [cell_of_row _ _ _ _ _ _ hr13]; rfl, by rw [cell_of_row _ _ _ _ _ _ hr13]; rfl, by rw [cell_of_row _ _ _ _ _ _ hr13]; rfl⟩
      obtain ⟨y0, y1, y2, y3, y4, y5, y6, y7, y8, y9, y10, y11⟩ : w13.cell? ⟨g2, 0, none⟩ = some (.int .i64 d') ∧ w13.cell? ⟨g2, 1, none⟩ = some (.int .i64 r) ∧ w13.cell? ⟨g2, 2, none⟩ = some (.int .i64 pr) ∧ w13.cell? ⟨g2, 3, none⟩ = some (.int .i64 i') ∧ w13.cell? ⟨g2, 4, none⟩ = some (.int .i64 f) ∧ w13.cell? ⟨g2, 5, none⟩ = some (.int .i64 cr) ∧ w13.cell? ⟨g2, 6, none⟩ = some (.int .i64 o) ∧ w13.cell? ⟨g2, 7, none⟩ = some (.int .i64 nn) ∧ w13.cell? ⟨g2, 8, none⟩ = some (.int .i64 ac') ∧ w13.cell? ⟨g2, 9, none⟩ = some (.int .i64 ch) ∧ w13.cell? ⟨g2, 10, none⟩ = some (.int .i64 la') ∧ w13.cell? ⟨g2, 11, none⟩ = some (.int .i64 bk') := ⟨by rw [cell_of_row _ _ _ _ _ _ hy13]; rfl, by rw [cell_of_row _ _ _ _ _ _ hy13]; rfl, by rw [cell_of_row _ _ _ _ _ _ hy13]; rfl, by rw [cell_of_row _ _ _ _ _ _ hy13]; rfl, by rw [cell_of_row _ _ _ _ _ _ hy13]; rfl, by rw [cell_of_row _ _ _ _ _ _ hy13]; rfl, by rw [cell_of_row _ _ _ _ _ _ hy13]; rfl, by rw [cell_of_row _ _ _ _ _ _ hy13]; rfl, by rw [cell_of_row _ _ _ _ _ _ hy13]; rfl, by rw [cell_of_row _ _ _ _ _ _ hy13]; rfl, by rw [cell_of_row _ _ _ _ _ _ hy13]; rfl, by rw [cell_of_row _ _ _ _ _ _ hy13]; rfl⟩
      have i29 : (Try.prog.info? 29).map (·.size) = some 12 := by kernel_rfl
      have u29 := Try.underlying29
      have g29 : Try.prog.eqGuardType Try.prog.depth 29 = false := by kernel_rfl
      have heq : ∀ W, (Op.equalIn 10000 29 (.agg #[.int .i64 d', .int .i64 r, .int .i64 pr, .int .i64 i', .int .i64 f, .int .i64 cr, .int .i64 o, .int .i64 nn, .int .i64 ac', .int .i64 ch, .int .i64 la', .int .i64 bk']) (.agg #[.int .i64 d', .int .i64 r, .int .i64 pr, .int .i64 i', .int .i64 f, .int .i64 cr, .int .i64 o, .int .i64 nn, .int .i64 ac', .int .i64 ch, .int .i64 la', .int .i64 bk'])).run Try.prog W = .ok true W := fun W => st_equal ⟨d', r, pr, i', f, cr, o, nn, ac', ch, la', bk'⟩ W
      go_wp2
      go_ret
      exact ⟨rfl, hb02.trans (hb13.mono hb02.size)⟩
end Go.Proofs.Ytmpbpgcmiboflaa
