/-
  The walk of AccrueSimple.
-/
import Derived.Test.YtmpbpgcmiboflaaAcWW
import Derived.Test.YtmpbpgcmiboflaaAcS
import Derived.Test.YtmpbpgcmiboflaaAcU2
import Derived.Test.YtmpbpgcmiboflaaAcYY
namespace Go.Proofs.Ytmpbpgcmiboflaa
open Go.RowKit
set_option linter.unusedVariables false

theorem rowE_one (W : World) (d a : Int) : RdE (W.alloc (.cells #[.int .i64 1, .string ⟨#[97]⟩, .int .i64 d, .int .i64 1, .int .i64 a, .int .i64 0] 46)) (some ⟨W.heap.size, 0, none⟩) 1 [evOne d a] :=
  ⟨rfl, fun _ => ⟨W.heap.size, 0, rfl, fun j hj k u hu => by
    obtain rfl : j = 0 := by simp at hj; omega
    have h := heap_alloc_new W (.cells #[.int .i64 1, .string ⟨#[97]⟩, .int .i64 d, .int .i64 1, .int .i64 a, .int .i64 0] 46)
    refine (cell_of_row _ _ _ _ _ _ h).trans ?_
    have hk : k < 6 := (Array.getElem?_eq_some_iff.1 hu).1
    rcases (show k = 0 ∨ k = 1 ∨ k = 2 ∨ k = 3 ∨ k = 4 ∨ k = 5 by omega) with rfl | rfl | rfl | rfl | rfl | rfl <;> simpa [evCells, evOne] using hu⟩⟩
theorem count_le (c : Int) {d v : Int} (d0 : -719162 ≤ d) (h : d ≤ v) (v1 : v ≤ 2932896) : (countOf c d v).1 ≤ 4000000 := by
  obtain ⟨va, _⟩ := parts_valid d d0 (by omega)
  obtain ⟨vb, _⟩ := parts_valid v (by omega) v1
  obtain ⟨x1, x2, x3, x4, x5, x6⟩ := va.sizes
  obtain ⟨y1, y2, y3, y4, y5, y6⟩ := vb.sizes
  unfold countOf
  split
  · unfold thirtyOf
    simp only
    split <;> omega
  · split <;> (simp only; omega)

set_option maxRecDepth 100000 in
set_option maxHeartbeats 4000000 in
theorem AccrueSimple_walk (p : Prod) (A : Option Addr) (n c : Nat) (sum x y : Int) (w : World) (hA : RdI w A n p.bounds) (hs : p.name.size ≤ 140737488351232) (hn : n ≤ c) (hc : c * 8 ≤ 140737488351232) (hs0 : -9223372036854775808 ≤ sum) (hs1 : sum ≤ 9223372036854775807) (hx0 : -9223372036854775808 ≤ x) (hx1 : x ≤ 9223372036854775807) (hy0 : -9223372036854775808 ≤ y) (hy1 : y ≤ 9223372036854775807) :
    Calls Try.prog 8 #[p.val (.slice A n c), .int .i64 sum, .agg #[.int .i64 x, .int .i64 y]] w fun e w' => e = .returned (.bool true) ∧ Below w.heap.size w w' := by
  have WK := Lib.hid wakes_any
  have CP := Lib.hid fun W (h : RdI W A n p.bounds) => Copy_any p A n c W h (by omega)
  have RP := Lib.hid fun l v A' c' E' ce' W (h : RdI W A' n p.bounds) (h2 : RdE W E' 1 l) => Replay_any p A' n c' E' 1 ce' l v W h h2 (by omega)
  have CK := Lib.hid fun W (h : RdI W A n p.bounds) => refCheck_any p A n c W h (by omega) (by omega)
  have SP := Lib.hid fun (hp : p.Ok) d v a (d0 : -719162 ≤ d) (hdv : d ≤ v) (v1 : v ≤ 2932896) (a0 : 1 ≤ a) (a1 : a ≤ 1000000000000000) => simple hp d0 hdv v1 a0 a1
  have SN := Lib.hid fun (hp : ¬ p.Ok) l v => simple_prod hp l v
  obtain ⟨okp, hokp⟩ : ∃ b : Bool, (b = true ↔ p.Ok) := ⟨decide p.Ok, by simp⟩
  have HOK := Lib.hid hokp
  have PB := Lib.hid fun (hp : p.Ok) => (⟨hp.conv0, hp.conv1, hp.rate0, hp.rate1⟩ : 1 ≤ p.conv ∧ p.conv ≤ 3 ∧ 0 ≤ p.rate ∧ p.rate ≤ 1000000000)
  clear hokp
  obtain ⟨u, hu, hu1⟩ : ∃ u : Nat, IntKind.u64.wrap sum = (u : Int) ∧ u < 18446744073709551616 := ⟨(IntKind.u64.wrap sum).toNat, by rw [IntKind.wrap_u64]; omega, by rw [IntKind.wrap_u64]; omega⟩
  obtain ⟨u2, hu2, hu3⟩ : ∃ u : Nat, IntKind.u64.wrap x = (u : Int) ∧ u < 18446744073709551616 := ⟨(IntKind.u64.wrap x).toNat, by rw [IntKind.wrap_u64]; omega, by rw [IntKind.wrap_u64]; omega⟩
  obtain ⟨u4, hu4, hu5⟩ : ∃ u : Nat, IntKind.u64.wrap y = (u : Int) ∧ u < 18446744073709551616 := ⟨(IntKind.u64.wrap y).toNat, by rw [IntKind.wrap_u64]; omega, by rw [IntKind.wrap_u64]; omega⟩
  obtain ⟨name, rate, conv, step, count, o1, o2, o3, bounds⟩ := p
  simp only [Prod.val, pCells] at CP RP CK ⊢
  obtain ⟨w1, hw1⟩ : ∃ w1, w1 = (w.alloc (.cells #[.string name, .int .i64 rate, .int .i64 conv, .int .i64 step, .int .i64 count, .int .i64 o1, .int .i64 o2, .int .i64 o3, .slice A n c] 25)).alloc (.cells #[.int .i64 x, .int .i64 y] 47) := ⟨_, rfl⟩
  have hb1 : Below w.heap.size w w1 := by rw [hw1]; exact ((Below.refl _ _).alloc (Nat.le_refl _) _).alloc (by simp) _
  have hz1 : w1.heap.size = w.heap.size + 2 := by rw [hw1]; simp
  have hS1 : w1.heap[w.heap.size]? = some (.cells #[.string name, .int .i64 rate, .int .i64 conv, .int .i64 step, .int .i64 count, .int .i64 o1, .int .i64 o2, .int .i64 o3, .slice A n c] 25 (0, 0)) := by rw [hw1]; exact heap_old (heap_alloc_new _ _)
  have hT1 : w1.heap[w.heap.size + 1]? = some (.cells #[.int .i64 x, .int .i64 y] 47 (0, 0)) := by rw [hw1, ← World.size_alloc w]; exact heap_alloc_new _ _
  go_enter Try.func8, Try.ntmps8
  go_upto_region 1 with (fail)
  rw [← hw1]
  clear hw1
  go_wp2_with fail
  refine (WK.out _).mono ?_
  rintro e w2 ⟨rfl, hb2⟩
  have hb02 := hb1.trans (hb2.mono hb1.size)
  have hl2 : w.heap.size < w2.heap.size := by have := hb2.size; omega
  have hS2 := (hb2.block w.heap.size (by omega)).trans hS1
  have hT2 := (hb2.block (w.heap.size + 1) (by omega)).trans hT1
  have HA := Lib.hid fun W (hW : Below w2.heap.size w2 W) => (hA.below hb02).below hW
  have CS := Lib.hid fun W (hW : Below w2.heap.size w2 W) => show W.cell? ⟨w.heap.size, 0, none⟩ = some (.string name) ∧ W.cell? ⟨w.heap.size, 1, none⟩ = some (.int .i64 rate) ∧ W.cell? ⟨w.heap.size, 2, none⟩ = some (.int .i64 conv) ∧ W.cell? ⟨w.heap.size, 3, none⟩ = some (.int .i64 step) ∧ W.cell? ⟨w.heap.size, 4, none⟩ = some (.int .i64 count) ∧ W.cell? ⟨w.heap.size, 5, none⟩ = some (.int .i64 o1) ∧ W.cell? ⟨w.heap.size, 6, none⟩ = some (.int .i64 o2) ∧ W.cell? ⟨w.heap.size, 7, none⟩ = some (.int .i64 o3) ∧ W.cell? ⟨w.heap.size, 8, none⟩ = some (.slice A n c) from ⟨by rw [cell_of_row _ _ _ _ _ _ ((hW.block w.heap.size hl2).trans hS2)]; rfl, by rw [cell_of_row _ _ _ _ _ _ ((hW.block w.heap.size hl2).trans hS2)]; rfl, by rw [cell_of_row _ _ _ _ _ _ ((hW.block w.heap.size hl2).trans hS2)]; rfl, by rw [cell_of_row _ _ _ _ _ _ ((hW.block w.heap.size hl2).trans hS2)]; rfl, by rw [cell_of_row _ _ _ _ _ _ ((hW.block w.heap.size hl2).trans hS2)]; rfl, by rw [cell_of_row _ _ _ _ _ _ ((hW.block w.heap.size hl2).trans hS2)]; rfl, by rw [cell_of_row _ _ _ _ _ _ ((hW.block w.heap.size hl2).trans hS2)]; rfl, by rw [cell_of_row _ _ _ _ _ _ ((hW.block w.heap.size hl2).trans hS2)]; rfl, by rw [cell_of_row _ _ _ _ _ _ ((hW.block w.heap.size hl2).trans hS2)]; rfl⟩
  have cx : w2.cell? ⟨w.heap.size + 1, 0, none⟩ = some (.int .i64 x) := by rw [cell_of_row _ _ _ _ _ _ hT2]; rfl
  have cy : w2.cell? ⟨w.heap.size + 1, 1, none⟩ = some (.int .i64 y) := by rw [cell_of_row _ _ _ _ _ _ hT2]; rfl
  clear hb1 hb2 hS1 hz1 hA hS2 WK hT1 hT2
  have h22 : Below w2.heap.size w2 w2 := Below.refl _ _
  go_upto_region 6 with (fail)
  obtain ⟨S, hS⟩ : ∃ S : Int, 1 + (u : Int) % 1000000000000000 = S := ⟨_, rfl⟩
  obtain ⟨d0, hd⟩ : ∃ d0 : Int, (u2 : Int) % 800000 - 300000 = d0 := ⟨_, rfl⟩
  rw [hd]
  obtain ⟨v, hv⟩ : ∃ v : Int, d0 + (u4 : Int) % 40000 = v := ⟨_, rfl⟩
  rw [hv, hS]
  have s0 : 1 ≤ S := by omega
  have s1 : S ≤ 1000000000000000 := by omega
  have y0 : -719162 ≤ d0 := by omega
  have y1 : d0 ≤ v := by omega
  have y2 : v ≤ 2932896 := by omega
  clear hS hd hv hu hu1 hu2 hu3 hu4 hu5 cx cy hx0 hx1 hy0 hy1 hs0 hs1
  have RP2 := Lib.hid fun A' c' E' ce' W h h2 => RP.out [evOne d0 S] v A' c' E' ce' W h h2
  clear RP
  generalize hans : replayAns ⟨name, rate, conv, step, count, o1, o2, o3, bounds⟩ [evOne d0 S] v = ans at RP2
  have HANS := Lib.hid hans
  clear hans
  obtain ⟨⟨d, r, pr, i, f, cr, o, nn, a, ch, la, bk⟩, k⟩ := ans
  simp only [St.val, stCells] at RP2
  obtain ⟨q0, q1, q2, q3, q4, q5, q6, q7, q8⟩ := CS.out _ h22
  go_wp2_with fail
  refine (CP.out _ (HA.out _ h22)).mono ?_
  rintro e w5 ⟨⟨A5, c5, rfl, hA5⟩, hb5⟩
  go_wp2_with fail
  refine (RP2.out _ _ _ _ _ (hA5.alloc _) (rowE_one w5 d0 S)).mono ?_
  rintro e w7 ⟨rfl, hb7⟩
  have HB7 := Below.then hb7 (hb5.alloc hb5.size _)
  clear q0 q1 q2 q3 q4 q5 q6 q7 q8 hb5 hb7 hA5 RP2
  go_upto_region 7 with (fail)
  refine wp_at (fun wx => wx.heap[w7.heap.size]? = some (.cells #[.int .i64 d, .int .i64 r, .int .i64 pr, .int .i64 i, .int .i64 f, .int .i64 cr, .int .i64 o, .int .i64 nn, .int .i64 a, .int .i64 ch, .int .i64 la, .int .i64 bk] 29 (0, 0)) ∧ Below w2.heap.size w2 wx) ⟨heap_alloc_new _ _, HB7.alloc HB7.size _⟩ ?_
  rintro w8 ⟨hr8, hb8⟩
  obtain ⟨g, hg⟩ : ∃ g, g = w7.heap.size := ⟨_, rfl⟩
  rw [← hg] at hr8 ⊢
  clear hg HB7
  obtain ⟨q0, q1, q2, q3, q4, q5, q6, q7, q8⟩ := CS.out _ hb8
  go_wp2_with fail
  refine (CK.out _ (HA.out _ hb8)).mono ?_
  rintro e w9 ⟨rfl, hb9⟩
  have HB9 := Below.then hb9 hb8
  have hr9 := row_kept hr8 hb9
  clear q0 q1 q2 q3 q4 q5 q6 q7 q8 hb9 hr8 hb8
  obtain ⟨q0, q1, q2, q3, q4, q5, q6, q7, q8⟩ := CS.out _ HB9
  obtain ⟨z0, z1, z2, z3, z4, z5, z6, z7, z8, z9, z10, z11⟩ : w9.cell? ⟨g, 0, none⟩ = some (.int .i64 d) ∧ w9.cell? ⟨g, 1, none⟩ = some (.int .i64 r) ∧ w9.cell? ⟨g, 2, none⟩ = some (.int .i64 pr) ∧ w9.cell? ⟨g, 3, none⟩ = some (.int .i64 i) ∧ w9.cell? ⟨g, 4, none⟩ = some (.int .i64 f) ∧ w9.cell? ⟨g, 5, none⟩ = some (.int .i64 cr) ∧ w9.cell? ⟨g, 6, none⟩ = some (.int .i64 o) ∧ w9.cell? ⟨g, 7, none⟩ = some (.int .i64 nn) ∧ w9.cell? ⟨g, 8, none⟩ = some (.int .i64 a) ∧ w9.cell? ⟨g, 9, none⟩ = some (.int .i64 ch) ∧ w9.cell? ⟨g, 10, none⟩ = some (.int .i64 la) ∧ w9.cell? ⟨g, 11, none⟩ = some (.int .i64 bk) := ⟨by rw [cell_of_row _ _ _ _ _ _ hr9]; rfl, by rw [cell_of_row _ _ _ _ _ _ hr9]; rfl, by rw [cell_of_row _ _ _ _ _ _ hr9]; rfl, by rw [cell_of_row _ _ _ _ _ _ hr9]; rfl, by rw [cell_of_row _ _ _ _ _ _ hr9]; rfl, by rw [cell_of_row _ _ _ _ _ _ hr9]; rfl, by rw [cell_of_row _ _ _ _ _ _ hr9]; rfl, by rw [cell_of_row _ _ _ _ _ _ hr9]; rfl, by rw [cell_of_row _ _ _ _ _ _ hr9]; rfl, by rw [cell_of_row _ _ _ _ _ _ hr9]; rfl, by rw [cell_of_row _ _ _ _ _ _ hr9]; rfl, by rw [cell_of_row _ _ _ _ _ _ hr9]; rfl⟩
  have i29 : (Try.prog.info? 29).map (·.size) = some 12 := by kernel_rfl
  have u29 := Try.underlying29
  have g29 : Try.prog.eqGuardType Try.prog.depth 29 = false := by kernel_rfl
  have heq : ∀ W, (Op.equalIn 10000 29 (.agg #[.int .i64 0, .int .i64 0, .int .i64 0, .int .i64 0, .int .i64 0, .int .i64 0, .int .i64 0, .int .i64 0, .int .i64 0, .int .i64 0, .int .i64 0, .int .i64 0]) (.agg #[.int .i64 0, .int .i64 0, .int .i64 0, .int .i64 0, .int .i64 0, .int .i64 0, .int .i64 0, .int .i64 0, .int .i64 0, .int .i64 0, .int .i64 0, .int .i64 0])).run Try.prog W = .ok true W := fun W => st_equal St.zero W
  cases okp
  · have hno : ¬ (⟨name, rate, conv, step, count, o1, o2, o3, bounds⟩ : Prod).Ok := fun h => by have := HOK.out.2 h; cases this
    rw [if_neg hno]
    have h := SN.out hno [evOne d0 S] v
    rw [HANS.out] at h
    injection h with h1 h2
    subst h2
    injection h1 with h1 h2 h3 h4 h5 h6 h7 h8 h9 h10 h11 h12
    subst h1 h2 h3 h4 h5 h6 h7 h8 h9 h10 h11 h12
    go_wp2
    go_ret
    exact ⟨rfl, hb02.trans (HB9.mono hb02.size)⟩
  · have hok := HOK.out.1 rfl
    rw [if_pos hok]
    obtain ⟨p1, p2, p3, p4⟩ := PB.out hok
    (try simp only at p1 p2 p3 p4)
    have SQ := Lib.hid (SP.out hok d0 v S y0 y1 y2 s0 s1)
    have hnum := count_mono (c := conv) y0 (Int.le_refl d0) y1 y2
    rw [count_same] at hnum
    have CT := Lib.hid fun W => Count_any conv d0 v W p1 p2 y0 (by omega) (by omega) y2 y1
    have hcnt := count_le conv y0 y1 y2
    have hden := countOf_den conv d0 v
    have IN := Lib.hid fun W => Interest_any S rate (countOf conv d0 v).1 (countOf conv d0 v).2 W
    generalize (countOf conv d0 v).1 = num at *
    generalize (countOf conv d0 v).2 = den at *
    clear hnum SP SN PB
    go_wp2_with fail
    refine (CT.out _).mono ?_
    rintro e w10 ⟨rfl, hb10⟩
    have HB10 := Below.then hb10 HB9
    have hr10 := row_kept hr9 hb10
    clear q0 q1 q2 q3 q4 q5 q6 q7 q8 hb10 hr9 HB9 z0 z1 z2 z3 z4 z5 z6 z7 z8 z9 z10 z11
    obtain ⟨q0, q1, q2, q3, q4, q5, q6, q7, q8⟩ := CS.out _ HB10
    go_wp2_with fail
    refine (IN.out _).mono ?_
    rintro e w11 ⟨rfl, hb11⟩
    have HB11 := Below.then hb11 HB10
    have hr11 := row_kept hr10 hb11
    clear q0 q1 q2 q3 q4 q5 q6 q7 q8 hb11 hr10 HB10 IN CT
    obtain ⟨q0, q1, q2, q3, q4, q5, q6, q7, q8⟩ := CS.out _ HB11
    obtain ⟨z0, z1, z2, z3, z4, z5, z6, z7, z8, z9, z10, z11⟩ : w11.cell? ⟨g, 0, none⟩ = some (.int .i64 d) ∧ w11.cell? ⟨g, 1, none⟩ = some (.int .i64 r) ∧ w11.cell? ⟨g, 2, none⟩ = some (.int .i64 pr) ∧ w11.cell? ⟨g, 3, none⟩ = some (.int .i64 i) ∧ w11.cell? ⟨g, 4, none⟩ = some (.int .i64 f) ∧ w11.cell? ⟨g, 5, none⟩ = some (.int .i64 cr) ∧ w11.cell? ⟨g, 6, none⟩ = some (.int .i64 o) ∧ w11.cell? ⟨g, 7, none⟩ = some (.int .i64 nn) ∧ w11.cell? ⟨g, 8, none⟩ = some (.int .i64 a) ∧ w11.cell? ⟨g, 9, none⟩ = some (.int .i64 ch) ∧ w11.cell? ⟨g, 10, none⟩ = some (.int .i64 la) ∧ w11.cell? ⟨g, 11, none⟩ = some (.int .i64 bk) := ⟨by rw [cell_of_row _ _ _ _ _ _ hr11]; rfl, by rw [cell_of_row _ _ _ _ _ _ hr11]; rfl, by rw [cell_of_row _ _ _ _ _ _ hr11]; rfl, by rw [cell_of_row _ _ _ _ _ _ hr11]; rfl, by rw [cell_of_row _ _ _ _ _ _ hr11]; rfl, by rw [cell_of_row _ _ _ _ _ _ hr11]; rfl, by rw [cell_of_row _ _ _ _ _ _ hr11]; rfl, by rw [cell_of_row _ _ _ _ _ _ hr11]; rfl, by rw [cell_of_row _ _ _ _ _ _ hr11]; rfl, by rw [cell_of_row _ _ _ _ _ _ hr11]; rfl, by rw [cell_of_row _ _ _ _ _ _ hr11]; rfl, by rw [cell_of_row _ _ _ _ _ _ hr11]; rfl⟩
    generalize (interestOf S rate num den).1 = I at *
    generalize (interestOf S rate num den).2 = IE at *
    rcases SQ.out with ⟨hI, h⟩ | ⟨⟨hI1, hI2⟩, s, h, j1, j2, j3, j4, j5, j6, j7⟩
    · rw [HANS.out] at h
      injection h with h1 h2
      subst h2
      injection h1 with h1 h2 h3 h4 h5 h6 h7 h8 h9 h10 h11 h12
      subst h1 h2 h3 h4 h5 h6 h7 h8 h9 h10 h11 h12
      by_cases hie : IE = 0
      · subst hie
        have hbig : 1000000000000000 < I := by omega
        clear hI
        go_wp2
        all_goals (go_ret; exact ⟨rfl, hb02.trans (HB11.mono hb02.size)⟩)
      · have t1 : (IE != 0) = true := by simpa using hie
        have t2 : (IE == 0) = false := by simpa using hie
        clear hI hie
        go_wp2
        all_goals (go_ret; exact ⟨rfl, hb02.trans (HB11.mono hb02.size)⟩)
    · rw [HANS.out] at h
      injection h with h1 h2
      subst h2
      subst h1
      simp only at j1 j2 j3 j4 j5 j6 j7
      subst hI1
      have hib : ¬ 1000000000000000 < I := by omega
      subst j1 j2 j5 j6 j7
      subst j3
      subst j4
      go_wp2
      all_goals (go_ret; exact ⟨rfl, hb02.trans (HB11.mono hb02.size)⟩)
end Go.Proofs.Ytmpbpgcmiboflaa
