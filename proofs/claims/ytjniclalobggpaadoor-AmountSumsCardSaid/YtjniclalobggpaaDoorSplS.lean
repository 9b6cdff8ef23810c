/-
  The walk of the reference's Split at a total that is shared. No statement is proved here.
-/
import Derived.Test.YtjniclalobggpaaDoorSplR
import Derived.Test.YtjniclalobggpaaDoorSplO
import Derived.Test.YtjniclalobggpaaDoorAmN9
import Derived.Test.YtjniclalobggpaaDoorAmN11
namespace Go.Proofs.YtjniclalobggpaaDoor
open Go.RowKit Go.Shelf Go.Sort
set_option linter.unusedVariables false
set_option linter.unusedSimpArgs false

theorem sgn_small (q : Nat) (h : q < 9223372036854775808) : sgn q false = ((q : Int), 0) := by
  unfold sgn; rw [if_neg (by simp), if_pos h]
set_option maxRecDepth 100000 in
set_option maxHeartbeats 8000000 in
theorem refSplit_ok (total : Int) (c : Nat) (ws : List Nat) (b off n S : Nat) (w : World) (h1 : 1 ≤ n) (h2 : n ≤ 1024) (hbl : b < w.heap.size) (hc : ∀ j, j < n → w.cell? ⟨b, off + j, none⟩ = some (.int .i64 (wAt ws j : Nat)))
    (hok : ∀ j, j < n → wAt ws j ≤ 1000000000) (hS : wsum ws n = S) (hS0 : 0 < S) (t1 : -1000000000000000 ≤ total) (t2 : total ≤ 1000000000000000) :
    Calls Tryd.prog 18 #[.int .i64 total, .slice (some ⟨b, off, none⟩) n c] w fun e w' => ∃ G, w.heap.size ≤ G ∧ e = .returned (.tuple #[.slice (some ⟨G, 0, none⟩) n n, .int .i64 0]) ∧
      w'.heap[G]? = some (.cells (rowI n fun i => sg total * (shareF total.natAbs ws S n (left0 total.natAbs ws S n) i : Nat)) 2 (0, 0)) ∧ Below w.heap.size w w' := by
  have g1 : ((n : Int) == 0) = false := by rw [beq_eq_false_iff_ne]; omega
  have g2 : ¬ (1024 : Int) < n := by omega
  have HC := Lib.hid hc
  have HK := Lib.hid hok
  have HSM : Hid (∀ j, j ≤ n → wsum ws j ≤ j * 1000000000) := Lib.hid fun j hj => sumTo_le _ _ _ fun i hi => hok i (by omega)
  have HSS := Lib.hid hS
  have hS3 : S ≤ 1024000000000 := by have := HSM.out n (Nat.le_refl _); rw [hS] at this; omega
  have HW : Hid (∀ j, j < n → wAt ws j ≤ S) := Lib.hid fun j hj => by
    have h := sumTo_mono (wAt ws) n (j + 1) hj
    rw [sumTo] at h
    unfold wsum at hS
    omega
  have hz : ((S : Int) == 0) = false := by rw [beq_eq_false_iff_ne]; omega
  obtain ⟨N, hN⟩ : ∃ N, N = total.natAbs := ⟨_, rfl⟩
  have SZ := Lib.hid (fun w => Size_any total w (by omega) (by omega))
  rw [← hN] at SZ ⊢
  have hN2 : N ≤ 1000000000000000 := by omega
  have hp20 := pow20_big
  have BK : Hid (∀ (q : Nat) (hq : q ≤ 1000000000000000) (w : World), Calls Tryd.prog 32 #[natOf q, .bool false] w fun e w' => e = .returned (.tuple #[.int .i64 (q : Int), .bool true]) ∧ Below w.heap.size w w') := Lib.hid (fun q hq w => by
    have h := Back_any q false w (by omega)
    rw [sgn_small q (by omega)] at h
    exact h)
  obtain ⟨hq, hl, hlt⟩ := left_law N ws S n hS hS0
  have MK := makeI n h2
  have hz20 := zero20
  have g3 : ¬ total < -1000000000000000 := by omega
  have g4 : ¬ 1000000000000000 < total := by omega
  have HN := Lib.hid hN
  have HP20 := Lib.hid hp20
  have hNE : N < 9223372036854775808 := by omega
  unfold natOf at SZ BK
  clear hc hok hS hN hl hp20
  go_enter Tryd.func18, Tryd.ntmps18
  go_wp2_with fail
  go_loopw [6, 29] (fun s i wr => ∃ j : Nat, j ≤ n ∧ s = .int .i64 (wsum ws j : Nat) ∧ i = .int .i64 j ∧ w = wr) (fun _ i _ => n - (intOf i).toNat)
  case atStart => exact ⟨0, by omega, rfl, rfl, rfl⟩
  case round =>
    obtain ⟨j, hj, rfl, rfl, rfl⟩ := hrel
    by_cases hlt1 : j < n
    · have hcj := HC.out j hlt1
      have hjn : (j : Int) < (n : Int) := by omega
      have hs := HSM.out j (by omega)
      have e2 := HK.out j hlt1
      have q1 : ¬ (wAt ws j : Int) < 0 := by omega
      have q2 : ¬ (1000000000 : Int) < (wAt ws j : Int) := by omega
      have Q3 : Hid (wsum ws (j + 1) = wsum ws j + wAt ws j) := Lib.hid rfl
      have hsb : wsum ws j ≤ 1024000000000 := by omega
      clear hs
      generalize wAt ws j = a at *
      generalize wsum ws j = s at *
      go_wp2_with fail
      go_roundw
      case rel => exact ⟨j + 1, by omega, congrArg (Value.int .i64) (by rw [Q3.out]; omega), by go_num, by simp⟩
      case measure => simp [intOf]; omega
    · obtain rfl : n = j := by omega
      rw [HSS.out]
      go_wp2_with fail
      refine (SZ.out _).mono ?_
      rintro e w1 ⟨rfl, hb1⟩
      have K0 : (w1.alloc (.cells z20 59)).heap[w1.heap.size]? = some (.cells z20 59 (0, 0)) := heap_alloc_new w1 _
      have K1 := setRow_heap _ _ _ (row20 (dg N)) _ _ K0
      have hbK := (hb1.alloc hb1.size (.cells z20 59)).setRow (g := w1.heap.size) hb1.size (row20 (dg N))
      have HK1 := Lib.hid K1
      have hg8 := hb1.size
      obtain ⟨g8, hg8e⟩ : ∃ g8, g8 = w1.heap.size := ⟨_, rfl⟩
      clear hb1
      go_wp2_with (first | (refine wpList_store_row rfl _ _ _ rfl _ _ rfl rfl _ _ K0 (infoN _) (by rw [row20_size]; rfl) (row20_one _) ?_) | (refine wpList_load_row rfl 59 _ rfl _ rfl _ _ _ _ K1 Tryd.underlying59 rfl (infoN _) ?_))
      generalize (w1.alloc (.cells z20 59)).setRow w1.heap.size (row20 (dg N)) = v1 at *
      rw [← hg8e] at HK1 hg8 ⊢
      clear K0 K1 hg8e w1
      refine (BK.out N hN2 _).mono ?_
      rintro e w2 ⟨rfl, hb2⟩
      have K2 := (hb2.block _ (heap_lt HK1.out)).trans HK1.out
      have hbw2 := hbK.trans (hb2.mono hbK.size)
      have hlt8 := heap_lt K2
      have HK2 := Lib.hid K2
      clear K2 HK1 hbK hb2 v1
      go_wp2_with fail
      clear MK
      have hS2 : w.heap.size ≤ w2.heap.size := hbw2.size
      obtain ⟨G, hG⟩ : ∃ G, G = w2.heap.size := ⟨_, rfl⟩
      rw [← hG] at hlt8 hS2 ⊢
      have b0 : Below w.heap.size w ((w2.alloc (.cells (rowI n fun _ => 0) 2)).alloc (.cells (rowI n fun _ => 0) 2)) := hbw2.trans ((((Below.refl w2.heap.size w2).alloc (Nat.le_refl _) _).alloc (by simp) _).mono (by omega))
      have b1 : ((w2.alloc (.cells (rowI n fun _ => 0) 2)).alloc (.cells (rowI n fun _ => 0) 2)).heap[G]? = some (.cells (rowI n fun _ => 0) 2 (0, 0)) := by rw [hG]; exact alloc2_first _ _ _
      have b2 : ((w2.alloc (.cells (rowI n fun _ => 0) 2)).alloc (.cells (rowI n fun _ => 0) 2)).heap[G + 1]? = some (.cells (rowI n fun _ => 0) 2 (0, 0)) := by rw [hG, ← World.size_alloc w2]; exact heap_alloc_new _ _
      have b3 : ((w2.alloc (.cells (rowI n fun _ => 0) 2)).alloc (.cells (rowI n fun _ => 0) 2)).heap[g8]? = some (.cells (row20 (dg N)) 59 (0, 0)) := ((((Below.refl w2.heap.size w2).alloc (Nat.le_refl _) _).alloc (by simp) _).block _ (by omega)).trans HK2.out
      generalize (w2.alloc (.cells (rowI n fun _ => 0) 2)).alloc (.cells (rowI n fun _ => 0) 2) = w3 at *
      clear hG HK2 hbw2
      go_loopw [9, 76] (fun l i wr => ∃ j : Nat, j ≤ n ∧ l = .int .i64 (N - sumTo (qq N ws S) j : Nat) ∧ i = .int .i64 j ∧ wr.heap[G]? = some (.cells (rowI n fun i => if i < j then (qq N ws S i : Int) else 0) 2 (0, 0)) ∧ wr.heap[G + 1]? = some (.cells (rowI n fun i => if i < j then (rr N ws S i : Int) else 0) 2 (0, 0)) ∧ wr.heap[g8]? = some (.cells (row20 (dg N)) 59 (0, 0)) ∧ Below w.heap.size w wr) (fun _ i _ => n - (intOf i).toNat)
      case atStart => exact ⟨0, by omega, by first | rfl | simp [sumTo], rfl, b1.trans (congrArg (fun z => some (Obj.cells z 2 (0, 0))) (rowI_ext _ _ _ fun i hi => by rw [if_neg (by omega)])), b2.trans (congrArg (fun z => some (Obj.cells z 2 (0, 0))) (rowI_ext _ _ _ fun i hi => by rw [if_neg (by omega)])), b3, b0⟩
      case round =>
        clear b0 b1 b2 b3
        obtain ⟨j, hj, rfl, rfl, r1, r2, r3, hb⟩ := hrel
        by_cases hlt2 : j < n
        · have hcj := cell_later hb (HC.out j hlt2)
          have hjn : (j : Int) < (n : Int) := by omega
          have e2 := HK.out j hlt2
          have e3 := HW.out j hlt2
          have hNa : N * wAt ws j ≤ 1000000000000000 * 1000000000 := Nat.mul_le_mul hN2 e2
          have hp20 := HP20.out
          have C5 : Hid (∀ w : World, Calls Tryd.prog 35 #[.int .i64 (wAt ws j : Nat)] w fun e w' => e = .returned (.agg (row20 (dg (wAt ws j)))) ∧ Below w.heap.size w w') := Lib.hid (fun w => by
            have h := Size_any (wAt ws j : Int) w (by omega) (by omega)
            rw [Int.natAbs_natCast] at h
            exact h)
          have C6 : Hid (∀ w : World, Calls Tryd.prog 34 #[.agg (row20 (dg N)), .agg (row20 (dg (wAt ws j)))] w fun e w' => e = .returned (.agg (row20 (dg (N * wAt ws j)))) ∧ Below w.heap.size w w') := Lib.hid (fun w => Times_any N (wAt ws j) w (by omega))
          have C8 : Hid (∀ w : World, Calls Tryd.prog 35 #[.int .i64 (S : Nat)] w fun e w' => e = .returned (.agg (row20 (dg S))) ∧ Below w.heap.size w w') := Lib.hid (fun w => by
            have h := Size_any (S : Int) w (by omega) (by omega)
            rw [Int.natAbs_natCast] at h
            exact h)
          have C9 : Hid (∀ w : World, Calls Tryd.prog 43 #[.agg (row20 (dg (N * wAt ws j))), .agg (row20 (dg S))] w fun e w' => e = .returned (.tuple #[.agg (row20 (dg (qq N ws S j))), .agg (row20 (dg (rr N ws S j)))]) ∧ Below w.heap.size w w') := Lib.hid (fun w => Over_any (N * wAt ws j) S w hS0 (by omega) (by omega))
          have hqN : sumTo (qq N ws S) j + qq N ws S j ≤ N := by
            have h := sumTo_mono (qq N ws S) n (j + 1) hlt2
            rw [sumTo] at h
            omega
          have hrS : rr N ws S j < S := Nat.mod_lt _ hS0
          have R1 : Hid ((rowI n fun i => if i < j then (qq N ws S i : Int) else 0).setIfInBounds j (.int .i64 (qq N ws S j : Nat)) = rowI n fun i => if i < j + 1 then (qq N ws S i : Int) else 0) := Lib.hid (by
            rw [rowI_set]
            refine rowI_ext _ _ _ fun i hi => ?_
            by_cases e : i = j
            · subst e; rw [if_pos rfl, if_pos (by omega)]
            · rw [if_neg e]
              by_cases e2 : i < j
              · rw [if_pos e2, if_pos (by omega)]
              · rw [if_neg e2, if_neg (by omega)])
          have R2 : Hid ((rowI n fun i => if i < j then (rr N ws S i : Int) else 0).setIfInBounds j (.int .i64 (rr N ws S j : Nat)) = rowI n fun i => if i < j + 1 then (rr N ws S i : Int) else 0) := Lib.hid (by
            rw [rowI_set]
            refine rowI_ext _ _ _ fun i hi => ?_
            by_cases e : i = j
            · subst e; rw [if_pos rfl, if_pos (by omega)]
            · rw [if_neg e]
              by_cases e2 : i < j
              · rw [if_pos e2, if_pos (by omega)]
              · rw [if_neg e2, if_neg (by omega)])
          have R3 : Hid (sumTo (qq N ws S) (j + 1) = sumTo (qq N ws S) j + qq N ws S j) := Lib.hid rfl
          have o1 := cell_of_row wr G j _ _ _ r1
          rw [rowI_at _ _ _ hlt2, if_neg (by omega)] at o1
          have o2 := cell_of_row wr (G + 1) j _ _ _ r2
          rw [rowI_at _ _ _ hlt2, if_neg (by omega)] at o2
          have H1 := Lib.hid r1
          have H2 := Lib.hid r2
          have HB := Lib.hid hb
          clear r1 r2 hb hNa hp20
          generalize wAt ws j = a at *
          generalize hqe : qq N ws S j = q at *
          have HQJ : Hid (qq N ws S j = q) := Lib.hid hqe
          generalize rr N ws S j = r at *
          generalize sumTo (qq N ws S) j = sq at *
          clear hqe
          go_upto_region 20 with (fail)
          go_cut [14, 15] (fun t14 t15 W => OverEnd wr q r t14 t15 W)
          case first =>
            refine over_region _ _ wr b off n c j a N S q r g8 (fun _ _ _ _ _ h => h) rfl rfl rfl rfl rfl hlt2 hcj r3 C5.out C6.out C8.out C9.out ?_
            intro g13 g14 W hE
            simp only [Act.put, List.setIfInBounds_toArray, List.set_cons_zero, List.set_cons_succ]
            go_wp2
            go_meet
            case rel => exact hE
          case rest =>
            obtain ⟨ga, gb, hga, hgb, rfl, rfl, Q1, Q2, hbc⟩ := hcut
            have hG2 := heap_lt H2.out
            have h1' := (hbc.block _ (heap_lt H1.out)).trans H1.out
            have h2' := (hbc.block _ (heap_lt H2.out)).trans H2.out
            have h3' := (hbc.block _ (heap_lt r3)).trans r3
            have hbw := HB.out.trans (hbc.mono HB.out.size)
            clear H1 H2 HB r3 C5 C6 C8 C9 o1 o2 hcj hbc
            go_wp2_with (first | (refine wpList_load_row rfl 59 _ rfl _ rfl _ _ _ _ Q1 Tryd.underlying59 rfl (infoN _) ?_))
            refine (BK.out q (by omega) _).mono ?_
            rintro e w5 ⟨rfl, hb5⟩
            have h1'' := (hb5.block _ (heap_lt h1')).trans h1'
            have h2'' := (hb5.block _ (heap_lt h2')).trans h2'
            have h3'' := (hb5.block _ (heap_lt h3')).trans h3'
            have Q2' := (hb5.block _ (heap_lt Q2)).trans Q2
            have hbw5 := hbw.trans (hb5.mono hbw.size)
            clear h1' h2' h3' Q1 Q2 hbw hb5
            have c1 := cell_of_row w5 G j _ _ _ h1''
            rw [rowI_at _ _ _ hlt2, if_neg (by omega)] at c1
            have f1 := frozen_of_row w5 G j _ _ h1''
            have i1 : (w5.setCell ⟨G, j, none⟩ (.int .i64 (q : Int))).heap[G]? = some (.cells (rowI n fun i => if i < j + 1 then (qq N ws S i : Int) else 0) 2 (0, 0)) := by rw [← R1.out]; exact row_set h1'' _ _
            have i2 : (w5.setCell ⟨G, j, none⟩ (.int .i64 (q : Int))).heap[G + 1]? = _ := row_keep h2'' (by omega) j _
            have i3 : (w5.setCell ⟨G, j, none⟩ (.int .i64 (q : Int))).heap[g8]? = _ := row_keep h3'' (by omega) j _
            have Q3 : (w5.setCell ⟨G, j, none⟩ (.int .i64 (q : Int))).heap[gb]? = _ := row_keep Q2' (by omega) j _
            have hbv : Below w.heap.size w (w5.setCell ⟨G, j, none⟩ (.int .i64 (q : Int))) := hbw5.setCell hS2 _
            have I1 := Lib.hid i1
            clear h1'' h2'' h3'' Q2' hbw5 i1
            go_wp2_with (first | (refine wpList_load_row rfl 59 _ rfl _ rfl _ _ _ _ Q3 Tryd.underlying59 rfl (infoN _) ?_))
            clear c1 f1
            generalize w5.setCell ⟨G, j, none⟩ (.int .i64 (q : Int)) = v5 at *
            refine (BK.out r (by omega) _).mono ?_
            rintro e w6 ⟨rfl, hb6⟩
            have k1 := (hb6.block _ (heap_lt I1.out)).trans I1.out
            have k2 := (hb6.block _ (heap_lt i2)).trans i2
            have k3 := (hb6.block _ (heap_lt i3)).trans i3
            have hbw6 := hbv.trans (hb6.mono hbv.size)
            clear I1 i2 i3 Q3 hbv hb6
            have c2 := cell_of_row w6 (G + 1) j _ _ _ k2
            rw [rowI_at _ _ _ hlt2, if_neg (by omega)] at c2
            have f2 := frozen_of_row w6 (G + 1) j _ _ k2
            have c1 := cell_of_row w6 G j _ _ _ k1
            rw [rowI_at _ _ _ hlt2, if_pos (by omega)] at c1
            have hqj : qq N ws S j = q := HQJ.out
            rw [hqj] at c1
            clear hqj
            have m1 := Lib.hid k1
            have m2 := Lib.hid k2
            have m3 := Lib.hid k3
            clear k1 k2 k3
            have hsub : IntKind.i64.wrap (((N - sq : Nat) : Int) - (q : Int)) = ((N - (sq + q) : Nat) : Int) := by rw [IntKind.wrap_i64]; omega
            go_wp2
            go_roundw
            case measure => simp [intOf]; omega
            case rel => exact ⟨j + 1, by omega, congrArg (Value.int .i64) (by rw [R3.out]), by go_num, row_keep m1.out (by omega) _ _, by rw [← R2.out]; exact row_set m2.out _ _, row_keep m3.out (by omega) _ _, hbw6.setCell (show w.heap.size ≤ G + 1 by omega) _⟩
        · obtain rfl : n = j := by omega
          obtain ⟨lf, hlf⟩ : ∃ lf, lf = left0 N ws S n := ⟨_, rfl⟩
          have hlf2 : N - sumTo (qq N ws S) n = lf := by rw [hlf]; rfl
          rw [hlf2]
          have HLF := Lib.hid hlf
          rw [← hlf] at hlt
          have s1 : wr.heap[G]? = some (.cells (rowI n fun i => (shareF N ws S n 0 i : Int)) 2 (0, 0)) := r1.trans (congrArg (fun z => some (Obj.cells z 2 (0, 0))) (rowI_ext _ _ _ fun i hi => by rw [if_pos hi]; rfl))
          have s2 : wr.heap[G + 1]? = some (.cells (rowI n fun i => restF N ws S n 0 i) 2 (0, 0)) := r2.trans (congrArg (fun z => some (Obj.cells z 2 (0, 0))) (rowI_ext _ _ _ fun i hi => by rw [if_pos hi]; rfl))
          have PL : Hid (∀ k x, k < n → x < n → (∀ j, j < n → restF N ws S n k j ≤ restF N ws S n k x) → (∀ j, j < x → restF N ws S n k j < restF N ws S n k x) → x = place N ws S n k) := Lib.hid fun k x => pick_law N ws S n k x
          have HX : Hid (∀ k, k < n → ∀ i, shareF N ws S n (k + 1) i = if i = place N ws S n k then shareF N ws S n k i + 1 else shareF N ws S n k i) := Lib.hid fun k hk i => shareF_succ N ws S n k i hk
          have HY : Hid (∀ k i, restF N ws S n (k + 1) i = if i = place N ws S n k then -1 else restF N ws S n k i) := Lib.hid fun k i => restF_succ N ws S n k i
          have HLE : Hid (∀ k i, i < n → shareF N ws S n k i ≤ N + 1) := Lib.hid fun k i hi => share_le N ws S n HSS.out hS0 k i hi
          clear r1 r2 r3 hlf hlf2 hq SZ BK hlt8 hg8 HP20
          go_wp2_with fail
          go_loopw [9] (fun l wr => ∃ k m : Nat, Hid (k + m = lf) ∧ l = .int .i64 m ∧ wr.heap[G]? = some (.cells (rowI n fun i => (shareF N ws S n k i : Int)) 2 (0, 0)) ∧ wr.heap[G + 1]? = some (.cells (rowI n fun i => restF N ws S n k i) 2 (0, 0)) ∧ Below w.heap.size w wr) (fun l _ => (intOf l).toNat)
          case atStart => exact ⟨0, lf, Nat.zero_add _, rfl, s1, s2, hb⟩
          case round =>
            obtain ⟨wp, rfl⟩ : ∃ x, x = wr := ⟨_, rfl⟩
            clear s1 s2 hb
            obtain ⟨k, m, hkm, rfl, s1, s2, hb⟩ := hrel
            by_cases hm : 0 < m
            · have hkn : k < n := by have := hkm.out; omega
              have hmi : (0 : Int) < (m : Int) := by omega
              have hmb : (m : Int) ≤ 1024 := by have := hkm.out; omega
              have hn0 : (0 : Int) < (n : Int) := by omega
              go_wp2_with fail
              go_loopw [16, 121] (fun x i wq => ∃ a j q : Nat, a < n ∧ j ≤ n ∧ x = .int .i64 a ∧ i = .int .i64 j ∧ wq = wp.drewN q ∧ Hid (∀ i, i < j → restF N ws S n k i ≤ restF N ws S n k a) ∧ Hid (∀ i, i < a → restF N ws S n k i < restF N ws S n k a)) (fun _ i _ => n - (intOf i).toNat)
              case atStart => exact ⟨0, 0, 0, by omega, by omega, rfl, rfl, rfl, fun i hi => by omega, fun i hi => by omega⟩
              case round =>
                obtain ⟨a, j, q, ha, hj, rfl, rfl, rfl, P1, P2⟩ := hrel
                have hai : (a : Int) < (n : Int) := by omega
                by_cases hlt5 : j < n
                · have hji : (j : Int) < (n : Int) := by omega
                  have c1 := cell_of_row wp (G + 1) j _ _ _ s2
                  rw [rowI_at _ _ _ hlt5] at c1
                  have c2 := cell_of_row wp (G + 1) a _ _ _ s2
                  rw [rowI_at _ _ _ ha] at c2
                  by_cases hgt : restF N ws S n k a < restF N ws S n k j
                  · have N1 : Hid (∀ i, i < j + 1 → restF N ws S n k i ≤ restF N ws S n k j) := Lib.hid fun i hi => by
                      by_cases e : i = j
                      · subst e; omega
                      · have := P1.out i (by omega); omega
                    have N2 : Hid (∀ i, i < j → restF N ws S n k i < restF N ws S n k j) := Lib.hid fun i hi => by
                      have := P1.out i hi; omega
                    have S1 := Lib.hid s1
                    have S2 := Lib.hid s2
                    clear P1 P2 s1 s2
                    go_wp2_with fail
                    go_quiet (fail)
                    go_wp2
                    go_roundw
                    case measure => simp [intOf]; omega
                    case rel => exact ⟨j, j + 1, _, hlt5, by omega, rfl, by go_num, rfl, N1, N2⟩
                  · have N1 : Hid (∀ i, i < j + 1 → restF N ws S n k i ≤ restF N ws S n k a) := Lib.hid fun i hi => by
                      by_cases e : i = j
                      · subst e; omega
                      · exact P1.out i (by omega)
                    have S1 := Lib.hid s1
                    have S2 := Lib.hid s2
                    have P3 := Lib.hid P2
                    clear P1 P2 s1 s2
                    go_wp2_with fail
                    go_quiet (fail)
                    go_wp2
                    go_roundw
                    case measure => simp [intOf]; omega
                    case rel => exact ⟨a, j + 1, _, ha, by omega, rfl, by go_num, rfl, N1, P3.out⟩
                · obtain rfl : n = j := by omega
                  obtain rfl : a = place N ws S n k := PL.out k a hkn ha P1.out P2.out
                  have hx := HX.out k hkn
                  have hy := HY.out k
                  have hle := HLE.out k _ ha
                  have s1' : (wp.drewN q).heap[G]? = some (.cells (rowI n fun i => (shareF N ws S n k i : Int)) 2 (0, 0)) := s1
                  have s2' : (wp.drewN q).heap[G + 1]? = some (.cells (rowI n fun i => restF N ws S n k i) 2 (0, 0)) := s2
                  have hb' : Below w.heap.size w (wp.drewN q) := below_drewN hb q
                  generalize wp.drewN q = wz at *
                  clear s1 s2 hb P1 P2
                  have M1 : Hid ((rowI n fun i => (shareF N ws S n k i : Int)).setIfInBounds (place N ws S n k) (.int .i64 ((shareF N ws S n k (place N ws S n k) : Nat) + 1 : Int)) = rowI n fun i => (shareF N ws S n (k + 1) i : Int)) := Lib.hid (by
                    rw [rowI_set]
                    refine rowI_ext _ _ _ fun i hi => ?_
                    rw [hx i]
                    by_cases e : i = place N ws S n k
                    · subst e; rw [if_pos rfl, if_pos rfl]; omega
                    · rw [if_neg e, if_neg e])
                  have M2 : Hid ((rowI n fun i => restF N ws S n k i).setIfInBounds (place N ws S n k) (.int .i64 (-1)) = rowI n fun i => restF N ws S n (k + 1) i) := Lib.hid (by
                    rw [rowI_set]
                    refine rowI_ext _ _ _ fun i hi => ?_
                    rw [hy i])
                  have c1 := cell_of_row wz G (place N ws S n k) _ _ _ s1'
                  rw [rowI_at _ _ _ ha] at c1
                  have c2 := cell_of_row wz (G + 1) (place N ws S n k) _ _ _ s2'
                  rw [rowI_at _ _ _ ha] at c2
                  have f1 := frozen_of_row wz G (place N ws S n k) _ _ s1'
                  have f2 := frozen_of_row wz (G + 1) (place N ws S n k) _ _ s2'
                  have S1 := Lib.hid s1'
                  have S2 := Lib.hid s2'
                  clear hx hy s1' s2'
                  generalize place N ws S n k = p at *
                  generalize shareF N ws S n k p = sp at *
                  generalize restF N ws S n k p = rp at *
                  go_wp2
                  go_roundw
                  case measure => simp [intOf]; omega
                  case rel =>
                    refine ⟨k + 1, m - 1, Lib.hid (by have := hkm.out; omega), congrArg (Value.int .i64) (by omega), ?_, ?_, (hb'.setCell hS2 _).setCell (show w.heap.size ≤ G + 1 by omega) _⟩
                    · rw [← M1.out]; exact row_keep (row_set S1.out _ _) (show G ≠ G + 1 by omega) _ _
                    · rw [← M2.out]; exact row_set (row_keep S2.out (show G + 1 ≠ G by omega) _ _) _ _
            · obtain rfl : m = 0 := by omega
              obtain rfl : k = lf := by have := hkm.out; omega
              have hl4 : Hid (∀ i, i < n → shareF N ws S n k i ≤ N + 1) := Lib.hid fun i hi => HLE.out k i hi
              clear hkm PL HX HY HLE s2 hm
              by_cases hneg : total < 0
              · have HSG : Hid (sg total = -1) := Lib.hid (by unfold sg; rw [if_pos hneg])
                go_wp2_with fail
                go_loopw [148] (fun i wz => ∃ j : Nat, j ≤ n ∧ i = .int .i64 j ∧ wz.heap[G]? = some (.cells (rowI n fun i => if i < j then - (shareF N ws S n k i : Int) else (shareF N ws S n k i : Int)) 2 (0, 0)) ∧ Below w.heap.size w wz) (fun i _ => n - (intOf i).toNat)
                case atStart => exact ⟨0, by omega, rfl, s1.trans (congrArg (fun z => some (Obj.cells z 2 (0, 0))) (rowI_ext _ _ _ fun i hi => by rw [if_neg (by omega)])), hb⟩
                case round =>
                  obtain ⟨wz, rfl⟩ : ∃ x, x = wr := ⟨_, rfl⟩
                  clear s1 hb
                  obtain ⟨j, hj, rfl, s1, hb⟩ := hrel
                  by_cases hlt4 : j < n
                  · have hjn : (j : Int) < (n : Int) := by omega
                    have c1 := cell_of_row wz G j _ _ _ s1
                    rw [rowI_at _ _ _ hlt4, if_neg (by omega)] at c1
                    have f1 := frozen_of_row wz G j _ _ s1
                    have hle := hl4.out j hlt4
                    have M1 : Hid ((rowI n fun i => if i < j then - (shareF N ws S n k i : Int) else (shareF N ws S n k i : Int)).setIfInBounds j (.int .i64 (- (shareF N ws S n k j : Int))) = rowI n fun i => if i < j + 1 then - (shareF N ws S n k i : Int) else (shareF N ws S n k i : Int)) := Lib.hid (by
                      rw [rowI_set]
                      refine rowI_ext _ _ _ fun i hi => ?_
                      by_cases e : i = j
                      · subst e; rw [if_pos rfl, if_pos (by omega)]
                      · rw [if_neg e]
                        by_cases e2 : i < j
                        · rw [if_pos e2, if_pos (by omega)]
                        · rw [if_neg e2, if_neg (by omega)])
                    have S1 := Lib.hid s1
                    clear s1
                    generalize shareF N ws S n k j = sp at *
                    go_wp2
                    go_roundw
                    case measure => simp [intOf]; omega
                    case rel => exact ⟨j + 1, by omega, by go_num, by rw [← M1.out]; exact row_set S1.out _ _, hb.setCell hS2 _⟩
                  · obtain rfl : n = j := by omega
                    have HR : Hid (wz.heap[G]? = some (.cells (rowI n fun i => sg total * (shareF N ws S n k i : Int)) 2 (0, 0))) := Lib.hid (s1.trans (congrArg (fun z => some (Obj.cells z 2 (0, 0))) (rowI_ext _ _ _ fun i hi => by rw [if_pos hi, HSG.out]; omega)))
                    clear s1
                    go_wp2
                    go_ret2
                    rw [← HLF.out]
                    exact ⟨G, hS2, rfl, HR.out, hb⟩
              · have HR : Hid (wp.heap[G]? = some (.cells (rowI n fun i => sg total * (shareF N ws S n k i : Int)) 2 (0, 0))) := Lib.hid (s1.trans (congrArg (fun z => some (Obj.cells z 2 (0, 0))) (rowI_ext _ _ _ fun i hi => by unfold sg; rw [if_neg hneg]; omega)))
                clear s1
                go_wp2
                go_ret2
                rw [← HLF.out]
                exact ⟨G, hS2, rfl, HR.out, hb⟩
end Go.Proofs.YtjniclalobggpaaDoor
