/-
  The walk of AmountSums.
-/
import Derived.Test.YtjniclalobggpaaDoorSplZ
import Derived.Test.YtjniclalobggpaaDoorSplB
import Derived.Test.YtjniclalobggpaaDoorAmWk
import Derived.Lib.QuietBelow
import Derived.BigQuiet
namespace Go.Proofs.YtjniclalobggpaaDoor
open Go.RowKit
set_option linter.unusedVariables false
theorem share_nought (ws : List Nat) (S L i : Nat) : shareF 0 ws S L (left0 0 ws S L) i = 0 := by
  unfold shareF left0 qq
  rw [Nat.zero_sub, pk_zero]
  simp
theorem sg_neg (total : Int) (s : Nat) (h : total = 0 → s = 0) : sg (-total) * (s : Int) = -(sg total * (s : Int)) := by
  unfold sg
  by_cases e : total = 0
  · rw [h e]; simp
  · by_cases e2 : total < 0
    · rw [if_pos e2, if_neg (by omega)]; omega
    · rw [if_neg e2, if_pos (by omega)]; omega
theorem shares_neg (total : Int) (xs : List Int) : sharesOf (-total) xs = (sharesOf total xs).map (- ·) := by
  unfold sharesOf
  rw [List.map_map]
  refine List.map_congr_left fun i _ => ?_
  rw [Int.natAbs_neg]
  exact sg_neg total _ fun e => by rw [e]; exact share_nought _ _ _ _
theorem fine_neg {total : Int} {xs : List Int} (h : Fine total xs) : Fine (-total) xs := by
  obtain ⟨h1, h2, h3, h4, h5, h6⟩ := h
  exact ⟨h1, h2, h3, h4, by omega, by omega⟩
theorem below_both (total : Int) (N S w s : Nat) (hN : total.natAbs = N) (h1 : N * w < (s + 1) * S) (h2 : 0 < s → (s - 1) * S < N * w) (hS : 0 < S) :
    BelowP (sg total * (s : Int) - 1) S total w ∧ BelowP (-(sg total * (s : Int) + 1)) S (-total) w := by
  unfold BelowP sg
  have eS : ((S : Nat) : Int).natAbs = S := Int.natAbs_natCast S
  have ew : ((w : Nat) : Int).natAbs = w := Int.natAbs_natCast w
  have en : (-total).natAbs = N := by rw [Int.natAbs_neg]; exact hN
  rw [hN, eS, ew, en]
  by_cases ht : total < 0
  · rw [if_pos ht]
    refine ⟨.inl ⟨by omega, by omega, .inr ?_⟩, ?_⟩
    · rw [show (-1 * (s : Int) - 1).natAbs = s + 1 by omega]; exact h1
    · rcases Nat.eq_zero_or_pos s with e | e
      · subst e; exact .inl ⟨by omega, by omega, .inl (by omega)⟩
      · refine .inr ⟨by omega, by omega, ?_⟩
        rw [show (-(-1 * (s : Int) + 1)).natAbs = s - 1 by omega]; exact h2 e
  · rw [if_neg ht]
    refine ⟨?_, .inl ⟨by omega, by omega, .inr ?_⟩⟩
    · rcases Nat.eq_zero_or_pos s with e | e
      · subst e; exact .inl ⟨by omega, by omega, .inl (by omega)⟩
      · refine .inr ⟨by omega, by omega, ?_⟩
        rw [show (1 * (s : Int) - 1).natAbs = s - 1 by omega]; exact h2 e
    · rw [show (-(1 * (s : Int) + 1)).natAbs = s + 1 by omega]; exact h1
theorem Split_fine (total : Int) (A : Option Addr) (n c : Nat) (w : World) (xs : List Int) (h : RdI w A n xs) (hF : Fine total xs) :
    Calls Tryd.prog 16 #[.int .i64 total, .slice A n c] w fun e w' => (∃ A', e = .returned (.tuple #[.slice A' n n, .int .i64 0]) ∧ RdI w' A' n (sharesOf total xs)) ∧ Below w.heap.size w w' := by
  have hn := h.len
  have hl := sharesOf_len total xs
  refine (Split_any total A n c w xs h).mono ?_
  rintro e w' ⟨⟨v, he, hv⟩, hb⟩
  obtain ⟨A', rfl, hr, _⟩ := hv.form
  have e1 : splitErr total xs = 0 := by unfold splitErr; rw [if_neg (by have := hF.1; have := hF.2.1; omega), if_pos hF]
  have e2 : splitAns total xs = sharesOf total xs := by unfold splitAns; rw [if_pos hF]
  rw [e2, hl, hn] at hr
  rw [e2, e1, hl, hn] at he
  exact ⟨⟨A', he, hr⟩, hb⟩
theorem Split_not (total : Int) (A : Option Addr) (n c : Nat) (w : World) (xs : List Int) (h : RdI w A n xs) (hF : ¬ Fine total xs) :
    Calls Tryd.prog 16 #[.int .i64 total, .slice A n c] w fun e w' => (∃ A' er, e = .returned (.tuple #[.slice A' 0 0, .int .i64 er]) ∧ 1 < er) ∧ Below w.heap.size w w' := by
  refine (Split_any total A n c w xs h).mono ?_
  rintro e w' ⟨⟨v, he, hv⟩, hb⟩
  have e2 : splitAns total xs = [] := by unfold splitAns; rw [if_neg hF]
  rw [e2] at hv
  obtain ⟨A', rfl, _⟩ := hv.form
  refine ⟨⟨A', _, he, ?_⟩, hb⟩
  unfold splitErr
  split
  · omega
  · first | omega | (rw [if_neg hF]; omega)
set_option maxRecDepth 100000 in
set_option maxHeartbeats 4000000 in
theorem AmountSums_walk (total : Int) (A : Option Addr) (n c : Nat) (w : World) (ht : Tabs w) (t0 : -9223372036854775808 ≤ total) (t1 : total ≤ 9223372036854775807) (xs : List Int) (h : RdI w A n xs) (hn : n ≤ c) (hc : c * 8 ≤ 140737488351232) :
    Calls Tryd.prog 6 #[.int .i64 total, .slice A n c] w fun e w' => e = .returned (.bool true) ∧ Below w.heap.size w w' := by
  have W := Lib.hid (wakes_any w ht)
  have OW := Lib.hid fun w h => ownI_any A n c w xs h (by omega)
  have HR := Lib.hid h
  have hl := h.len
  clear ht h
  by_cases hF : Fine total xs
  case neg =>
    have SP := Lib.hid fun A n c w (h : RdI w A n xs) => Split_not total A n c w xs h hF
    clear hF hl
    go_enter Tryd.func6, Tryd.ntmps6
    go_wp2_with fail
    refine W.out.mono ?_
    rintro e w1 ⟨rfl, hb1⟩
    go_wp2_with fail
    refine (OW.out _ (HR.out.below hb1)).mono ?_
    rintro e w2 ⟨v, rfl, hv, hb2⟩
    obtain ⟨A2, m2, c2, rfl, hm2, hmc2, _, hr2, _⟩ := hv.form
    have hb02 := hb1.trans (hb2.mono hb1.size)
    clear hv hb2
    go_wp2_with fail
    refine (SP.out _ _ _ _ hr2).mono ?_
    rintro e w3 ⟨⟨A3, er, rfl, her⟩, hb3⟩
    have ht : (er != 0) = true := by rw [bne_iff_ne]; omega
    go_wp2
    go_ret
    exact ⟨rfl, hb02.trans (hb3.mono hb02.size)⟩
  case pos =>
    have SP := Lib.hid fun A n c w (h : RdI w A n xs) => Split_fine total A n c w xs h hF
    have SN := Lib.hid fun A n c w (h : RdI w A n xs) => Split_fine (-total) A n c w xs h (fine_neg hF)
    obtain ⟨f1, f2, f3, f4, f5, f6⟩ := hF
    obtain ⟨S, hS⟩ : ∃ S, S = wsum (natW xs) xs.length := ⟨_, rfl⟩
    obtain ⟨N, hN⟩ : ∃ N, N = total.natAbs := ⟨_, rfl⟩
    have hwt : ∀ j (hj : j < xs.length), xs[j] = (wAt (natW xs) j : Int) ∧ wAt (natW xs) j ≤ 1000000000 := fun j hj => natW_at xs j hj (f3 j hj)
    have hS3 : S ≤ 1024000000000 := by
      have h := sumTo_le (wAt (natW xs)) 1000000000 xs.length fun i hi => (hwt i hi).2
      rw [hS]; unfold wsum; omega
    have hN2 : N ≤ 1000000000000000 := by omega
    obtain ⟨s, hs⟩ : ∃ s : Nat → Nat, s = fun i => shareF total.natAbs (natW xs) (wsum (natW xs) xs.length) xs.length (left0 total.natAbs (natW xs) (wsum (natW xs) xs.length) xs.length) i := ⟨_, rfl⟩
    have hsum : sumTo s xs.length = N := by rw [hs, hN]; exact share_sum _ _ _ _ rfl f4
    have hnear : ∀ i, i < xs.length → BelowP (sg total * (s i : Int) - 1) S total (wAt (natW xs) i) ∧ BelowP (-(sg total * (s i : Int) + 1)) S (-total) (wAt (natW xs) i) := fun i hi => by
      have h := share_near total.natAbs (natW xs) (wsum (natW xs) xs.length) xs.length rfl f4 i
      have e : s i = shareF total.natAbs (natW xs) (wsum (natW xs) xs.length) xs.length (left0 total.natAbs (natW xs) (wsum (natW xs) xs.length) xs.length) i := by rw [hs]
      rw [← e, ← hS, ← hN] at h
      exact below_both total N S (wAt (natW xs) i) (s i) hN.symm h.1 h.2 (by omega)
    have hsh : ∀ j (hj : j < (sharesOf total xs).length), (sharesOf total xs)[j] = sg total * (s j : Int) := fun j hj => by simp [sharesOf, hs]
    have hsm : ∀ j, j ≤ xs.length → sumTo s j ≤ N := fun j hj => by rw [← hsum]; exact sumTo_mono s _ j hj
    rw [shares_neg] at SN
    have hsl := sharesOf_len total xs
    have HW : Hid (∀ j (hj : j < n), ∃ h : j < xs.length, xs[j] = (wAt (natW xs) j : Int)) := Lib.hid fun j hj => ⟨by omega, (hwt j (by omega)).1⟩
    have HWL : Hid (∀ j, j < n → wAt (natW xs) j ≤ 1000000000 ∧ wsum (natW xs) j + wAt (natW xs) j ≤ S) := Lib.hid fun j hj => by
      have h := sumTo_mono (wAt (natW xs)) xs.length (j + 1) (by omega)
      rw [sumTo] at h
      unfold wsum at hS
      exact ⟨(hwt j (by omega)).2, by unfold wsum; omega⟩
    have HSN : Hid (wsum (natW xs) n = S) := Lib.hid (by rw [hS, hl])
    have HSUM : Hid (sumTo s n = N) := Lib.hid (by rw [← hl]; exact hsum)
    have HSJ : Hid (∀ j, j < n → sumTo s j + s j ≤ N) := Lib.hid fun j hj => hsm (j + 1) (by omega)
    have HB : Hid (∀ j, j < n → BelowP (sg total * (s j : Int) - 1) S total (wAt (natW xs) j) ∧ BelowP (-(sg total * (s j : Int) + 1)) S (-total) (wAt (natW xs) j)) := Lib.hid fun j hj => hnear j (by omega)
    have HX : Hid (∀ W b o j, RdI W (some ⟨b, o, none⟩) n (sharesOf total xs) → j < n → W.cell? ⟨b, o + j, none⟩ = some (.int .i64 (sg total * (s j : Int)))) := Lib.hid fun W b o j h hj => by rw [h.cells j (by omega), hsh j (by omega)]
    have HY : Hid (∀ W b o j, RdI W (some ⟨b, o, none⟩) n ((sharesOf total xs).map (- ·)) → j < n → W.cell? ⟨b, o + j, none⟩ = some (.int .i64 (-(sg total * (s j : Int))))) := Lib.hid fun W b o j h hj => by rw [h.cells j (by simp; omega), List.getElem_map, hsh j (by omega)]
    have HSG : Hid (sg total = 1 ∨ sg total = -1) := Lib.hid (by unfold sg; split <;> simp)
    have HT : Hid (sg total * (N : Int) = total) := Lib.hid (by rw [hN]; unfold sg; split <;> omega)
    have hn1 : n ≤ 1024 := by omega
    clear hs hsum hnear hsh hsm hwt hsl f1 f2 f3 f4 hS hN hl
    have mixed : Tryd.prog.follows .mixedOrders = true := by kernel_rfl
    generalize sharesOf total xs = zs at *
    go_enter Tryd.func6, Tryd.ntmps6
    go_wp2_with fail
    refine W.out.mono ?_
    rintro e w1 ⟨rfl, hb1⟩
    go_wp2_with fail
    refine (OW.out _ (HR.out.below hb1)).mono ?_
    rintro e w2 ⟨v, rfl, hv, hb2⟩
    obtain ⟨A2, m2, c2, rfl, hm2, hmc2, _, hr2, _⟩ := hv.form
    obtain rfl : n = m2 := HR.out.len.symm.trans hm2.out
    have hb02 := hb1.trans (hb2.mono hb1.size)
    clear hv hb2 hm2
    go_wp2_with fail
    refine (SP.out _ _ _ _ hr2).mono ?_
    rintro e w3 ⟨⟨A3, rfl, hx⟩, hb3⟩
    have hb03 := hb02.trans (hb3.mono hb02.size)
    clear hb3 hr2 hb02
    go_wp2_with fail
    refine (OW.out _ (HR.out.below hb03)).mono ?_
    rintro e w4 ⟨v, rfl, hv, hb4⟩
    obtain ⟨A4, m4, c4, rfl, hm4, hmc4, _, hr4, _⟩ := hv.form
    obtain rfl : n = m4 := HR.out.len.symm.trans hm4.out
    have hb04 := hb03.trans (hb4.mono hb03.size)
    have hx4 := hx.below hb4
    clear hv hb4 hx hb03 hm4
    go_wp2_with fail
    refine (SN.out _ _ _ _ hr4).mono ?_
    rintro e w5 ⟨⟨A5, rfl, hy⟩, hb5⟩
    have hb05 := hb04.trans (hb5.mono hb04.size)
    have hx5 := hx4.below hb5
    have HX5 := Lib.hid hx5
    have HY5 := Lib.hid hy
    have HR5 := Lib.hid (HR.out.below hb05)
    clear hb5 hr4 hx4 hb04 hx5 hy W OW SP SN hb1
    go_wp2_with fail
    go_loopw [9, 55] (fun a i wr => ∃ j : Nat, j ≤ n ∧ a = .int .i64 (wsum (natW xs) j : Nat) ∧ i = .int .i64 j ∧ w5 = wr) (fun _ i _ => n - (intOf i).toNat)
    case atStart => exact ⟨0, by omega, rfl, rfl, rfl⟩
    case round =>
      obtain ⟨j, hj, rfl, rfl, rfl⟩ := hrel
      by_cases hlt : j < n
      · obtain ⟨b, off, rfl⟩ := HR5.out.addr (by omega)
        obtain ⟨hjx, hxj⟩ := HW.out j hlt
        have hcj := HR5.out.cells j hjx
        rw [hxj] at hcj
        have hji : (j : Int) < (n : Int) := by omega
        obtain ⟨hw1, hw2⟩ := HWL.out j hlt
        have Q3 : Hid (wsum (natW xs) (j + 1) = wsum (natW xs) j + wAt (natW xs) j) := Lib.hid rfl
        clear hxj
        generalize wAt (natW xs) j = wj at *
        generalize wsum (natW xs) j = sj at *
        go_wp2
        go_roundw
        case measure => simp [intOf]; omega
        case rel => exact ⟨j + 1, by omega, congrArg (Value.int .i64) (by rw [Q3.out]; omega), by go_num, by simp⟩
      · obtain rfl : n = j := by omega
        rw [HSN.out]
        go_wp2_with fail
        go_loopw [10, 67] (fun a i wr => ∃ j : Nat, j ≤ n ∧ a = .int .i64 (sg total * (sumTo s j : Nat)) ∧ i = .int .i64 j ∧ Below w5.heap.size w5 wr) (fun _ i _ => n - (intOf i).toNat)
        case atStart => exact ⟨0, by omega, by simp [sumTo], rfl, Below.refl _ _⟩
        case round =>
          obtain ⟨j, hj, rfl, rfl, hbr⟩ := hrel
          by_cases hlt2 : j < n
          · obtain ⟨b, off, rfl⟩ := HR5.out.addr (by omega)
            obtain ⟨bx, ox, rfl⟩ := HX5.out.addr (by omega)
            obtain ⟨by_, oy, rfl⟩ := HY5.out.addr (by omega)
            obtain ⟨hjx, hxj⟩ := HW.out j hlt2
            have cw := cell_later hbr (HR5.out.cells j hjx)
            rw [hxj] at cw
            have cx := cell_later hbr (HX.out _ _ _ j HX5.out hlt2)
            have cy := cell_later hbr (HY.out _ _ _ j HY5.out hlt2)
            have hji : (j : Int) < (n : Int) := by omega
            obtain ⟨hw1, hw2⟩ := HWL.out j hlt2
            obtain ⟨p1, p2⟩ := HB.out j hlt2
            have hsj := HSJ.out j hlt2
            have Q3 : Hid (sg total * (sumTo s (j + 1) : Nat) = sg total * (sumTo s j : Nat) + sg total * (s j : Nat)) := Lib.hid (by
              show sg total * ((sumTo s j + s j : Nat) : Int) = _
              rw [Int.natCast_add, Int.mul_add])
            have bX : -1000000000000000 ≤ sg total * (s j : Int) ∧ sg total * (s j : Int) ≤ 1000000000000000 := by
              rcases HSG.out with e | e <;> rw [e] <;> omega
            have bS : -1000000000000000 ≤ sg total * (sumTo s j : Nat) ∧ sg total * (sumTo s j : Nat) ≤ 1000000000000000 := by
              rcases HSG.out with e | e <;> rw [e] <;> omega
            have bT : -1000000000000000 ≤ sg total * (sumTo s j : Nat) + sg total * (s j : Int) ∧ sg total * (sumTo s j : Nat) + sg total * (s j : Int) ≤ 1000000000000000 := by
              rcases HSG.out with e | e <;> rw [e] <;> omega
            have B1 := Lib.hid fun w => below_any (sg total * (s j : Int) - 1) S total (wAt (natW xs) j) w (by omega) (by omega) (by omega) (by omega) (by omega) (by omega) (by omega) (by omega) p1
            have B2 := Lib.hid fun w => below_any (-(sg total * (s j : Int) + 1)) S (-total) (wAt (natW xs) j) w (by omega) (by omega) (by omega) (by omega) (by omega) (by omega) (by omega) (by omega) p2
            clear hxj p1 p2 hsj hw2
            generalize sg total * (s j : Int) = X at *
            generalize sg total * (sumTo s j : Nat) = SJ at *
            generalize wAt (natW xs) j = wj at *
            have hne : (-X != -X) = false := by simp
            obtain ⟨bX1, bX2⟩ := bX
            obtain ⟨bS1, bS2⟩ := bS
            obtain ⟨bT1, bT2⟩ := bT
            go_wp2_with fail
            go_quiet (fail)
            go_wp2_with fail
            have cw' : (wr.drewN nq).cell? ⟨b, off + j, none⟩ = some (.int .i64 (wj : Int)) := cw
            have cx' : (wr.drewN nq).cell? ⟨bx, ox + j, none⟩ = some (.int .i64 X) := cx
            have cy' : (wr.drewN nq).cell? ⟨by_, oy + j, none⟩ = some (.int .i64 (-X)) := cy
            have hbq : Below w5.heap.size w5 (wr.drewN nq) := below_drewN hbr _
            generalize wr.drewN nq = wq at *
            have X0 : ∀ d os, (Go.Sort.grow (redrawn wq d) os).cell? ⟨b, off + j, none⟩ = some (.int .i64 (wj : Int)) := fun d os => cell_regrown cw' d os
            have X1 : ∀ d os, (Go.Sort.grow (redrawn wq d) os).cell? ⟨bx, ox + j, none⟩ = some (.int .i64 X) := fun d os => cell_regrown cx' d os
            have X2 : ∀ d os, (Go.Sort.grow (redrawn wq d) os).cell? ⟨by_, oy + j, none⟩ = some (.int .i64 (-X)) := fun d os => cell_regrown cy' d os
            have CQ1 := fun d os => Calls.regrown_of (B1.out (Go.Sort.grow (redrawn wq d) os))
            have CQ2 := fun d os => Calls.regrown_of (B2.out (Go.Sort.grow (redrawn wq d) os))
            clear B1 B2 cw cx cy hbr cw' cx' cy'
            refine wp_region_quiet_below mixed (by kernel_rfl) ?_
            repeat (go_big_quiet_step (first | with_reducible exact CQ1 _ _ | with_reducible exact CQ2 _ _))
            refine wpQuiet_nil ?_
            intro _ hw9
            obtain ⟨⟨dq, osq⟩, hw8⟩ := hw9
            subst hw8
            have hb6 := below_regrown wq dq osq
            obtain ⟨w6, hw6⟩ : ∃ w6, w6 = Go.Sort.grow (redrawn wq dq) osq := ⟨_, rfl⟩
            rw [← hw6] at hb6 ⊢
            clear hw6 CQ1 CQ2 X0 X1 X2
            go_wp2
            go_roundw
            case measure => simp [intOf]; omega
            case rel => exact ⟨j + 1, by omega, congrArg (Value.int .i64) Q3.out.symm, by go_num, hbq.trans (hb6.mono hbq.size)⟩
          · obtain rfl : n = j := by omega
            rw [HSUM.out, HT.out]
            have hte : (total == total) = true := by simp
            go_wp2
            go_ret
            exact ⟨by simp, hb05.trans (hbr.mono hb05.size)⟩
end Go.Proofs.YtjniclalobggpaaDoor
