/-
  The walk of Lines.
-/
import Derived.Test.YtpmbbhefcejjlaaLedW3
import Derived.Test.YtpmbbhefcejjlaaLedP2
import Derived.Test.YtpmbbhefcejjlaaStruct
namespace Go.Proofs.Ytpmbbhefcejjlaa
open Go.RowKit
set_option linter.unusedVariables false

theorem built_step {S T : Array Value} (h : Try.prog.built 64 [(0, .agg S), (1, .agg T)] = some (S ++ T)) (a : Act) (x y : Operand) (hx : a.eval x = .agg S) (hy : a.eval y = .agg T) : Try.prog.built 64 ((#[(0, x), (1, y)] : Array (Nat × Operand)).map fun (i, x) => (i, a.eval x)).toList = some (S ++ T) := by
  rw [← h]
  simp [hx, hy]
theorem st_one (s : St) : (stCells s).all (·.oneCell') = true := by simp [stCells, Value.oneCell']
theorem st_info (s : St) : (Try.prog.info? 23).map (·.size) = some (stCells s).size := by
  rw [show (stCells s).size = 12 from rfl]; kernel_rfl
theorem st_zero (s : St) : ((Try.prog.info? 23).bind (·.zero)).map (·.cells.size) = some (stCells s).size := by
  rw [show (stCells s).size = 12 from rfl]; kernel_rfl
theorem two_size (s t : St) : (stCells s ++ stCells t).size = 24 := rfl
theorem two_info (s t : St) : (Try.prog.info? 64).map (·.size) = some (stCells s ++ stCells t).size := by
  rw [two_size]; kernel_rfl
theorem two_zero (s t : St) : ((Try.prog.info? 64).bind (·.zero)).map (·.cells.size) = some (stCells s ++ stCells t).size := by
  rw [two_size]; kernel_rfl
theorem two_one (s t : St) : (stCells s ++ stCells t).all (·.oneCell') = true := by simp [stCells, Value.oneCell']
theorem two_built (s t : St) : Try.prog.built 64 [(0, .agg (stCells s)), (1, .agg (stCells t))] = some (stCells s ++ stCells t) := built_two s t
/-- The state at an index of the two. -/
theorem pick_two (s t : St) (Q : St → Prop) (k : Nat) (hk : k < 2) (h0 : 0 < k → Q s) : ∃ x : St, (∀ W, (Instr.index 64 (.agg (stCells s ++ stCells t)) (.int .i64 (k : Int))).run Try.prog W = .ok (.agg (stCells x)) W) ∧ (Q x → (0 < k + 1 → Q s) ∧ (1 < k + 1 → Q t)) ∧ (¬ Q x → ¬ (Q s ∧ Q t)) ∧ (x = s ∨ x = t) := by
  rcases (show k = 0 ∨ k = 1 by omega) with rfl | rfl
  · exact ⟨s, fun W => (index_two s t W).1, fun h => ⟨fun _ => h, fun h => by omega⟩, fun h h2 => h h2.1, .inl rfl⟩
  · exact ⟨t, fun W => (index_two s t W).2, fun h => ⟨fun _ => h0 (by omega), fun _ => h⟩, fun h h2 => h h2.2, .inr rfl⟩
set_option maxRecDepth 100000 in
set_option maxHeartbeats 8000000 in
theorem Lines_any (s t : St) (w : World) :
    Calls Try.prog 10 #[s.val, t.val] w (Says w (linesAt s t)) := by
  have A := Lib.hid amounts_any
  have HP := Lib.hid (pick_two s t Within)
  have HE2 := Lib.hid (pick_two s t Even)
  have HSF := Lib.hid (fun (h : ¬ (Within s ∧ Within t)) => linesAt_far h)
  have HO := Lib.hid (fun (h1 : Within s) (h2 : Within t) (h : ¬ (Even s ∧ Even t)) => linesAt_odd h1 h2 h)
  have HK := Lib.hid (fun (h1 : Within s) (h2 : Within t) (h3 : Even s) (h4 : Even t) => linesAt_ok h1 h2 h3 h4)
  have FIN : Hid (∀ (l : List (Int × Int)) (e : Int) (w' : World), linesAt s t = (l, e) → ∀ v, OwnL w' w.heap.size v l → Below w.heap.size w w' → Says w (linesAt s t) (.returned (.tuple #[v, .int .i64 e])) w') := Lib.hid fun l e w' h v hv hb => by
    rw [h]; exact ⟨v, rfl, hv, hb⟩
  have hbu := two_built s t
  have hiT2 := two_info s t
  have hzT2 := two_zero s t
  have h1T2 := two_one s t
  have hiS := st_info s
  have hiT := st_info t
  rw [show s.val = .agg (stCells s) from rfl, show t.val = .agg (stCells t) from rfl]
  generalize hS : stCells s = S at *
  generalize hT : stCells t = T at *
  have HS := Lib.hid hS
  have HT := Lib.hid hT
  clear hS hT
  obtain ⟨w1, hw1⟩ : ∃ w1, w1 = (w.alloc (.cells S 23)).alloc (.cells T 23) := ⟨_, rfl⟩
  have hz1 : w1.heap.size = w.heap.size + 2 := by rw [hw1]; simp
  have hb1 : Below w.heap.size w w1 := by rw [hw1]; exact ((Below.refl _ _).alloc (Nat.le_refl _) _).alloc (by simp) _
  have hS1 : w1.heap[w.heap.size]? = some (.cells S 23 (0, 0)) := by rw [hw1]; exact heap_alloc_old (heap_alloc_new _ _)
  have hT1 : w1.heap[w.heap.size + 1]? = some (.cells T 23 (0, 0)) := by rw [hw1, ← World.size_alloc w]; exact heap_alloc_new _ _
  go_enter Try.func10, Try.ntmps10
  go_upto_region 1 with (fail)
  rw [← hw1]
  clear hw1
  go_step
  refine wpList_load_row rfl 23 _ rfl _ rfl _ _ _ _ hS1 Try.underlying23 rfl hiS ?_
  refine wpList_load_row rfl 23 _ rfl _ rfl _ _ _ _ hT1 Try.underlying23 rfl hiT ?_
  refine wpList_buildTo rfl 64 _ rfl _ rfl _ (built_step hbu _ _ _ rfl rfl) ?_
  refine alloc_store rfl rfl 64 _ _ rfl rfl rfl rfl (S ++ T) rfl rfl hzT2 hiT2 h1T2 ?_
  obtain ⟨w2, hw2⟩ : ∃ w2, w2 = w1.alloc (.cells (S ++ T) 64) := ⟨_, rfl⟩
  have hz2 : w2.heap.size = w.heap.size + 3 := by rw [hw2]; simp [hz1]
  have hb2 : Below w.heap.size w w2 := by rw [hw2]; exact hb1.alloc (by omega) _
  have hS2 : w2.heap[w.heap.size]? = some (.cells S 23 (0, 0)) := by rw [hw2]; exact heap_alloc_old hS1
  have hT2 : w2.heap[w.heap.size + 1]? = some (.cells T 23 (0, 0)) := by rw [hw2]; exact heap_alloc_old hT1
  have hP2 : w2.heap[w1.heap.size]? = some (.cells (S ++ T) 64 (0, 0)) := by rw [hw2]; exact heap_alloc_new _ _
  rw [← hw2]
  clear hw2 hS1 hT1 hbu hzT2 h1T2
  generalize S ++ T = B at *
  go_wp2_with (refine wpList_load_row rfl 64 _ rfl _ rfl _ _ _ _ hP2 Try.underlying64 rfl hiT2 ?_)
  go_loopw [24] (fun i wr => ∃ k : Nat, k ≤ 2 ∧ i = .int .i64 k ∧ Hid (0 < k → Within s) ∧ Hid (1 < k → Within t) ∧ Below w2.heap.size w2 wr) (fun i _ => 2 - (intOf i).toNat)
  case atStart => exact ⟨0, by omega, rfl, Lib.hid (fun h => by omega), Lib.hid (fun h => by omega), Below.refl _ _⟩
  case round =>
    obtain ⟨k, hk, rfl, hk0, hk1, hb⟩ := hrel
    by_cases hlk : k < 2
    · obtain ⟨x, hix, hyes, hno, _⟩ := HP.out k hlk hk0.out
      have HY := Lib.hid hyes
      have HN := Lib.hid hno
      have hix1 := hix wr
      have HX1 := Lib.hid hix1
      have hone := st_one x
      have hinf := st_info x
      have hzer := st_zero x
      clear hyes hno hix hix1
      have HE : Hid (eightCells x = #[.int .i64 x.p, .int .i64 x.i, .int .i64 x.f, .int .i64 x.c, .int .i64 x.o, .int .i64 x.n, .int .i64 x.a, .int .i64 x.ch]) := Lib.hid rfl
      have HC := Lib.hid (eight_cell x)
      have HW := Lib.hid (within_of x)
      have HF := Lib.hid (not_within x)
      obtain ⟨wx, hwx⟩ : ∃ wx, wx = wr.alloc (.cells (stCells x) 23) := ⟨_, rfl⟩
      have hgz := hb.size
      have hbx : Below w2.heap.size w2 wx := by rw [hwx]; exact hb.alloc hgz _
      have hzx : wx.heap.size = wr.heap.size + 1 := by rw [hwx]; simp
      obtain ⟨x0, x1, x2, x3, x4, x5, x6, x7, x8, x9, x10, x11⟩ := st_cells x (w := wx) (g := wr.heap.size) (t := 23) (by rw [hwx]; exact heap_alloc_new _ _)
      clear x0 x1 x10 x11
      go_upto_region 4 with (fail)
      go_step
      refine index_to rfl _ rfl 64 _ _ rfl _ _ _ rfl rfl HX1.out ?_
      refine alloc_store rfl rfl 23 _ _ rfl rfl rfl rfl (stCells x) rfl rfl hzer hinf hone ?_
      rw [← hwx]
      clear hwx HX1 hone hinf hzer
      go_wp2
      have HB := Lib.hid hbx
      go_loopw [45] (fun i wc => ∃ j : Nat, j ≤ 8 ∧ i = .int .i64 j ∧ Hid (∀ m, m < j → fits ((eight x).getD m 0)) ∧ wc.heap[wr.heap.size + 1]? = some (.cells (eightCells x) 2 (0, 0)) ∧ Below w2.heap.size w2 wc) (fun i _ => 8 - (intOf i).toNat)
      case atStart => exact ⟨0, by omega, rfl, Lib.hid (fun m h => by omega), by rw [HE.out, ← hzx]; exact heap_alloc_new _ _, HB.out.alloc (by omega) _⟩
      case round =>
        obtain ⟨j, hj, rfl, hok2, hh, hb3⟩ := hrel
        have HH := Lib.hid hh
        clear hh x2 x3 x4 x5 x6 x7 x8 x9
        by_cases hlt : j < 8
        · have hcell := (cell_of_row _ _ _ _ _ _ HH.out).trans (HC.out j hlt)
          have hno := Lib.hid (HF.out j hlt)
          have hyes : Hid (fits ((eight x).getD j 0) → ∀ m, m < j + 1 → fits ((eight x).getD m 0)) := Lib.hid fun h m hm => by
            rcases Nat.lt_or_ge m j with h1 | h1
            · exact hok2.out m h1
            · obtain rfl : m = j := by omega
              exact h
          generalize (eight x).getD j 0 = z at hcell hno hyes
          by_cases hf : fits z
          · have hyes1 := Lib.hid (hyes.out hf)
            obtain ⟨f0, f1⟩ := hf
            go_wp2
            go_roundw
            case rel => exact ⟨j + 1, by omega, by go_num, hyes1, HH.out, hb3⟩
            case measure => simp [intOf]; omega
          · have hr := FIN.out _ _ wr (HSF.out (HN.out (hno.out hf))) _ (OwnL.nil _ _) (hb2.trans (hb3.mono hb2.size))
            rcases (show z < -4000000000000000 ∨ 4000000000000000 < z by unfold fits at hf; omega) with h1 | h1
            all_goals
              go_wp2
              go_ret2
              exact hr
        · have hdone := HY.out (HW.out fun m hm => hok2.out m (by omega))
          have hd0 := Lib.hid hdone.1
          have hd1 := Lib.hid hdone.2
          clear hdone
          go_wp2
          go_roundw
          case rel => exact ⟨k + 1, by omega, by go_num, hd0, hd1, hb3⟩
          case measure => simp [intOf]; omega
    · obtain rfl : k = 2 := by omega
      have HWS := Lib.hid (hk0.out (by omega))
      have HWT := Lib.hid (hk1.out (by omega))
      clear hk0 hk1 HP
      obtain ⟨w3, rfl⟩ : ∃ x, x = wr := ⟨_, rfl⟩
      have hz3 := hb.size
      have hb3 : Below w.heap.size w w3 := hb2.trans (hb.mono hb2.size)
      have hS3 := (hb.block w.heap.size (by omega)).trans hS2
      have hT3 := (hb.block (w.heap.size + 1) (by omega)).trans hT2
      have hP3 := (hb.block w1.heap.size (by omega)).trans hP2
      rw [hz1] at hP3
      clear hS2 hT2 hP2
      go_wp2_with (refine wpList_load_row rfl 64 _ rfl _ rfl _ _ _ _ hP3 Try.underlying64 rfl hiT2 ?_)
      go_loopw [58] (fun i wr => ∃ k : Nat, k ≤ 2 ∧ i = .int .i64 k ∧ Hid (0 < k → Even s) ∧ Hid (1 < k → Even t) ∧ Below w3.heap.size w3 wr) (fun i _ => 2 - (intOf i).toNat)
      case atStart => exact ⟨0, by omega, rfl, Lib.hid (fun h => by omega), Lib.hid (fun h => by omega), Below.refl _ _⟩
      case round =>
        obtain ⟨k, hk, rfl, hk0, hk1, hb⟩ := hrel
        by_cases hlk : k < 2
        · obtain ⟨x, hix, hyes, hno, hor⟩ := HE2.out k hlk hk0.out
          have hwx : Within x := by
            rcases hor with rfl | rfl
            · exact HWS.out
            · exact HWT.out
          have HWX := Lib.hid hwx
          have HY := Lib.hid hyes
          have HN := Lib.hid hno
          have hix1 := hix wr
          have HX1 := Lib.hid hix1
          have hone := st_one x
          have hinf := st_info x
          have hzer := st_zero x
          clear hyes hno hix hix1 hor hwx
          have HPS := Lib.hid (psum_step x)
          have HPF := Lib.hid (fun j h => psum_fits HWX.out j h)
          have HAF := Lib.hid (fun j h => amt_fits HWX.out j h)
          have HPE := Lib.hid (psum_even x)
          have HI7 := Lib.hid (index_seven (amts x) rfl)
          obtain ⟨wx, hwx⟩ : ∃ wx, wx = wr.alloc (.cells (stCells x) 23) := ⟨_, rfl⟩
          have hgz := hb.size
          have hbx : Below w3.heap.size w3 wx := by rw [hwx]; exact hb.alloc hgz _
          have hzx : wx.heap.size = wr.heap.size + 1 := by rw [hwx]; simp
          have hX : wx.heap[wr.heap.size]? = some (.cells (stCells x) 23 (0, 0)) := by rw [hwx]; exact heap_alloc_new _ _
          go_upto_region 14 with (fail)
          go_step
          refine index_to rfl _ rfl 64 _ _ rfl _ _ _ rfl rfl HX1.out ?_
          refine alloc_store rfl rfl 23 _ _ rfl rfl rfl rfl (stCells x) rfl rfl hzer hinf hone ?_
          rw [← hwx]
          clear hwx HX1 hone hzer
          go_wp2_with (refine wpList_load_row rfl 23 _ rfl _ rfl _ _ _ _ hX Try.underlying23 rfl hinf ?_)
          refine (A.out x _ HWX.out).mono ?_
          rintro e wa ⟨rfl, hba⟩
          have hb4 := hbx.trans (hba.mono hbx.size)
          have HB := Lib.hid hb4
          clear hX hinf hba hbx
          generalize hV : ((amts x).map fun x => Value.int .i64 x).toArray = V at *
          have HV := Lib.hid hV
          clear hV
          go_wp2
          go_loopw [13, 63] (fun z i wc => ∃ j : Nat, j ≤ 7 ∧ i = .int .i64 j ∧ z = .int .i64 (psum x j) ∧ Below w3.heap.size w3 wc) (fun _ i _ => 7 - (intOf i).toNat)
          case atStart => exact ⟨0, by omega, rfl, rfl, HB.out⟩
          case round =>
            obtain ⟨j, hj, rfl, rfl, hb5⟩ := hrel
            by_cases hlt : j < 7
            · have hst := Lib.hid (HPS.out j hlt)
              obtain ⟨f0, f1⟩ := HPF.out j (by omega)
              obtain ⟨g0, g1⟩ := HAF.out j hlt
              have hi7 := Lib.hid (HI7.out j hlt wr)
              generalize psum x j = z at *
              generalize (amts x).getD j 0 = y at *
              go_wp2_with (refine index_to rfl _ rfl 66 _ _ rfl _ _ _ rfl rfl hi7.out ?_)
              go_roundw
              case rel => exact ⟨j + 1, by omega, by go_num, by rw [hst.out], hb5⟩
              case measure => simp [intOf]; omega
            · obtain rfl : j = 7 := by omega
              have HPE2 := HPE.out
              obtain ⟨f0, f1⟩ := HPF.out 7 (by omega)
              generalize psum x 7 = z at *
              by_cases hz : z = 0
              · have hdone := HY.out (HPE2.1 hz)
                have hd0 := Lib.hid hdone.1
                have hd1 := Lib.hid hdone.2
                subst hz
                clear hdone HPE2
                go_wp2
                go_roundw
                case rel => exact ⟨k + 1, by omega, by go_num, hd0, hd1, hb5⟩
                case measure => simp [intOf]; omega
              · have hr := FIN.out _ _ wr (HO.out HWS.out HWT.out (HN.out (fun h => hz (HPE2.2 h)))) _ (OwnL.nil _ _) (hb3.trans (hb5.mono hb3.size))
                clear HPE2
                go_wp2
                go_ret2
                exact hr
        · obtain rfl : k = 2 := by omega
          have HES := Lib.hid (hk0.out (by omega))
          have HET := Lib.hid (hk1.out (by omega))
          clear hk0 hk1 HE2
          obtain ⟨w4, rfl⟩ : ∃ x, x = wr := ⟨_, rfl⟩
          have hz4 := hb.size
          have hb4 : Below w.heap.size w w4 := hb3.trans (hb.mono hb3.size)
          have hS4 := (hb.block w.heap.size (by omega)).trans hS3
          have hT4 := (hb.block (w.heap.size + 1) (by omega)).trans hT3
          clear hS3 hT3 hP3 hiT2
          have hA := fun W => A.out s W HWS.out
          rw [show s.val = .agg (stCells s) from rfl, HS.out] at hA
          have hB := fun W => A.out t W HWT.out
          rw [show t.val = .agg (stCells t) from rfl, HT.out] at hB
          have HA := Lib.hid hA
          have HB := Lib.hid hB
          have HC := Lib.hid (amt_cell s)
          have hone := amt_one s
          have hzer : ((Try.prog.info? 66).bind (·.zero)).map (·.cells.size) = some (amtCells s).size := by rw [show (amtCells s).size = 7 from rfl]; kernel_rfl
          have hinf : (Try.prog.info? 66).map (·.size) = some (amtCells s).size := by rw [show (amtCells s).size = 7 from rfl]; kernel_rfl
          have HI7 := Lib.hid (index_seven (amts t) rfl)
          have HSK := Lib.hid (upTo_skip s t)
          have HAD := Lib.hid (upTo_add s t)
          have HLE := Lib.hid (upTo_len s t)
          have HAL := Lib.hid (upTo_all s t)
          have HFS := Lib.hid (fun j h => amt_fits HWS.out j h)
          have HFT := Lib.hid (fun j h => amt_fits HWT.out j h)
          clear hA hB
          go_wp2_with (refine wpList_load_row rfl 23 _ rfl _ rfl _ _ _ _ hS4 Try.underlying23 rfl hiS ?_)
          refine (HA.out _).mono ?_
          rintro e w5 ⟨rfl, hb5⟩
          rw [show ((amts s).map fun x => Value.int .i64 x).toArray = amtCells s from rfl]
          have hT5 := (hb5.block (w.heap.size + 1) (by omega)).trans hT4
          have hz5 := hb5.size
          have hb05 : Below w.heap.size w w5 := hb4.trans (hb5.mono hb4.size)
          generalize hM : amtCells s = M at *
          clear hS4 hM
          go_wp2_with (first
            | (refine alloc_store rfl rfl 66 _ _ rfl rfl rfl rfl M rfl rfl hzer hinf hone ?_)
            | (refine wpList_load_row rfl 23 _ rfl _ rfl _ _ _ _ (heap_alloc_old hT5) Try.underlying23 rfl hiT ?_))
          refine (HB.out _).mono ?_
          rintro e w6 ⟨rfl, hb6⟩
          have hM6 := (hb6.block w5.heap.size (by simp)).trans (heap_alloc_new w5 (.cells M 66))
          have hz6 := hb6.size
          rw [World.size_alloc] at hz6
          have hb06 : Below w.heap.size w w6 := (hb05.alloc hb05.size _).trans (hb6.mono (by have := hb05.size; simp; omega))
          clear hT4 hT5 hone hzer hinf hb6 HA HB HS HT hiT
          generalize hV : ((amts t).map fun x => Value.int .i64 x).toArray = V at *
          clear hV
          go_wp2
          go_loopw [17, 77] (fun v i wr => ∃ j : Nat, j ≤ 7 ∧ i = .int .i64 j ∧ OwnL wr w6.heap.size v (upTo s t j) ∧ Below w6.heap.size w6 wr) (fun _ i _ => 7 - (intOf i).toNat)
          case atStart => exact ⟨0, by omega, rfl, OwnL.nil _ _, Below.refl _ _⟩
          case round =>
            obtain ⟨j, hj, rfl, hown, hb⟩ := hrel
            have hsz := hb.size
            by_cases hlt : j < 7
            · have hi7 := Lib.hid (HI7.out j hlt wr)
              have hcell := (cell_of_row _ _ _ _ _ _ ((hb.block w5.heap.size (by omega)).trans hM6)).trans (HC.out j hlt)
              obtain ⟨f0, f1⟩ := HFS.out j hlt
              obtain ⟨g0, g1⟩ := HFT.out j hlt
              have HS1 := Lib.hid (HSK.out j hlt)
              have HA1 := Lib.hid (HAD.out j hlt)
              have HL1 := HLE.out j
              generalize (amts s).getD j 0 = y at *
              generalize (amts t).getD j 0 = z at *
              by_cases hz : z = y
              · have HF2 := Lib.hid (HS1.out hz)
                subst hz
                go_wp2_with (refine index_to rfl _ rfl 66 _ _ rfl _ _ _ rfl rfl hi7.out ?_)
                go_roundw
                case rel => exact ⟨j + 1, by omega, by go_num, by rw [HF2.out]; exact hown, hb⟩
                case measure => simp [intOf]; omega
              · have HF2 := Lib.hid (HA1.out hz)
                have hcell2 : Hid (#[.int .i64 ((j : Int) + 1), .int .i64 (z - y)] = (lcs [((j : Int) + 1, z - y)]).toArray) := Lib.hid rfl
                go_wp2_with (first
                  | (refine index_to rfl _ rfl 66 _ _ rfl _ _ _ rfl rfl hi7.out ?_)
                  | (at_builtin; refine app_line rfl _ _ rfl w6.heap.size _ _ rfl (hown.alloc _) _ 1 1 [((j : Int) + 1, z - y)] rfl (RdL.lit wr _ _ hcell2.out 1 rfl _) ?c1 ?c2 ?_))
                case c1 => omega
                case c2 => exact Nat.le_trans hsz (by simp)
                intro v' wn hv' hbn _
                have hbw : Below w6.heap.size wr wn := ((Below.refl _ _).alloc hsz _).trans hbn
                go_wp2
                go_roundw
                case rel => exact ⟨j + 1, by omega, by go_num, by rw [HF2.out]; exact hv', hb.trans hbw⟩
                case measure => simp [intOf]; omega
            · obtain rfl : j = 7 := by omega
              rw [HAL.out] at hown
              have hown2 := OwnL.lower (base' := w.heap.size) hown hb06.size
              have hr := FIN.out _ _ wr (HK.out HWS.out HWT.out HES.out HET.out) _ hown2 (hb06.trans (hb.mono hb06.size))
              clear hown hown2
              go_wp2
              go_ret2
              exact hr
end Go.Proofs.Ytpmbbhefcejjlaa
