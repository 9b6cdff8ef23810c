/-
  The walk of BlockOwn.
-/
import Derived.Test.YthaciglechijkaaBlkO
namespace Go.Proofs.Ythaciglechijkaa
open Go.RowKit
set_option linter.unusedVariables false

theorem cut_hb (g n c j : Nat) (hj : j ≤ n) (hn : n ≤ c) (W : World) : (Instr.slice 24 (.slice (some ⟨g, 0, none⟩) n c) none (some (.int .i64 (j : Int))) none).run Try.prog W = .ok (.slice (some ⟨g, 0, none⟩) j c) W := by
  rw [run_slice_h W 24 _ n c elemUnd .i64 _ (by omega) (by omega), elemSize]
  simp [Result.andThen, sliced, Addr.add]
theorem rd_pre {w : World} {b off n : Nat} {xs ys : List UInt8} (h : RdB w (some ⟨b, off, none⟩) n (xs ++ ys)) (m : Nat) (hm : xs.length = m) : RdB w (some ⟨b, off, none⟩) m xs := by
  refine RdB.mk hm fun j hj => ?_
  have := h.cells j (by rw [List.length_append]; omega)
  rw [List.getElem_append_left hj] at this
  exact this
set_option maxRecDepth 100000 in
set_option maxHeartbeats 2000000 in
theorem BlockOwn_walk (A : Option Addr) (n c : Nat) (A' : Option Addr) (n' c' : Nat) (w : World) (ps : List PairV) (h : RdQ w A n ps) (hn : n ≤ c) (hl : n ≤ 1048576) (ht : ∀ p ∈ ps, p.key.length ≤ 1048576 ∧ p.val.length ≤ 1048576) (xs : List UInt8) (h' : RdB w A' n' xs) (hn' : n' ≤ c') (hc' : c' ≤ 1048576) :
    Calls Try.prog 6 #[.slice A n c, .slice A' n' c'] w fun e w' => e = .returned (.bool true) ∧ Below w.heap.size w w' := by
  have HX := Lib.hid h
  have HT := Lib.hid ht
  have HY := Lib.hid h'
  have HL : Hid (ps.length = n) := Lib.hid h.len
  have HL' : Hid (xs.length = n') := Lib.hid h'.len
  have WK := Lib.hid (wakes_any w)
  clear h ht h'
  go_enter Try.func6, Try.ntmps6
  go_wp2_with fail
  refine WK.out.mono ?_
  rintro e w1 ⟨rfl, hb1⟩
  have HB1 := Lib.hid hb1
  have HX1 := Lib.hid (HX.out.below hb1)
  clear hb1 WK
  go_wp2_with fail
  refine (Copy_any A n c ps w1 HX1.out (by omega) (fun p hp => by have := HT.out p hp; omega)).mono ?_
  rintro e w2 ⟨v, rs, rfl, hps, hv, hb2⟩
  obtain ⟨Ac, mc, cc, rfl, hmc, hcc, hrc⟩ : ∃ Ac mc cc, v = .slice Ac mc cc ∧ mc = n ∧ mc ≤ cc ∧ RdQ w2 Ac mc ps := by
    obtain ⟨Ac, cc, e1, hcc, hrc, _⟩ := hv.form
    rw [hps] at hrc
    exact ⟨Ac, _, cc, e1, hrc.len.symm.trans HL.out, hcc, hrc⟩
  obtain rfl := hmc.symm
  have HB2 := Lib.hid (HB1.out.trans (hb2.mono HB1.out.size))
  have HC2 := Lib.hid hrc
  clear hv hb2 hrc HX1 hps HB1
  go_wp2_with fail
  refine (own_any A' n' c' w2 xs (HY.out.below HB2.out) (by omega)).mono ?_
  rintro e w3 ⟨v3, rfl, hv3, hb3⟩
  have HB3 := Lib.hid (HB2.out.trans (hb3.mono HB2.out.size))
  have HV3 := Lib.hid hv3
  have HS3 := Lib.hid hb3
  clear hv3 hb3
  go_wp2_with (at_builtin; refine app_u8 rfl _ _ rfl w2.heap.size _ xs rfl (HV3.out.alloc _) _ 1 1 [7] rfl (RdB.lit w3 _ _ rfl 1 rfl) ?c3 ?c4 ?_)
  case c3 => have := HL'.out; omega
  case c4 => exact Nat.le_trans HS3.out.size (by simp)
  intro v4 w4 hv4 hb4 _
  have hb34 : Below w2.heap.size w3 w4 := ((Below.refl _ _).alloc HS3.out.size _).trans hb4
  obtain ⟨A4, m4, c4, rfl, hm4, hmc4, _, hr4, ha4⟩ := hv4.form
  obtain rfl : m4 = n' + 1 := by have h1 := hm4.out; have h2 := HL'.out; simp at h1; omega
  have HB4 := Lib.hid (HB3.out.trans (hb34.mono HB2.out.size))
  have HC4 := Lib.hid (HC2.out.below (HS3.out.trans hb34))
  have HR4 := Lib.hid hr4
  obtain ⟨b4, o4, rfl⟩ := hr4.addr (by omega)
  obtain ⟨g4, e4, hg4, hgs4⟩ := ha4 _ rfl
  injection e4 with e5 e6
  subst e5 e6
  have HP4 := Lib.hid (rd_pre hr4 n' HL'.out)
  have s4 := cut_hb b4 (n' + 1) c4 n' (by omega) hmc4
  have BU := Lib.hid (Build_any Ac n cc ps w4 HC4.out (by omega))
  have RR := Lib.hid (fun W (hW : Below w4.heap.size w4 W) => Read_any (some ⟨b4, 0, none⟩) n' c4 W xs (HP4.out.below hW) (by omega) (by omega))
  have RF := Lib.hid (fun W (hW : Below w.heap.size w W) => rRead_any A' n' c' W xs (HY.out.below hW) (by omega) hn')
  have DL : Hid ((readOf xs).1.length ≤ 4096) := Lib.hid (by
    unfold readOf
    split
    · exact (read_facts xs).1
    · exact Nat.zero_le _)
  clear hv4 hb4 hb34 hr4 ha4 hm4 HV3 HS3 HC2 HB3 HB2 hg4 hgs4
  generalize buildOf ps = X at *
  obtain ⟨bs, eb⟩ := X
  generalize readOf xs = R at *
  obtain ⟨qs, er⟩ := R
  go_wp2_with fail
  refine BU.out.mono ?_
  rintro e w5 ⟨v5, rfl, hv5, hb5⟩
  obtain ⟨A5, m5, c5, rfl, hmc5, hx5, hro5, hg5⟩ := hv5.rowB
  have hm5 : m5 ≤ 9223372036854775807 := by unfold maxLen at hx5; omega
  have HRO5 := Lib.hid hro5
  have HB45 := Lib.hid hb5
  clear hv5 hb5 hro5 BU hx5 hmc5
  go_wp2_with fail
  refine (RR.out w5 HB45.out).mono ?_
  rintro e w6 ⟨v6, rs6, rfl, hp6, hv6, hb6⟩
  obtain ⟨A6, c6, rfl, hc6, _⟩ := hv6.form
  have hq6 : rs6.length ≤ 4096 := by
    have h1 : psOf rs6 = qs := hp6
    have h2 : qs.length ≤ 4096 := DL.out
    rw [← h1, psOf_len] at h2
    exact h2
  have LW6 := Lib.hid (LWQ.of hv6)
  have HRO6 := Lib.hid (HRO5.out.below hb6)
  have HB46 := Lib.hid (HB45.out.trans (hb6.mono HB45.out.size))
  have HS6 := Lib.hid hb6.size
  clear hv6 hb6 hp6 HRO5
  go_wp2_with fail
  refine (RR.out w6 HB46.out).mono ?_
  rintro e w7 ⟨v7, rs7, rfl, hp7, hv7, hb7⟩
  obtain ⟨A7, c7, rfl, hc7, _⟩ := hv7.form
  have HP7 : Hid (psOf rs7 = qs) := Lib.hid hp7
  have hq7 : rs7.length ≤ 4096 := by
    have h2 : qs.length ≤ 4096 := DL.out
    rw [← HP7.out, psOf_len] at h2
    exact h2
  have HO7 := Lib.hid hv7
  have LW7 := Lib.hid (LW6.out.below hb7)
  have HRO7 := Lib.hid (HRO6.out.below hb7)
  have HB47 := Lib.hid (HB46.out.trans (hb7.mono HB46.out.size))
  have HS7 := Lib.hid hb7.size
  clear hv7 hb7 hp7 HRO6 LW6 RR
  go_wp2
  go_loopw [50] (fun i wr => ∃ (k : Nat) (zs : List UInt8), k ≤ m5 ∧ i = .int .i64 k ∧ Hid (RowB wr w4.heap.size m5 A5 zs) ∧ Hid (LWQ wr w5.heap.size w6.heap.size A6 rs6.length) ∧ Hid (Mid3 w4.heap.size w6.heap.size w7.heap.size w7 wr)) (fun i _ => m5 - (intOf i).toNat)
  case atStart => exact ⟨0, _, Nat.zero_le _, rfl, HRO7, LW7, Lib.hid (Mid3.refl _ _ _ _)⟩
  case round =>
    obtain ⟨wa, rfl⟩ : ∃ x, x = wr := ⟨_, rfl⟩
    obtain ⟨k, zs, hk, rfl, hown, hlw, hmid⟩ := hrel
    by_cases hlt : k < m5
    · obtain ⟨g, rfl, hgb, ⟨x, hcell⟩, hfr, hset⟩ := hown.out.bump k hlt
      obtain ⟨g', cs', e7, _, _, hty⟩ := hown.out.row _ rfl
      injection e7 with e8 e9
      subst e8
      obtain ⟨g', e7, _, hgs⟩ := hg5 _ rfl
      injection e7 with e8 e9
      subst e8
      have HSET := Lib.hid hset
      have HLW := Lib.hid (fun y => hlw.out.poke g k y ⟨cs', _, hty⟩)
      have HMD := Lib.hid (fun u => hmid.out.set (g := g) (by have := HS6.out; omega) k u)
      clear hset hown hlw hmid hty
      go_wp2
      go_roundw
      case rel =>
        obtain ⟨y, hy⟩ := u8_of_intA (((x.toNat : Int) + 1) % 256) (by omega) (by omega)
        rw [hy]
        exact ⟨k + 1, zs.set k y, by omega, by go_num, Lib.hid (HSET.out y), Lib.hid (HLW.out y), Lib.hid (HMD.out _)⟩
      case measure => simp [intOf]; omega
    · clear hk hown LW7 HRO7
      go_wp2
      go_loopw [64] (fun i wr => ∃ j : Nat, j ≤ rs6.length ∧ i = .int .i64 j ∧ Hid (LWQ wr w5.heap.size w6.heap.size A6 rs6.length) ∧ Hid (Mid3 w4.heap.size w6.heap.size w7.heap.size w7 wr)) (fun i _ => rs6.length - (intOf i).toNat)
      case atStart => exact ⟨0, Nat.zero_le _, rfl, hlw, hmid⟩
      case round =>
        clear hlw hmid
        obtain ⟨wb, rfl⟩ : ∃ x, x = wr := ⟨_, rfl⟩
        obtain ⟨j, hj, rfl, hlw, hmid⟩ := hrel
        by_cases hltj : j < rs6.length
        · obtain ⟨gl, cs, Ak, mk, ck, Av, mv, cv, zk, zv, rfl, hgl, q0, q1, hkl, hko, hvl, hvo, hkb, hvb, hmk, hmv⟩ := hlw.out j hltj
          have p0 : wb.cell? ⟨gl, j * 2, none⟩ = some (.slice Ak mk ck) := by rw [cell_of_row _ _ _ _ _ _ hgl]; exact q0
          have HGL := Lib.hid hgl
          have HKO := Lib.hid hko
          have Q0 := Lib.hid q0
          have Q1 := Lib.hid q1
          clear hgl q0 q1 hko hvo hvl hvb zv hmv
          go_wp2
          go_loopw [73] (fun i wr => ∃ (k : Nat) (zt : List UInt8), k ≤ mk ∧ i = .int .i64 k ∧ Hid (zt.length = mk) ∧ Hid (OwnB wr w5.heap.size (.slice Ak mk ck) zt) ∧ Hid (LWQ wr w5.heap.size w6.heap.size (some ⟨gl, 0, none⟩) rs6.length) ∧ Hid (wr.heap[gl]? = some (.cells cs 42 (0, 0))) ∧ Hid (Mid3 w4.heap.size w6.heap.size w7.heap.size w7 wr)) (fun i _ => mk - (intOf i).toNat)
          case atStart => exact ⟨0, zk, Nat.zero_le _, rfl, hkl, HKO, hlw, HGL, hmid⟩
          case round =>
            clear hlw hmid HKO HGL hkl p0
            obtain ⟨wc, rfl⟩ : ∃ x, x = wr := ⟨_, rfl⟩
            obtain ⟨k, zt, hk, rfl, hkl, hko, hlw, hgl, hmid⟩ := hrel
            have p0 : wc.cell? ⟨gl, j * 2, none⟩ = some (.slice Ak mk ck) := by rw [cell_of_row _ _ _ _ _ _ hgl.out]; exact Q0.out
            by_cases hltk : k < mk
            · obtain ⟨g, rfl, hgb, ⟨x, hcell⟩, hfr, hset⟩ := hko.out.bump hkl.out k hltk
              obtain ⟨cs', hty⟩ := hko.out.ofType rfl
              have hg6 : g < w6.heap.size := hkb _ rfl
              obtain ⟨y, hy⟩ := u8_of_intA (((x.toNat : Int) + 1) % 256) (by omega) (by omega)
              have hy8 := y.toNat_lt
              have hx8 := x.toNat_lt
              have hne : gl ≠ g := by
                rintro rfl
                have h1 := hgl.out
                rw [hty] at h1
                injection h1 with h1
                injection h1 with _ h1
                exact absurd h1 (by decide)
              have HL2 := Lib.hid (hlw.out.poke g k y ⟨cs', _, hty⟩)
              have HG2 : Hid ((wc.setCell ⟨g, k, none⟩ (.int .u8 (y.toNat : Int))).heap[gl]? = some (.cells cs 42 (0, 0))) := Lib.hid ((heap_setCell_other _ _ _ _ (by simpa using hne)).trans hgl.out)
              have HM2 := Lib.hid (hmid.out.set (g := g) (by have := HS6.out; have := HB45.out.size; omega) k (.int .u8 (y.toNat : Int)))
              have HO2 := Lib.hid (hset y)
              have HZ2 : Hid ((zt.set k y).length = mk) := Lib.hid (by rw [List.length_set]; exact hkl.out)
              clear hset hkl hko hlw hgl hmid hty hne hkb
              go_upto_region 18 with (fail)
              go_region
              rw [hy]
              go_wp2
              go_roundw
              case rel => exact ⟨k + 1, zt.set k y, by omega, by go_num, HZ2, HO2, HL2, HG2, Lib.hid HM2.out.drew⟩
              case measure => simp [intOf]; omega
            · clear hk hkl hko hkb
              obtain ⟨gl', cs2, Ak2, mk2, ck2, Av2, mv2, cv2, zk2, zv2, e7, hgl2, _, q1, _, _, hvl, hvo, _, hvb, _, hmv⟩ := hlw.out j hltj
              injection e7 with e7
              injection e7 with e8 e9
              subst e8
              obtain rfl : cs2 = cs := by
                have h1 := hgl.out
                rw [hgl2] at h1
                injection h1 with h1
                injection h1 with h1
              have p1 : wc.cell? ⟨gl, j * 2 + 1, none⟩ = some (.slice Av2 mv2 cv2) := by rw [cell_of_row _ _ _ _ _ _ hgl2]; exact q1
              have HVO := Lib.hid hvo
              have R1 := Lib.hid q1
              clear hgl2 hvo q1 p0 Q1
              go_wp2
              go_loopw [99] (fun i wr => ∃ (k : Nat) (zt : List UInt8), k ≤ mv2 ∧ i = .int .i64 k ∧ Hid (zt.length = mv2) ∧ Hid (OwnB wr w5.heap.size (.slice Av2 mv2 cv2) zt) ∧ Hid (LWQ wr w5.heap.size w6.heap.size (some ⟨gl, 0, none⟩) rs6.length) ∧ Hid (wr.heap[gl]? = some (.cells cs2 42 (0, 0))) ∧ Hid (Mid3 w4.heap.size w6.heap.size w7.heap.size w7 wr)) (fun i _ => mv2 - (intOf i).toNat)
              case atStart => exact ⟨0, zv2, Nat.zero_le _, rfl, hvl, HVO, hlw, hgl, hmid⟩
              case round =>
                clear hlw hmid HVO hgl hvl p1
                obtain ⟨wd, rfl⟩ : ∃ x, x = wr := ⟨_, rfl⟩
                obtain ⟨k, zt, hk, rfl, hvl, hvo, hlw, hgl, hmid⟩ := hrel
                have p1 : wd.cell? ⟨gl, j * 2 + 1, none⟩ = some (.slice Av2 mv2 cv2) := by rw [cell_of_row _ _ _ _ _ _ hgl.out]; exact R1.out
                by_cases hltk : k < mv2
                · obtain ⟨g, rfl, hgb, ⟨x, hcell⟩, hfr, hset⟩ := hvo.out.bump hvl.out k hltk
                  obtain ⟨cs', hty⟩ := hvo.out.ofType rfl
                  have hg6 : g < w6.heap.size := hvb _ rfl
                  obtain ⟨y, hy⟩ := u8_of_intA (((x.toNat : Int) + 1) % 256) (by omega) (by omega)
                  have hy8 := y.toNat_lt
                  have hx8 := x.toNat_lt
                  have hne : gl ≠ g := by
                    rintro rfl
                    have h1 := hgl.out
                    rw [hty] at h1
                    injection h1 with h1
                    injection h1 with _ h1
                    exact absurd h1 (by decide)
                  have HL2 := Lib.hid (hlw.out.poke g k y ⟨cs', _, hty⟩)
                  have HG2 : Hid ((wd.setCell ⟨g, k, none⟩ (.int .u8 (y.toNat : Int))).heap[gl]? = some (.cells cs2 42 (0, 0))) := Lib.hid ((heap_setCell_other _ _ _ _ (by simpa using hne)).trans hgl.out)
                  have HM2 := Lib.hid (hmid.out.set (g := g) (by have := HS6.out; have := HB45.out.size; omega) k (.int .u8 (y.toNat : Int)))
                  have HO2 := Lib.hid (hset y)
                  have HZ2 : Hid ((zt.set k y).length = mv2) := Lib.hid (by rw [List.length_set]; exact hvl.out)
                  clear hset hvl hvo hlw hgl hmid hty hne hvb
                  go_upto_region 23 with (fail)
                  go_region
                  rw [hy]
                  go_wp2
                  go_roundw
                  case rel => exact ⟨k + 1, zt.set k y, by omega, by go_num, HZ2, HO2, HL2, HG2, Lib.hid HM2.out.drew⟩
                  case measure => simp [intOf]; omega
                · clear hk hvl hvo hvb
                  go_wp2
                  go_roundw
                  case rel => exact ⟨j + 1, by omega, by go_num, hlw, hmid⟩
                  case measure => simp [intOf]; omega
        · clear hj hlw
          have HBZ := Lib.hid (hmid.out.below HB47.out (Nat.le_refl _))
          have HBW := Lib.hid (HB4.out.trans (HBZ.out.mono HB4.out.size))
          have HOZ := Lib.hid (OwnQ.mid hmid.out HO7.out (Nat.le_refl _))
          clear hmid HO7 HB47 HB46 HB45
          go_wp2_with fail
          refine (RF.out wb HBW.out).mono ?_
          rintro e w9 ⟨v9, rs9, rfl, hp9, hv9, hb9⟩
          obtain ⟨A9, c9, rfl, hc9, hr9⟩ := hv9.form
          have HP9 : Hid (psOf rs9 = qs) := Lib.hid hp9
          obtain ⟨A7', c7', e7, hc7', hr7, _⟩ := HOZ.out.form
          injection e7 with e8 _ e9
          subst e8 e9
          rw [HP9.out] at hr9
          rw [HP7.out] at hr7
          have hr7' := hr7.below hb9
          have HB49 := Lib.hid (HBZ.out.trans (hb9.mono HBZ.out.size))
          have HBE := Lib.hid (HBW.out.trans (hb9.mono HBW.out.size))
          have hin : w9.cell? ⟨b4, n', none⟩ = some (.int .u8 7) := by
            have h1 := HL'.out
            have h2 := (HR4.out.below HB49.out).cells n' (by simp; omega)
            rw [Nat.zero_add] at h2
            rw [h2]
            have e : (xs ++ [7])[n']'(by simp; omega) = (7 : UInt8) := by
              rw [List.getElem_append_right (by omega)]
              simp
            rw [e]
            rfl
          have SM := Lib.hid (same_any (some ⟨b4, 0, none⟩) n' c4 xs A' n' c' xs w9 (HP4.out.below HB49.out) (HY.out.below HBE.out))
          rw [show decide (xs = xs) = true from decide_eq_true rfl] at SM
          have S1 := Lib.hid (rSame_any Ac n cc ps A n c ps w9 (HC4.out.below HB49.out) (HX.out.below HBE.out) (by omega) (by omega))
          rw [show decide (ps = ps) = true from decide_eq_true rfl] at S1
          have hq9 : rs9.length ≤ 4096 := by
            have h2 : qs.length ≤ 4096 := DL.out
            rw [← HP9.out, psOf_len] at h2
            exact h2
          have S2 := Lib.hid (fun W (hW : Dr w9 W) => rSame_any A7 rs7.length c7 qs A9 rs9.length c9 qs W (hr7'.below hW.below) (hr9.below hW.below) (by omega) (by omega))
          rw [show decide (qs = qs) = true from decide_eq_true rfl] at S2
          have hlt4 : n' < n' + 1 := by omega
          clear hv9 hb9 hp9 hr9 hr7 hr7' HOZ RF HBZ HBW
          go_wp2_with (first | (go_at_call 11; refine SM.out.mono ?_; rintro e w10 ⟨rfl, rfl⟩) | (go_at_call 16; with_reducible refine S1.out.mono ?_; rintro e w11 ⟨rfl, hd11⟩) | (go_at_call 16; with_reducible refine (S2.out _ hd11).mono ?_; rintro e w12 ⟨rfl, hd12⟩))
          go_ret
          exact ⟨rfl, (HBE.out.trans (hd11.below.mono HBE.out.size)).trans (hd12.below.mono (HBE.out.trans (hd11.below.mono HBE.out.size)).size)⟩
end Go.Proofs.Ythaciglechijkaa
