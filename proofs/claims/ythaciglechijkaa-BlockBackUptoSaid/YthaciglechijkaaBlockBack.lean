/-
  The walk of BlockBack.
-/
import Derived.Test.YthaciglechijkaaBlkN
namespace Go.Proofs.Ythaciglechijkaa
open Go.RowKit
set_option linter.unusedVariables false

theorem back_plain (ps : List PairV) : (buildOf ps).2 = 0 → ps.length ≤ 4096 ∧ (buildOf ps).1.length ≤ 17719296 ∧ readOf (buildOf ps).1 = (ps, 0) ∧ ∀ i (hi : i < ps.length), findOf (buildOf ps).1 ps[i].key = (ps[i].val, true, 0) := by
  intro h
  obtain ⟨h1, h2, h3, h4⟩ := build_ok h
  rw [h4]
  have hl := pack_len ps [] h2
  refine ⟨h1, by omega, ?_, fun i hi => find_pack ps h1 h2 h3 i hi⟩
  unfold readOf
  rw [read_pack ps h1 h2 h3]
  rfl
theorem read_plain (xs : List UInt8) : ((readOf xs).2 = 0 → (readOf xs).1.length ≤ 4096 ∧ buildOf (readOf xs).1 = (xs, 0)) ∧ ((readOf xs).2 ≠ 0 → (readOf xs).1 = []) := by
  unfold readOf
  by_cases h : (readAll xs).2 = 0
  · rw [if_pos h]
    exact ⟨fun _ => ⟨(read_facts xs).1, build_read xs h⟩, fun h2 => absurd h h2⟩
  · rw [if_neg h]
    exact ⟨fun h2 => absurd h2 h, fun _ => rfl⟩
theorem own_later (A : Option Addr) (n c : Nat) (w : World) (xs : List UInt8) (h : RdB w A n xs) (hn : n ≤ 140737488355328) :
    Calls Try.prog 13 #[.slice A n c] w fun e w' => ∃ A' c', e = .returned (.slice A' n c') ∧ n ≤ c' ∧ (∀ W, Below w'.heap.size w' W → RdB W A' n xs) ∧ Below w.heap.size w w' := by
  refine (own_any A n c w xs h hn).mono ?_
  rintro e w' ⟨v, rfl, hv, hb⟩
  obtain ⟨A', m', c', rfl, hm, hmc, _, hr, _⟩ := hv.form
  obtain rfl : n = m' := by
    have h1 := hm.out
    have h2 := h.len
    omega
  exact ⟨A', c', rfl, hmc, fun W hW => hr.below hW, hb⟩
set_option maxRecDepth 100000 in
set_option maxHeartbeats 1000000 in
theorem BlockBack_walk (A : Option Addr) (n c : Nat) (A' : Option Addr) (n' c' : Nat) (w : World) (ps : List PairV) (h : RdQ w A n ps) (hn : n ≤ c) (hl : n ≤ 1048576) (ht : ∀ p ∈ ps, p.key.length ≤ 1048576 ∧ p.val.length ≤ 1048576) (xs : List UInt8) (h' : RdB w A' n' xs) (hn' : n' ≤ c') (hc' : c' ≤ 1048576) :
    Calls Try.prog 5 #[.slice A n c, .slice A' n' c'] w fun e w' => e = .returned (.bool true) ∧ Below w.heap.size w w' := by
  have HX := Lib.hid h
  have HT := Lib.hid ht
  have HY := Lib.hid h'
  have HL : Hid (ps.length = n) := Lib.hid h.len
  have HL' : Hid (xs.length = n') := Lib.hid h'.len
  have WK := Lib.hid (wakes_any w)
  have BP := Lib.hid (back_plain ps)
  have RP := Lib.hid (read_plain xs)
  clear h ht h'
  go_enter Try.func5, Try.ntmps5
  go_wp2_with fail
  refine WK.out.mono ?_
  rintro e w1 ⟨rfl, hb1⟩
  have HB1 := Lib.hid hb1
  have HX1 := Lib.hid (HX.out.below hb1)
  clear hb1 WK
  go_wp2_with fail
  refine (Copy_any A n c ps w1 HX1.out (by omega) (fun p hp => by have := HT.out p hp; omega)).mono ?_
  rintro e w2 ⟨v, rs, rfl, hps, hv, hb2⟩
  obtain ⟨Ac, mc, cc, rfl, hmc, hcc, hrc⟩ : ∃ Ac mc cc, v = .slice Ac mc cc ∧ mc = n ∧ mc ≤ cc ∧ RdQ w2 Ac mc ps := by
    obtain ⟨Ac, cc, e1, hcc, hrc, _⟩ := hv.form
    rw [hps] at hrc
    exact ⟨Ac, _, cc, e1, hrc.len.symm.trans HL.out, hcc, hrc⟩
  subst hmc
  have HB2 := Lib.hid (HB1.out.trans (hb2.mono HB1.out.size))
  have BU := Lib.hid (Build_any Ac mc cc ps w2 hrc (by omega))
  clear hv hb2 hrc HX1 hps
  generalize buildOf ps = R at *
  obtain ⟨bs, er⟩ := R
  go_wp2_with fail
  refine BU.out.mono ?_
  rintro e w3 ⟨vb, rfl, hvb, hb3⟩
  have hvs := hvb.newS
  obtain ⟨Ab, mb, cb, rfl, hmb, hrb, _⟩ := hvs.ex
  have HRB := Lib.hid hrb
  have HB3 := Lib.hid (HB2.out.trans (hb3.mono HB2.out.size))
  clear hvb hvs hb3 hrb BU
  go_upto_if 26 with (fail)
  go_cut [] (fun wx => Below w.heap.size w wx)
  case first =>
    by_cases he : er = 0
    · subst he
      obtain ⟨h4096, hbl, hrd, hfd⟩ := BP.out rfl
      have HRD := Lib.hid hrd
      have HFD := Lib.hid hfd
      have hmb2 : mb ≤ 17719296 := by have h1 := HRB.out.len; have h2 : bs.length ≤ 17719296 := hbl; have h3 : bs.length = mb := h1; omega
      have hml : mc ≤ 4096 := by have := HL.out; omega
      clear hbl hrd hfd h4096 BP
      go_wp2_with fail
      refine (own_later Ab mb cb w3 bs HRB.out (by omega)).mono ?_
      rintro e w4 ⟨A4, c4, rfl, hm4, hr4, hb4⟩
      have RR := Lib.hid (Read_any A4 mb c4 w4 bs (hr4 _ (Below.refl _ _)) (by omega) hm4)
      rw [HRD.out] at RR
      have HB4 := Lib.hid (HB3.out.trans (hb4.mono HB3.out.size))
      have HRB4 := Lib.hid (HRB.out.below hb4)
      clear hb4 HRB
      go_wp2_with fail
      refine RR.out.mono ?_
      rintro e w5 ⟨v5, rs5, rfl, hp5, hv5, hb5⟩
      dsimp only at hp5
      obtain ⟨A5, m5, c5, rfl, hm5, hcc5, hrc5⟩ : ∃ Ac mc2 cc, v5 = .slice Ac mc2 cc ∧ mc2 = mc ∧ mc2 ≤ cc ∧ RdQ w5 Ac mc2 ps := by
        obtain ⟨Ac, cc, e1, hcc, hrc, _⟩ := hv5.form
        rw [hp5] at hrc
        exact ⟨Ac, _, cc, e1, hrc.len.symm.trans HL.out, hcc, hrc⟩
      obtain rfl := hm5.symm
      have HB5 := Lib.hid (HB4.out.trans (hb5.mono HB4.out.size))
      have HRB5 := Lib.hid (HRB4.out.below hb5)
      have SM := Lib.hid (rSame_any A5 mc c5 ps A mc c ps w5 hrc5 (HX.out.below HB5.out) (by omega) (by omega))
      rw [show decide (ps = ps) = true from decide_eq_true rfl] at SM
      clear hv5 hrc5 hb5 RR hp5 HRB4
      go_wp2_with fail
      refine SM.out.mono ?_
      rintro e w6 ⟨rfl, hdr⟩
      have HB6 := Lib.hid (HB5.out.trans (hdr.below.mono HB5.out.size))
      have HRB6 := Lib.hid (HRB5.out.below hdr.below)
      clear hdr SM HRB5
      go_wp2_with fail
      go_loopw [9, 10, 11, 12, 43] (fun _ _ _ _ t wr => ∃ k : Nat, k ≤ mc ∧ t = .int .i64 k ∧ Hid (Below w6.heap.size w6 wr)) (fun _ _ _ _ t _ => mc - (intOf t).toNat)
      case atStart => exact ⟨0, by omega, rfl, Lib.hid (Below.refl _ _)⟩
      case round =>
        obtain ⟨k, hk, rfl, HW⟩ := hrel
        obtain ⟨wk, rfl⟩ : ∃ x, x = wr := ⟨_, rfl⟩
        have HBK := Lib.hid (HB6.out.trans (HW.out.mono HB6.out.size))
        by_cases hlt : k < mc
        · have hkl : k < ps.length := by have := HL.out; omega
          obtain ⟨b, off, rfl, hcl⟩ := HX.out.ex (by omega)
          obtain ⟨Ak, mk, ck, Av, mv, cv, q0, q1, r0, r1, _, _⟩ := hcl k hkl
          have hlens := HT.out _ (List.getElem_mem hkl)
          have FD := Lib.hid (HFD.out k hkl)
          clear hcl
          generalize ps[k] = p at *
          rw [r0.len, r1.len] at hlens
          obtain ⟨hlk, hlv⟩ := hlens
          have KS : Hid (∀ W : World, Below w.heap.size w W → Below w.heap.size w W ∧ W.cell? ⟨b, off + k * 2, none⟩ = some (.slice Ak mk ck)) := Lib.hid fun W hW =>
            ⟨hW, (hW.cell (p := ⟨b, off + k * 2, none⟩) (World.block_lt_of_cell? w ⟨b, off + k * 2, none⟩ q0)).trans q0⟩
          have Q1 : Hid (∀ W : World, Below w.heap.size w W → W.cell? ⟨b, off + k * 2 + 1, none⟩ = some (.slice Av mv cv)) := Lib.hid fun W hW =>
            (hW.cell (p := ⟨b, off + k * 2 + 1, none⟩) (World.block_lt_of_cell? w ⟨b, off + k * 2 + 1, none⟩ q1)).trans q1
          have R1 := Lib.hid r1
          have N0 := Lib.hid (fun W (hW : Below w.heap.size w W) => own_later Ak mk ck W _ (r0.below hW) (by omega))
          have N1 := Lib.hid (fun W (hW : Below wk.heap.size wk W) => own_later Ab mb cb W _ ((HRB6.out.below HW.out).below hW) (by omega))
          have FN := Lib.hid (fun A7 c7 A8 c8 W (h7 : RdB W A7 mb bs) (h8 : RdB W A8 mk p.key) (hc7 : mb ≤ c7) => Find_any A7 mb c7 A8 mk c8 W bs p.key h7 h8 (by omega) hc7)
          rw [FD.out] at FN
          clear q0 q1 r0 r1 FD HFD
          obtain ⟨_, q0⟩ := KS.out wk HBK.out
          have KB : Hid (∀ W : World, Below wk.heap.size wk W → Below wk.heap.size wk W ∧ W.cell? ⟨b, off + k * 2, none⟩ = some (.slice Ak mk ck)) := Lib.hid fun W hW => ⟨hW, (KS.out W (HBK.out.trans (hW.mono HBK.out.size))).2⟩
          have HO0 : Hid (∀ W : World, Below wk.heap.size wk W → Below w.heap.size w W) := Lib.hid fun W hW => HBK.out.trans (hW.mono HBK.out.size)
          go_upto_region 11 with (fail)
          go_cut [10, 11, 12] (fun x y z wx => ∃ A7 m7 c7, x = .slice A7 m7 c7 ∧ y = .bool true ∧ z = .int .i64 0 ∧ RdB wx A7 m7 p.val ∧ Below wk.heap.size wk wx)
          case first =>
            go_region_held3 (fun (w' : World) => Below wk.heap.size wk w' ∧ w'.cell? ⟨b, off + k * 2, none⟩ = some (.slice Ak mk ck))
              (first | assumption | exact KB.out _ (Below.drew (Below.refl _ _)) | exact KB.out _ (below_drewN (Below.refl _ _) _) | exact KB.out _ hB9 | exact KB.out _ hB8 | exact KB.out _ hB7)
              (first
                | (go_at_call 13; with_reducible refine (N1.out _ (And.left (by assumption))).mono ?_; rintro e w7 ⟨A7, c7, rfl, hc7, hr7, hb7⟩; have hB7 : Below wk.heap.size wk w7 := Below.trans (And.left (by assumption)) (hb7.mono (Below.size (w := wk) (And.left (by assumption)))))
                | (go_at_call 13; with_reducible refine (N0.out _ (HO0.out _ (And.left (by assumption)))).mono ?_; rintro e w8 ⟨A8, c8, rfl, hc8, hr8, hb8⟩; have hB8 : Below wk.heap.size wk w8 := Below.trans (And.left (by assumption)) (hb8.mono (Below.size (w := wk) (And.left (by assumption)))))
                | (go_at_call 12; refine (FN.out _ _ _ _ _ (hr7 _ (by first | assumption | exact Below.refl _ _)) (hr8 _ (by first | assumption | exact Below.refl _ _)) hc7).mono ?_; rintro e w9 ⟨v9, rfl, hv9, hb9⟩; have hB9 : Below wk.heap.size wk w9 := Below.trans (And.left (by assumption)) (hb9.mono (Below.size (w := wk) (And.left (by assumption))))))
            all_goals obtain ⟨A9, m9, c9, rfl, _, _, _, hr9, _⟩ := hv9.form
            all_goals go_wp2
            all_goals go_meet
            all_goals (case rel => exact ⟨A9, m9, c9, rfl, rfl, rfl, hr9, hB9⟩)
          case rest =>
            obtain ⟨A7, m7, c7, rfl, rfl, rfl, hr7, hb7⟩ := hcut
            obtain ⟨wx, rfl, _⟩ : ∃ x, x = _ ∧ Below wk.heap.size wk x := ⟨_, rfl, hb7⟩
            have q1 := Q1.out wx (HO0.out wx hb7)
            have SM2 := Lib.hid (same_any A7 m7 c7 p.val Av mv cv p.val wx hr7 (R1.out.below (HO0.out wx hb7)))
            rw [show decide (p.val = p.val) = true from decide_eq_true rfl] at SM2
            have HW7 := Lib.hid (HW.out.trans (hb7.mono HW.out.size))
            have HB7 := Lib.hid (HO0.out wx hb7)
            clear hr7 q0 KS KB Q1 N0 N1 FN HO0
            by_cases hk20 : k = 20
            · subst hk20
              go_wp2_with (go_at_call 11; refine SM2.out.mono ?_; rintro e w10 ⟨rfl, rfl⟩)
              go_meet
              exact HB7.out
            · have hk2 : ((k : Int) == 20) = false := by rw [beq_eq_false_iff_ne]; omega
              go_wp2_with (go_at_call 11; refine SM2.out.mono ?_; rintro e w10 ⟨rfl, rfl⟩)
              go_roundw
              case rel => exact ⟨k + 1, by omega, by go_num, HW7⟩
              case measure => (try simp [intOf]) <;> (try omega)
        · go_wp2
          go_meet
          exact HBK.out
    · go_wp2
      go_meet
      exact HB3.out
  case rest =>
    obtain ⟨wx, rfl, _⟩ : ∃ x, x = _ ∧ Below w.heap.size w x := ⟨_, rfl, hcut⟩
    have HBX := Lib.hid hcut
    have HYX := Lib.hid (HY.out.below hcut)
    clear hcut BP HRB HB3 HB2 HB1
    go_wp2_with fail
    refine (own_later A' n' c' wx xs HYX.out (by omega)).mono ?_
    rintro e y1 ⟨A4, c4, rfl, hm4, hr4, hb4⟩
    have RR := Lib.hid (Read_any A4 n' c4 y1 xs (hr4 _ (Below.refl _ _)) (by omega) hm4)
    have HY1 := Lib.hid (HYX.out.below hb4)
    have HC1 := Lib.hid (HBX.out.trans (hb4.mono HBX.out.size))
    clear hb4 hr4
    generalize readOf xs = RD at *
    obtain ⟨qs, eq⟩ := RD
    go_wp2_with fail
    refine RR.out.mono ?_
    rintro e y2 ⟨v5, rs5, rfl, hp5, hv5, hb5⟩
    have hp5' : psOf rs5 = qs := hp5
    obtain ⟨A5, m5, c5, rfl, hm5, hcc5, hrc5⟩ : ∃ Ac mc2 cc, v5 = .slice Ac mc2 cc ∧ Hid (mc2 = qs.length) ∧ mc2 ≤ cc ∧ RdQ y2 Ac mc2 qs := by
      obtain ⟨Ac, cc, e1, hcc, hrc, _⟩ := hv5.form
      rw [hp5'] at hrc
      exact ⟨Ac, _, cc, e1, Lib.hid hrc.len.symm, hcc, hrc⟩
    have HY2 := Lib.hid (HY1.out.below hb5)
    have HC2 := Lib.hid (HC1.out.trans (hb5.mono HC1.out.size))
    have HRQ := Lib.hid hrc5
    clear hp5 hp5' hv5 hb5 hrc5 RR HY1 HYX
    by_cases he : eq = 0
    · subst he
      obtain ⟨hq1, hq2⟩ := RP.out.1 rfl
      have BU := Lib.hid (Build_any A5 m5 c5 qs y2 HRQ.out (by have h1 := hm5.out; have h2 : qs.length ≤ 4096 := hq1; omega))
      rw [show buildOf qs = (xs, 0) from hq2] at BU
      clear hq1 hq2 RP
      go_wp2_with fail
      refine BU.out.mono ?_
      rintro e y3 ⟨vb, rfl, hvb, hb3⟩
      have hvs := hvb.newS
      obtain ⟨Ab2, mb2, cb2, rfl, hmb2, hrb2, _⟩ := hvs.ex
      have SM2 := Lib.hid (same_any Ab2 mb2 cb2 xs A' n' c' xs y3 hrb2 (HY2.out.below hb3))
      rw [show decide (xs = xs) = true from decide_eq_true rfl] at SM2
      have HC3 := Lib.hid (HC2.out.trans (hb3.mono HC2.out.size))
      clear hvb hvs hb3 hrb2 BU
      go_wp2_with (go_at_call 11; refine SM2.out.mono ?_; rintro e w10 ⟨rfl, rfl⟩)
      go_ret
      exact ⟨rfl, HC3.out⟩
    · obtain rfl : qs = [] := RP.out.2 he
      obtain rfl : m5 = 0 := hm5.out
      go_wp2
      go_ret
      exact ⟨rfl, HC2.out⟩
end Go.Proofs.Ythaciglechijkaa
