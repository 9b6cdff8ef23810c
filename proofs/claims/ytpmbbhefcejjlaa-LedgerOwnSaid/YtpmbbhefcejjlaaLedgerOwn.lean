/-
  The walk of LedgerOwn.
-/
import Derived.Test.YtpmbbhefcejjlaaLedOw
namespace Go.Proofs.Ytpmbbhefcejjlaa
open Go.RowKit
set_option linter.unusedVariables false
set_option maxRecDepth 100000 in
set_option maxHeartbeats 4000000 in
theorem LedgerOwn_walk (A : Option Addr) (n c : Nat) (acs : List Ac) (w : World) (h : RdAc w A n acs) (hn : n ≤ c) (hc : c * 232 ≤ 140737488351232) (he : ∀ e ∈ acs, e.loan.size ≤ 140737488351232) :
    Calls Try.prog 8 #[.slice A n c] w fun e w' => e = .returned (.bool true) ∧ Below w.heap.size w w' := by
  have HX := Lib.hid h
  have HN : Hid (acs.length = n) := Lib.hid h.len
  have HE := Lib.hid he
  have WK := Lib.hid (wakes_any w)
  have hn12 : n ≤ 1000000000000 := by omega
  clear h he
  go_enter Try.func8, Try.ntmps8
  go_wp2_with fail
  refine WK.out.mono ?_
  rintro e w1 ⟨rfl, hb1⟩
  have HB1 := Lib.hid hb1
  clear hb1 WK
  go_wp2_with fail
  refine (New_any w1).mono ?_
  rintro e w2 ⟨rfl, hw2⟩
  have HW2 := Lib.hid hw2
  clear hw2
  go_wp2_with fail
  refine (rNew_any w2).mono ?_
  rintro e w3 ⟨rfl, hw3⟩
  have HT3 : Hid (Tw w3 w1.heap.size w2.heap.size w.heap.size (fun _ => False) [] [] (-719163)) := Lib.hid (by
    have := Tw.start w1 w.heap.size HB1.out.size
    rw [← HW2.out] at this
    have hw2 := HW2.out
    rw [hw3, show w2.heap.size = w1.heap.size + 1 by rw [hw2]; simp]
    exact this)
  have HB3 : Hid (Below w.heap.size w w3) := Lib.hid (by rw [hw3, HW2.out]; exact (HB1.out.alloc HB1.out.size _).alloc (by simp; have := HB1.out.size; omega) _)
  clear HW2 hw3
  generalize w1.heap.size = g at *
  generalize w2.heap.size = h at *
  clear HB1
  go_upto_block 0 with (fail)
  go_cut [20] from 5 to 90 (fun _ wx => ∃ ps, Hid (Tw wx g h w.heap.size (fun _ => False) ps ps (-719163)) ∧ Hid (Below w.heap.size w wx))
  case first =>
    go_wp2
    go_loopw [20] (fun t wr => ∃ (k : Nat) (ps : List PV), k ≤ n ∧ t = .int .i64 (k : Int) ∧ Hid (Tw wr g h w.heap.size (fun _ => False) ps ps (-719163)) ∧ Hid (Below w.heap.size w wr)) (fun t _ => n - (intOf t).toNat)
    case atStart => exact ⟨0, [], Nat.zero_le _, rfl, HT3, HB3⟩
    case round =>
      clear HT3 HB3
      obtain ⟨k, ps, hk, rfl, HT, HB⟩ := hrel
      obtain ⟨wa, rfl⟩ : ∃ x, x = wr := ⟨_, rfl⟩
      by_cases hlt : k < n
      · have hkl : k < acs.length := by rw [HN.out]; exact hlt
        obtain ⟨b, off, rfl, _⟩ := HX.out.ex (by omega)
        have hmid := HX.out.mid rfl HB.out k hkl _ rfl
        have hls : acs[k].loan.size ≤ 9223372036854775806 := by have := HE.out _ (List.getElem_mem hkl); omega
        generalize acs[k] = ac at *
        have hiA := info_act ac
        have hzA := zsize_act ac
        have hoA := ones_act ac
        have h28 : (acCells ac).size = 28 := by simp [acCells, stCells]
        go_upto_region 8 with (first
          | (refine load_mid rfl 55 _ rfl b (off + k * 28) rfl (acCells ac) _ hmid Try.underlying55 rfl hiA ?_)
          | (refine alloc_store rfl rfl 55 _ _ rfl rfl rfl rfl (acCells ac) rfl rfl hzA hiA hoA ?_))
        obtain ⟨ga, hga⟩ : ∃ ga, ga = wa.heap.size := ⟨_, rfl⟩
        rw [← hga]
        refine wp_at (fun wx => wx.heap[ga]? = some (.cells (acCells ac) 55 (0, 0)) ∧ Below wa.heap.size wa wx) (by rw [hga]; exact ⟨heap_alloc_new _ _, (Below.refl _ _).alloc (Nat.le_refl _) _⟩) ?_
        rintro wb ⟨hA1, hbb⟩
        have HTb : Hid (Tw wb g h w.heap.size (fun i => i = ga) ps ps (-719163)) := Lib.hid ((HT.out.free (F' := fun i => i = ga) (fun i hi => .inr (by omega))).below hbb)
        have HBb := Lib.hid (HB.out.trans (hbb.mono HB.out.size))
        have HGA : Hid (w.heap.size ≤ ga) := Lib.hid (by rw [hga]; exact HB.out.size)
        clear hga hbb HT HB hmid
        have hgaw : w.heap.size ≤ ga := by have := HGA.out; omega
        obtain ⟨c1, c3, hS, hT'⟩ := ac_cells hA1
        have hiS := st_info ac.was
        have hiT := st_info ac.now
        have PC := Lib.hid (HTb.out.post2 (fun i hi => by rw [hi]; exact heap_lt' hA1) ac.was ac.now ac.day ac.loan)
        have RC := Lib.hid (fun (W : World) (F : Nat → Prop) ps2 (hW : Tw W g h w.heap.size F ps2 ps (-719163)) (hF : ∀ k, F k → k < W.heap.size) => hW.rpost hF ac.was ac.now ac.day ac.loan hls)
        have HAC := Lib.hid (fun (W : World) (hW : W.heap[ga]? = some (.cells (acCells ac) 55 (0, 0))) => ac_cells hW)
        generalize acCells ac = CA at *
        generalize stCells ac.was = S at *
        generalize stCells ac.now = T at *
        generalize addP ps (postR ps.length (-719163) ac.day ac.loan ac.was ac.now).2 = ps2 at *
        clear hiA hzA hoA h28
        go_upto_region 9 with (first
          | (refine load_mid rfl 23 _ rfl ga 4 rfl S _ hS Try.underlying23 rfl hiS ?_)
          | (refine load_mid rfl 23 _ rfl ga 16 rfl T _ hT' Try.underlying23 rfl hiT ?_)
          | (go_at_call 19; refine PC.out.mono ?_; rintro e wc ⟨P4, A5, m5, c5, ok, er, rfl, hp3, hiP, hzP, hoP, hm7, hP⟩)
          | (refine alloc_store rfl rfl 49 _ _ rfl rfl rfl rfl P4 rfl rfl hzP hiP hoP ?_))
        obtain ⟨gp, hgp⟩ : ∃ gp, gp = wc.heap.size := ⟨_, rfl⟩
        rw [← hgp]
        refine wp_at (fun wx => wx.heap[gp]? = some (.cells P4 49 (0, 0)) ∧ Below wc.heap.size wc wx) (by rw [hgp]; exact ⟨heap_alloc_new _ _, (Below.refl _ _).alloc (Nat.le_refl _) _⟩) ?_
        rintro wd ⟨hP4, hbd⟩
        obtain ⟨F1, hF1, hF1lt, hT1, hrow⟩ := hP.ex
        have hTd : Tw wd g h w.heap.size (fun i => F1 i ∨ i = gp) ps2 ps (-719163) := (hT1.free (F' := fun i => F1 i ∨ i = gp) (fun i hi => hi.imp id (fun e => by omega))).below hbd
        have hFd : ∀ i, (F1 i ∨ i = gp) → i < wd.heap.size := fun i hi => by
          rcases hi with h1 | h1
          · exact Nat.lt_of_lt_of_le (hF1lt i h1) hbd.size
          · rw [h1]; exact heap_lt' hP4
        have hga1 := heap_lt' hA1
        have hA2 := (hbd.block ga (hF1lt ga (hF1 ga rfl))).trans ((hP.keep ga hga1 rfl).trans hA1)
        have HRW : Hid (0 < m5 → ∃ b5, A5 = some ⟨b5, 0, none⟩ ∧ w.heap.size ≤ b5 ∧ b5 < gp ∧ F1 b5 ∧ RowT wd 35 b5 (m5 * 2)) := Lib.hid fun h0 => by
          obtain ⟨b5, e1, e2, e3, e4⟩ := hrow h0
          exact ⟨b5, e1, by omega, by rw [hgp]; exact hF1lt b5 e3, e3, e4.same (hbd.block b5 (hF1lt b5 e3))⟩
        have HBd : Hid (Below w.heap.size w wd) := Lib.hid ((HBb.out.trans hP.below).trans (hbd.mono (by have := hP.below.size; omega)))
        have HP4 := Lib.hid hP4
        obtain ⟨c1, c3, hS, hT'⟩ := HAC.out wd hA2
        have RC2 := Lib.hid (RC.out wd _ ps2 hTd hFd)
        clear hP hrow hT1 hF1 hF1lt hbd hTd hFd hP4 hA1 hA2 hga1 PC RC HAC HTb HBb hiP hzP hoP hgp
        go_upto_region 10 with (first
          | (refine load_mid rfl 23 _ rfl ga 4 rfl S _ hS Try.underlying23 rfl hiS ?_)
          | (refine load_mid rfl 23 _ rfl ga 16 rfl T _ hT' Try.underlying23 rfl hiT ?_)
          | (go_at_call 23; refine RC2.out.mono ?_; rintro e wf ⟨⟨x9, rfl⟩, hTf, hkf, hbf⟩))
        have hP4 := (hkf gp (heap_lt' HP4.out) (.inr rfl)).trans HP4.out
        have p3 : wf.cell? ⟨gp, 3, none⟩ = some (.slice A5 m5 c5) := by rw [cell_of_row _ _ _ _ _ _ hP4]; exact hp3
        have HRW2 : Hid (0 < m5 → ∃ b5, A5 = some ⟨b5, 0, none⟩ ∧ w.heap.size ≤ b5 ∧ b5 < gp ∧ F1 b5 ∧ RowT wf 35 b5 (m5 * 2)) := Lib.hid fun h0 => by
          obtain ⟨b5, e1, e2, e3, e4, e5⟩ := HRW.out h0
          exact ⟨b5, e1, e2, e3, e4, e5.same (hkf b5 e5.lt (.inl e4))⟩
        have HBf := Lib.hid (HBd.out.trans hbf)
        have HTf := Lib.hid hTf
        have HP5 := Lib.hid hP4
        have HKB : Hid (∀ i, (0 < m5 ∧ (Value.slice A5 m5 c5).ownBlock = some i) → (F1 i ∨ i = gp) ∧ w.heap.size ≤ i ∧ i ≠ gp) := Lib.hid fun i ⟨h0, hi⟩ => by
          obtain ⟨b5, e1, e2, e3, e4, e5⟩ := HRW.out h0
          rw [e1] at hi
          simp [Value.ownBlock] at hi
          subst hi
          exact ⟨.inl e4, e2, by omega⟩
        clear c1 c3 hS hT' hkf hbf hTf hP4 HRW HBd HP4 RC2
        go_upto_block 2 with (fail)
        go_cut [10, 54] from 55 to 62 (fun _ _ wx => Hid (Kept (fun i => 0 < m5 ∧ (Value.slice A5 m5 c5).ownBlock = some i) wf wx))
        case first =>
          clear p3
          go_wp2
          go_loopw [54] (fun t wr => ∃ i : Nat, i ≤ m5 ∧ t = .int .i64 (i : Int) ∧ Hid (Kept (fun i => 0 < m5 ∧ (Value.slice A5 m5 c5).ownBlock = some i) wf wr) ∧ Hid (0 < m5 → ∃ b5, A5 = some ⟨b5, 0, none⟩ ∧ RowT wr 35 b5 (m5 * 2))) (fun t _ => m5 - (intOf t).toNat)
          case atStart => exact ⟨0, Nat.zero_le _, rfl, Lib.hid (Kept.refl _ _), Lib.hid fun h0 => by
            obtain ⟨b5, e1, e2, e3, e4, e5⟩ := HRW2.out h0
            exact ⟨b5, e1, e5⟩⟩
          case round =>
            obtain ⟨i, hi5, rfl, HK, HR⟩ := hrel
            obtain ⟨wg, rfl⟩ : ∃ x, x = wr := ⟨_, rfl⟩
            by_cases hlt5 : i < m5
            · obtain ⟨b5, rfl, hr5⟩ := HR.out (by omega)
              have hP6 := (HK.out.block gp (heap_lt' HP5.out) (fun e => (HKB.out gp e).2.2 rfl)).trans HP5.out
              have p3 : wg.cell? ⟨gp, 3, none⟩ = some (.slice (some ⟨b5, 0, none⟩) m5 c5) := by rw [cell_of_row _ _ _ _ _ _ hP6]; exact hp3
              obtain ⟨Z2, hZ2⟩ : ∃ Z2 : Array Value, Z2 = #[.int .i64 0, .int .i64 0] := ⟨_, rfl⟩
              have hbz := built_ln0
              have hz2 : Z2.size = 2 := by rw [hZ2]; rfl
              have hiz : (Try.prog.info? 35).map (·.size) = some Z2.size := by rw [hz2]; exact info_ln
              have hoz : Z2.all (·.oneCell') = true := by rw [hZ2]; simp [Value.oneCell']
              have hth : wg.there b5 (i * 2) Z2.size := hr5.there (by rw [hz2]; omega)
              rw [← hZ2] at hbz
              have HK2 := Lib.hid (kept_wr HK.out (g := b5) ⟨by omega, rfl⟩ (i * 2) Z2.toList)
              have HR2 : Hid (RowT (wg.setCells b5 (i * 2) Z2.toList) 35 b5 (m5 * 2)) := Lib.hid (hr5.setAny _ _)
              clear hr5 HK HR hP6 hZ2 hz2
              go_wp2_with (first
                | (refine wpList_buildTo rfl 35 _ rfl _ rfl _ (built_0 hbz _) ?_)
                | (refine wpList_store_mid rfl 35 _ _ rfl b5 (i * 2) Z2 rfl rfl hth hiz hoz ?_))
              go_roundw
              case rel => exact ⟨i + 1, by omega, by go_num, HK2, Lib.hid fun _ => ⟨b5, rfl, HR2.out⟩⟩
              case measure => (try simp [intOf]) <;> (try omega)
            · go_wp2_with fail
              go_meet
              exact HK
        case rest =>
          have HK := hcut
          obtain ⟨wg, rfl⟩ : ∃ x, x = wc := ⟨_, rfl⟩
          have hTg : Tw wg g h w.heap.size (fun i => F1 i ∨ i = gp) ps2 ps2 (-719163) := HTf.out.keep (fun i hi _ hf => HK.out.block i hi (fun e => hf (HKB.out i e).1)) HK.out.size
          have HTg : Hid (Tw wg g h w.heap.size (fun _ => False) ps2 ps2 (-719163)) := Lib.hid (hTg.free (fun _ hf => hf.elim))
          have HBg : Hid (Below w.heap.size w wg) := Lib.hid ⟨HK.out.os.trans HBf.out.os, HK.out.tape.trans HBf.out.tape, HK.out.output.trans HBf.out.output, Nat.le_trans HBf.out.size HK.out.size, fun i hi => (HK.out.block i (by have := HBf.out.size; omega) (fun e => by have := (HKB.out i e).2.1; omega)).trans (HBf.out.block i hi)⟩
          clear hTg HK HTf HBf HKB HRW2 HP5 p3
          have PO := Lib.hid (Postings_jw wg g w.heap.size 0 0 ps2 (-719163) (-719162) 2932896 HTg.out.jw)
          go_upto_region 16 with (first
            | (go_at_call 16; refine PO.out.mono ?_; rintro e wh ⟨v, qs, rfl, hpv, hov, hbh⟩))
          obtain ⟨Av, cv, rfl, hcv, _⟩ := hov.form
          have hqn : qs.length ≤ 65536 := by
            rw [← pvs_len, hpv]
            exact Nat.le_trans (List.length_filter_le _ _) HTg.out.len
          have HL7 : Hid (∀ q ∈ qs, q.p.lines.length ≤ 7) := Lib.hid fun q hq => HTg.out.lines' q.p (List.mem_filter.1 (by rw [← hpv]; exact List.mem_map.2 ⟨q, hq, rfl⟩)).1
          have HLR : Hid (0 < qs.length → ∃ vb, Av = some ⟨vb, 0, none⟩ ∧ LR wh wg.heap.size vb qs) := Lib.hid fun h0 => by
            obtain ⟨vb, c8, e1, _, e3⟩ := hov.lr h0
            injection e1 with e1
            exact ⟨vb, e1, e3⟩
          have HBh := Lib.hid hbh
          clear hpv hov hbh PO
          go_upto_block 4 with (fail)
          go_wp2
          go_loopw [67] (fun t wr => ∃ i : Nat, i ≤ qs.length ∧ t = .int .i64 (i : Int) ∧ Hid (0 < qs.length → ∃ vb, Av = some ⟨vb, 0, none⟩ ∧ LR wr wg.heap.size vb qs) ∧ Hid (Below wg.heap.size wg wr)) (fun t _ => qs.length - (intOf t).toNat)
          case atStart => exact ⟨0, Nat.zero_le _, rfl, HLR, HBh⟩
          case round =>
            clear HLR HBh
            obtain ⟨i, hi, rfl, HR, HBi⟩ := hrel
            obtain ⟨wi, rfl⟩ : ∃ x, x = wr := ⟨_, rfl⟩
            by_cases hlti : i < qs.length
            · obtain ⟨vb, rfl, hlr⟩ := HR.out (by omega)
              have h3 := hlr.cells i hlti
              obtain ⟨Al, ml, cl, el, hm1, hm2, hml, _⟩ := hlr.each _ (List.getElem_mem hlti)
              have hm7' : ml ≤ 7 := by rw [hml]; exact HL7.out _ (List.getElem_mem hlti)
              rw [el] at h3
              have HLR := Lib.hid hlr
              have HEL := Lib.hid el
              clear HR hlr hml el
              go_wp2
              go_loopw [76] (fun t wr => ∃ q : Nat, q ≤ ml ∧ t = .int .i64 (q : Int) ∧ Hid (LR wr wg.heap.size vb qs) ∧ Hid (Below wg.heap.size wg wr)) (fun t _ => ml - (intOf t).toNat)
              case atStart => exact ⟨0, Nat.zero_le _, rfl, HLR, HBi⟩
              case round =>
                clear HLR HBi h3
                obtain ⟨q, hq, rfl, HLR, HBi⟩ := hrel
                obtain ⟨wj, rfl⟩ : ∃ x, x = wr := ⟨_, rfl⟩
                by_cases hltq : q < ml
                · have h3 := HLR.out.cells i hlti
                  rw [HEL.out] at h3
                  obtain ⟨Al', ml', cl', el', _, _, hx9, hrow⟩ := HLR.out.each _ (List.getElem_mem hlti)
                  rw [HEL.out] at el'
                  injection el' with f1 f2 f3
                  subst f1 f2 f3
                  clear hx9
                  obtain ⟨b9, rfl, k1, k2, k3⟩ := hrow (by omega)
                  obtain ⟨Z2, hZ2⟩ : ∃ Z2 : Array Value, Z2 = #[.int .i64 9, .int .i64 0] := ⟨_, rfl⟩
                  have hbz := built_ln9
                  have hz2 : Z2.size = 2 := by rw [hZ2]; rfl
                  have hiz : (Try.prog.info? 35).map (·.size) = some Z2.size := by rw [hz2]; exact info_ln
                  have hoz : Z2.all (·.oneCell') = true := by rw [hZ2]; simp [Value.oneCell']
                  have hth : wj.there b9 (q * 2) Z2.size := k3.there (by rw [hz2]; omega)
                  rw [← hZ2] at hbz
                  have HLR2 := Lib.hid (HLR.out.sets k2 (q * 2) Z2.toList)
                  have HBi2 := Lib.hid (below_sets Z2.toList (q * 2) k1 HBi.out)
                  clear hrow k3 HLR HBi hZ2 hz2
                  go_wp2_with (first
                    | (refine wpList_buildTo rfl 35 _ rfl _ rfl _ (built_1 hbz _ _ rfl) ?_)
                    | (refine wpList_store_mid rfl 35 _ _ rfl b9 (q * 2) Z2 rfl rfl hth hiz hoz ?_))
                  go_roundw
                  case rel => exact ⟨q + 1, by omega, by go_num, HLR2, HBi2⟩
                  case measure => (try simp [intOf]) <;> (try omega)
                · go_wp2_with fail
                  go_roundw
                  case rel => exact ⟨i + 1, by omega, by go_num, Lib.hid fun _ => ⟨vb, rfl, HLR.out⟩, HBi⟩
                  case measure => (try simp [intOf]) <;> (try omega)
            · have HTz := Lib.hid (HTg.out.below HBi.out)
              have HBz := Lib.hid (HBg.out.trans (HBi.out.mono HBg.out.size))
              clear HR
              go_wp2_with fail
              go_roundw
              case rel => exact ⟨k + 1, ps2, by omega, by go_num, HTz, HBz⟩
              case measure => (try simp [intOf]) <;> (try omega)
      · go_wp2_with fail
        go_meet
        exact ⟨ps, HT, HB⟩
  case rest =>
    obtain ⟨ps, HT, HB⟩ := hcut
    obtain ⟨wy, rfl⟩ : ∃ x, x = wc := ⟨_, rfl⟩
    have TD := Lib.hid (told_any wy g h w.heap.size ps (-719163) (-719162) 2932896 ⟨#[97]⟩ CEnd HT.out rfl rfl rfl (info_act _))
    have hbe := built_end
    generalize CEnd = CE at *
    go_wp2_with (first
      | (refine wpList_buildTo rfl 55 _ rfl _ rfl _ (built_3 hbe _ _ _ _ rfl rfl rfl) ?_)
      | (go_at_call 24; refine TD.out.mono ?_; rintro e wz ⟨rfl, hbz⟩))
    go_ret
    exact ⟨rfl, HB.out.trans (hbz.mono HB.out.size)⟩
end Go.Proofs.Ytpmbbhefcejjlaa
