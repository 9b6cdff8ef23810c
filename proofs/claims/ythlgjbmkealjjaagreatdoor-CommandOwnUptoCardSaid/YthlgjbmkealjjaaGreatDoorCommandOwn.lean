/-
  The walk of the law CommandOwn: what is handed in stays; what is answered is new memory. No statement is proved here.
-/
import Derived.Test.YthlgjbmkealjjaaGreatDoorCmC
namespace Go.Proofs.YthlgjbmkealjjaaGreatDoor
open Go.RowKit
set_option linter.unusedVariables false
theorem cut_h64 {w : World} {A : Option Addr} {m : Nat} {xs : List Value} (h : Rd w 1 A m xs) (c : Nat) (hc : m ≤ c) (n : Nat) (hn : n ≤ m) :
    ∃ A', (∀ W, (Instr.slice 23 (.slice A m c) none (some (.int .i64 (n : Int))) none).run Tryz.prog W = .ok (.slice A' n c) W) ∧ Rd w 1 A' n (xs.take n) := by
  have hl : xs.length = m := by simpa using h.1
  have hr := h.cut (i := 0) (Nat.zero_le n) hn hc
  simp only [List.drop_zero, Nat.sub_zero, Nat.mul_one] at hr
  refine ⟨_, fun W => ?_, hr⟩
  have := run_slice_h (P := Tryz.prog) W 23 A m c elemUndI .i64 (n : Int) (by omega) (by omega)
  rw [this, elemSizeI]
  simp [Result.andThen, sliced]
set_option maxRecDepth 100000 in
set_option maxHeartbeats 4000000 in
theorem CommandOwn_walk (s : ByteArray) (c : Cm) (A : Option Addr) (n k : Nat) (w : World) (h : CmdIn w c A n k) :
    Calls Tryz.prog 6 #[.string s, .agg (cmCells c (.slice A n k))] w fun e w' => e = .returned (.bool true) ∧ Below w.heap.size w w' := by
  obtain ⟨l, rfl⟩ : ∃ l, s = bs l := ⟨s.data.toList, (bs_data s).symm⟩
  have WK : Hid (∀ W, Below w.heap.size w W → Calls Tryz.prog 7 #[] W fun e w' => e = .returned (.bool true) ∧ Below W.heap.size W w') := Lib.hid fun W hW => wakes_any W (vrs_at h.vrs hW)
  have OW := Lib.hid (fun W (hW : Below w.heap.size w W) => own_b h hW)
  have WR := Lib.hid (fun W (hW : Below w.heap.size w W) => Write_b h hW)
  have P1 := Lib.hid (fun W (hW : Below w.heap.size w W) => Parse_b l W (vrs_at h.vrs hW))
  have P2 := Lib.hid (refParse_b l)
  have HRD := Lib.hid h.rd
  have HLN := Lib.hid h.len
  have hn4 : n ≤ 1048576 := Nat.le_trans h.cap h.kb
  have hal := parse_args_len l
  generalize parseAns l = P at *
  obtain ⟨⟨xo, xn, xt, xa⟩, er⟩ := P
  generalize progW c = PW at *
  obtain ⟨X, er2⟩ := PW
  dsimp only at *
  obtain ⟨m, hm⟩ : ∃ m, m = xa.length := ⟨_, rfl⟩
  have HM : Hid (xa.length = m) := Lib.hid hm.symm
  rw [← hm] at P1 P2 hal
  clear h hm
  unfold cmCells
  obtain ⟨W0, hW0⟩ : ∃ W0, W0 = w.alloc (.cells #[.string c.op, .string c.name, .slice A n k, .string c.text] 25) := ⟨_, rfl⟩
  obtain ⟨Nc, hNc⟩ : ∃ Nc, Nc = w.heap.size := ⟨_, rfl⟩
  have HC0 : Hid (W0.heap[Nc]? = some (.cells #[.string c.op, .string c.name, .slice A n k, .string c.text] 25 (0, 0))) := Lib.hid (by rw [hW0, hNc]; exact heap_alloc_new _ _)
  have HB0 : Hid (Below w.heap.size w W0) := Lib.hid (by rw [hW0]; exact (Below.refl _ _).alloc (Nat.le_refl _) _)
  have HZ : Hid (Nc = w.heap.size) := Lib.hid hNc
  have HR0 : Hid (Rd W0 1 A n (c.args.map (Value.int .i64))) := Lib.hid (by rw [hW0]; exact HRD.out.alloc _)
  have hn0 : Nc < W0.heap.size := (Array.getElem?_eq_some_iff.1 HC0.out).1
  have HW : Hid (∀ W, Below W0.heap.size W0 W → Below w.heap.size w W) := Lib.hid fun W hW => HB0.out.trans (hW.mono HB0.out.size)
  go_enter Tryz.func6, Tryz.ntmps6
  go_upto_region 1 with (fail)
  rw [← hW0, ← hNc]
  clear hW0 hNc HRD
  go_wp2_with fail
  refine (WK.out W0 HB0.out).mono ?_
  rintro e w1 ⟨rfl, hb1⟩
  have HK1 := Lib.hid hb1
  clear hb1 WK
  have hq1 := cells4 ((HK1.out.block _ hn0).trans HC0.out)
  go_wp2_with fail
  refine (OW.out w1 (HW.out _ HK1.out)).mono ?_
  rintro e w2 ⟨⟨A2, k2, rfl, hk2, ho2, _⟩, hb2⟩
  have HK2 : Hid (Below W0.heap.size W0 w2) := Lib.hid (HK1.out.trans (hb2.mono HK1.out.size))
  have HO2 := Lib.hid (own_mono ho2 HK1.out.size)
  clear hb2 ho2 hq1
  go_upto_region 4 with (fail)
  obtain ⟨W2, hW2⟩ : ∃ W2, W2 = w2.alloc (.cells #[.string c.op, .string c.name, .slice A2 n k2, .string c.text] 25) := ⟨_, rfl⟩
  rw [← hW2]
  obtain ⟨B5, hB5⟩ : ∃ B5, B5 = w2.heap.size := ⟨_, rfl⟩
  rw [← hB5]
  have h5 : W2.heap[B5]? = some (.cells #[.string c.op, .string c.name, .slice A2 n k2, .string c.text] 25 (0, 0)) := by rw [hW2, hB5]; exact heap_alloc_new _ _
  have HC5 := Lib.hid h5
  have HK3 : Hid (Below W0.heap.size W0 W2) := Lib.hid (by rw [hW2]; exact HK2.out.alloc HK2.out.size _)
  have HO3 : Hid (W2.ownsRow W0.heap.size 2 1 (.slice A2 n k2) n (c.args.map (Value.int .i64))) := Lib.hid (by rw [hW2]; exact World.ownsRow.alloc HO2.out _)
  have hb5 : W0.heap.size ≤ B5 := by rw [hB5]; exact HK2.out.size
  have HNB : Hid (∀ g, (Value.slice A2 n k2).ownBlock = some g → g < B5) := Lib.hid fun g hg => by rw [hB5]; exact (HO2.out.lt g hg).2
  have hq5 := cells4 h5
  have hs3 := HK3.out.size
  clear hW2 hB5 h5 HO2 HK2
  have HLA := HLN.out
  have HOL : Hid (W2.ownsRow W0.heap.size 2 1 (.slice A2 n k2) c.args.length (c.args.map (Value.int .i64))) := Lib.hid (by rw [HLN.out]; exact HO3.out)
  clear HLA
  go_wp2_with (at_builtin; refine app_a64 rfl _ _ rfl W0.heap.size (.slice A2 n k2) c.args rfl (World.ownsRow.alloc HOL.out _) _ 1 1 [77] rfl (lit_rd W2 77) (by rw [HLN.out]; omega) (by simp; omega) ?_)
  intro A3 c3 W3 hown hg hb
  have hcap3 := own_cap hown
  rw [HLN.out] at hown hcap3
  have hbk : ∀ g, g < W2.heap.size → some g ≠ (Value.slice A2 n k2).ownBlock → W3.heap[g]? = W2.heap[g]? := fun g h1 h2 => (hg.block g (by simp; omega) h2).trans (by
    show (W2.heap.push _)[g]? = _
    rw [Array.getElem?_push, if_neg (Nat.ne_of_lt h1)])
  have h53 : W3.heap[B5]? = some (.cells #[.string c.op, .string c.name, .slice A2 n k2, .string c.text] 25 (0, 0)) := (hbk B5 (Array.getElem?_eq_some_iff.1 HC5.out).1 (fun e => by have := HNB.out _ e.symm; omega)).trans HC5.out
  have HK4 : Hid (Below W0.heap.size W0 W3) := Lib.hid (HK3.out.trans (((Below.refl W0.heap.size W2).alloc hs3 _).grown hg (by simp; omega) (fun g hk => (HO3.out.lt g hk).1)))
  have HO4 : Hid (W3.ownsRow W0.heap.size 2 1 (.slice A3 (n + 1) c3) (n + 1) ((c.args ++ [77]).map (Value.int .i64))) := Lib.hid (by rw [List.map_append]; exact hown)
  have c52 : W3.cell? ⟨B5, 2, none⟩ = some (.slice A2 n k2) := by rw [cell_of_row _ _ _ _ _ _ h53]; rfl
  have f52 : W3.frozen? ⟨B5, 2, none⟩ = false := by simp [World.frozen?, h53]
  have H53 := Lib.hid h53
  have hB5 : B5 < W3.heap.size := (Array.getElem?_eq_some_iff.1 h53).1
  have HGO : Hid (∀ g, (Value.slice A3 (n + 1) c3).ownBlock = some g → g ≠ B5) := Lib.hid fun g hk e => by
    subst e
    obtain ⟨_, cs, h2⟩ := ownE_block hown hk
    rw [h53] at h2
    injection h2 with h2
    injection h2 with _ h2
    exact absurd h2 (by decide)
  clear hown hg hb hbk hq5 h53 HOL HO3
  rw [HLN.out]
  go_upto_region 5 with (fail)
  obtain ⟨W4, hW4⟩ : ∃ W4, W4 = W3.setCell ⟨B5, 2, none⟩ (.slice A3 (n + 1) c3) := ⟨_, rfl⟩
  rw [← hW4]
  have h54 : W4.heap[B5]? = some (.cells #[.string c.op, .string c.name, .slice A3 (n + 1) c3, .string c.text] 25 (0, 0)) := by rw [hW4, heap_setCell_same W3 _ 2 _ _ _ H53.out]; rfl
  have HK5 : Hid (Below W0.heap.size W0 W4) := Lib.hid (by rw [hW4]; exact Below.setCell (p := ⟨B5, 2, none⟩) HK4.out hb5 _)
  have HO5 : Hid (W4.ownsRow W0.heap.size 2 1 (.slice A3 (n + 1) c3) (n + 1) ((c.args ++ [77]).map (Value.int .i64))) := Lib.hid (by
    rw [hW4]
    exact ownE_keep HO4.out fun g hk => set_oth _ _ _ _ _ (fun e => HGO.out g hk e.symm))
  have H54 := Lib.hid h54
  have hq5 := cells4 h54
  clear hW4 h54 c52 f52 HO4 HK4 H53
  go_upto_region 6 with (fail)
  obtain ⟨W5, hW5⟩ : ∃ W5, W5 = W4.alloc (.cells #[.string c.op, .string c.name, .slice A3 (n + 1) c3, .string c.text] 25) := ⟨_, rfl⟩
  rw [← hW5]
  obtain ⟨B6, hB6⟩ : ∃ B6, B6 = W4.heap.size := ⟨_, rfl⟩
  rw [← hB6]
  have h65 : W5.heap[B6]? = some (.cells #[.string c.op, .string c.name, .slice A3 (n + 1) c3, .string c.text] 25 (0, 0)) := by rw [hW5, hB6]; exact heap_alloc_new _ _
  have h55 : W5.heap[B5]? = some (.cells #[.string c.op, .string c.name, .slice A3 (n + 1) c3, .string c.text] 25 (0, 0)) := by rw [hW5]; exact heapN_old H54.out
  have HK6 : Hid (Below W0.heap.size W0 W5) := Lib.hid (by rw [hW5]; exact HK5.out.alloc HK5.out.size _)
  have HR5 : Hid (Rd W5 1 A3 (n + 1) ((c.args ++ [77]).map (Value.int .i64))) := Lib.hid (by rw [hW5]; exact (Rd.of_own HO5.out).alloc _)
  have hb56 : B5 < B6 := by rw [hB6]; exact (Array.getElem?_eq_some_iff.1 H54.out).1
  have hb6 : W0.heap.size ≤ B6 := by omega
  have HGB : Hid (∀ b off, A3 = some ⟨b, off, none⟩ → b < B6) := Lib.hid fun b off e => by
    subst e
    obtain ⟨b', off', e2, hx⟩ := rdI_at (Rd.of_own HO5.out) 0 (by simp)
    injection e2 with e2
    injection e2 with e2 _
    subst e2
    rw [hB6]
    exact World.block_lt_of_cell? _ _ hx
  obtain ⟨A4, hcut4, hr4⟩ := cut_h64 HR5.out c3 hcap3 n (by omega)
  rw [← List.map_take, List.take_append_of_le_length (by rw [HLN.out]; exact Nat.le_refl _), List.take_of_length_le (by rw [HLN.out]; exact Nat.le_refl _)] at hr4
  have HR4 := Lib.hid hr4
  have H65 := Lib.hid h65
  have H55 := Lib.hid h55
  have hq5 := cells4 h55
  have hq6 := cells4 h65
  have hq0 := cells4 ((HK6.out.block _ hn0).trans HC0.out)
  clear hW5 hB6 h65 h55 hr4 HO5 HK5 H54
  go_upto_region 7 with (fail)
  obtain ⟨V, hV⟩ : ∃ V, V = W5.setCell ⟨B6, 2, none⟩ (.slice A4 n c3) := ⟨_, rfl⟩
  rw [← hV]
  have hV6 : V.heap[B6]? = some (.cells #[.string c.op, .string c.name, .slice A4 n c3, .string c.text] 25 (0, 0)) := by rw [hV, heap_setCell_same W5 _ 2 _ _ _ H65.out]; rfl
  have hV5 : V.heap[B5]? = some (.cells #[.string c.op, .string c.name, .slice A3 (n + 1) c3, .string c.text] 25 (0, 0)) := by rw [hV, set_oth _ _ _ _ _ (by omega)]; exact H55.out
  have HKV : Hid (Below W0.heap.size W0 V) := Lib.hid (by rw [hV]; exact Below.setCell (p := ⟨B6, 2, none⟩) HK6.out hb6 _)
  have kc : ∀ p u, p.block < B6 → W5.cell? p = some u → V.cell? p = some u := fun p u hp hu => by
    rw [hV, ← hu]
    unfold World.cell?
    rw [set_oth _ _ _ _ _ (by omega)]
  have HRV : Hid (Rd V 1 A3 (n + 1) ((c.args ++ [77]).map (Value.int .i64))) := Lib.hid ⟨HR5.out.1, fun hp => by
    obtain ⟨b, off, e, hc⟩ := HR5.out.2 hp
    exact ⟨b, off, e, fun j u hu => kc _ _ (HGB.out b off e) (hc j u hu)⟩⟩
  have HRV4 : Hid (Rd V 1 A4 n (c.args.map (Value.int .i64))) := Lib.hid (by
    obtain ⟨A5, hc5, hr5⟩ := cut_h64 HRV.out c3 hcap3 n (by omega)
    have e : (Value.slice A4 n c3) = .slice A5 n c3 := by
      have h1 := hcut4 V
      rw [hc5 V] at h1
      injection h1 with h1 _
      exact h1.symm
    injection e with e
    subst e
    rw [← List.map_take, List.take_append_of_le_length (by rw [HLN.out]; exact Nat.le_refl _), List.take_of_length_le (by rw [HLN.out]; exact Nat.le_refl _)] at hr5
    exact hr5)
  have HV5 := Lib.hid hV5
  have HV6 := Lib.hid hV6
  have hq6 := cells4 hV6
  have hn3 : n ≤ c3 := by omega
  have hl0 : Nc < V.heap.size := Nat.lt_of_lt_of_le hn0 HKV.out.size
  have hl5 : B5 < V.heap.size := (Array.getElem?_eq_some_iff.1 hV5).1
  have hl6 : B6 < V.heap.size := (Array.getElem?_eq_some_iff.1 hV6).1
  have HCV := Lib.hid ((HKV.out.block _ hn0).trans HC0.out)
  have HWV : Hid (∀ W, Below V.heap.size V W → Below w.heap.size w W) := Lib.hid fun W hW => HW.out _ (HKV.out.trans (hW.mono HKV.out.size))
  clear hV hV5 hV6 kc hcut4 hq5 hq0 H65 H55 HR4 HR5 HGB HC0 HK6 HK3 HC5
  go_wp2_with fail
  refine (WR.out V (HW.out _ HKV.out) A4 c3 HRV4.out hn3).mono ?_
  rintro e w7 ⟨rfl, hb7⟩
  have HK7 := Lib.hid hb7
  clear hb7 hq6
  go_wp2_with fail
  refine (P1.out w7 (HWV.out _ HK7.out)).mono ?_
  rintro e w8 ⟨hb8, A7, c7, rfl, ho8⟩
  have HK8 : Hid (Below V.heap.size V w8) := Lib.hid (HK7.out.trans (hb8.mono HK7.out.size))
  have HO8 := Lib.hid (own_mono ho8 HK7.out.size)
  clear hb8 ho8 HK7
  go_upto_region 9 with (fail)
  obtain ⟨W8, hW8⟩ : ∃ W8, W8 = w8.alloc (.cells #[.string xo, .string xn, .slice A7 m c7, .string xt] 25) := ⟨_, rfl⟩
  rw [← hW8]
  obtain ⟨B7, hB7⟩ : ∃ B7, B7 = w8.heap.size := ⟨_, rfl⟩
  rw [← hB7]
  have HC7 : Hid (W8.heap[B7]? = some (.cells #[.string xo, .string xn, .slice A7 m c7, .string xt] 25 (0, 0))) := Lib.hid (by rw [hW8, hB7]; exact heap_alloc_new _ _)
  have HK9 : Hid (Below V.heap.size V W8) := Lib.hid (by rw [hW8]; exact HK8.out.alloc HK8.out.size _)
  have HO9 : Hid (W8.ownsRow V.heap.size 2 1 (.slice A7 m c7) m (xa.map (Value.int .i64))) := Lib.hid (by rw [hW8]; exact World.ownsRow.alloc HO8.out _)
  have HX7 : Hid (∀ g, (Value.slice A7 m c7).ownBlock = some g → g < B7) := Lib.hid fun g hk => by rw [hB7]; exact (HO8.out.lt g hk).2
  have hl7 : V.heap.size ≤ B7 := by rw [hB7]; exact HK8.out.size
  have hB7s : B7 < W8.heap.size := (Array.getElem?_eq_some_iff.1 HC7.out).1
  clear hW8 hB7 HK8 HO8
  go_wp2_with fail
  refine (P1.out W8 (HWV.out _ HK9.out)).mono ?_
  rintro e w9 ⟨hb9, A9, c9, rfl, ho9⟩
  have HJ9 := Lib.hid hb9
  have HO19 := Lib.hid ho9
  clear hb9 ho9 P1
  go_upto_region 10 with (fail)
  obtain ⟨U, hU⟩ : ∃ U, U = w9.alloc (.cells #[.string xo, .string xn, .slice A9 m c9, .string xt] 25) := ⟨_, rfl⟩
  rw [← hU]
  obtain ⟨B9, hB9⟩ : ∃ B9, B9 = w9.heap.size := ⟨_, rfl⟩
  rw [← hB9]
  have HC9 : Hid (U.heap[B9]? = some (.cells #[.string xo, .string xn, .slice A9 m c9, .string xt] 25 (0, 0))) := Lib.hid (by rw [hU, hB9]; exact heap_alloc_new _ _)
  have HJU : Hid (Below W8.heap.size W8 U) := Lib.hid (by rw [hU]; exact HJ9.out.alloc HJ9.out.size _)
  have HKU : Hid (Below V.heap.size V U) := Lib.hid (HK9.out.trans (HJU.out.mono HK9.out.size))
  have HOY : Hid (U.ownsRow W8.heap.size 2 1 (.slice A9 m c9) m (xa.map (Value.int .i64))) := Lib.hid (by rw [hU]; exact World.ownsRow.alloc HO19.out _)
  have HOX : Hid (U.ownsRow V.heap.size 2 1 (.slice A7 m c7) m (xa.map (Value.int .i64))) := Lib.hid (own_below' HO9.out HJU.out)
  have HC7U : Hid (U.heap[B7]? = some (.cells #[.string xo, .string xn, .slice A7 m c7, .string xt] 25 (0, 0))) := Lib.hid ((HJU.out.block _ hB7s).trans HC7.out)
  have hl9 : W8.heap.size ≤ B9 := by rw [hB9]; exact HJ9.out.size
  clear hU hB9 HJ9 HO19 HC7 HO9 HK9
  have hqx := cells4 HC7U.out
  go_upto_block 0 with (fail)
  go_cut [11] from 46 to 53 (fun _ wx => Hid (Turns (fun g => (Value.slice A7 m c7).ownBlock = some g) U wx))
  case first =>
    clear hqx
    go_wp2_with fail
    go_loopw [11, 46] (fun _ t wr => ∃ i : Nat, i ≤ m ∧ t = .int .i64 i ∧ Hid (Turns (fun g => (Value.slice A7 m c7).ownBlock = some g) U wr) ∧ Hid (0 < m → ∃ gx, A7 = some ⟨gx, 0, none⟩ ∧ RowT wr 2 gx (m * 1))) (fun _ t _ => m - (intOf t).toNat)
    case atStart => exact ⟨0, Nat.zero_le _, rfl, Lib.hid (Turns.refl _ _), Lib.hid (fun hp => by
      obtain ⟨gx, e, _, _, hr⟩ := own_rowT HOX.out hp
      exact ⟨gx, e, hr⟩)⟩
    case round =>
      obtain ⟨i, hi, rfl, HT, HRT⟩ := hrel
      by_cases h1 : i < m
      · obtain ⟨gx, rfl, hrow⟩ := HRT.out (by omega)
        have hB7x : ¬ ((Value.slice (some ⟨gx, 0, none⟩) m c7).ownBlock = some B7) := fun e => by have := HX7.out _ e; omega
        have hqx := cells4 ((HT.out.block _ (Array.getElem?_eq_some_iff.1 HC7U.out).1 hB7x).trans HC7U.out)
        obtain ⟨⟨u, hu⟩, hf⟩ := RowT.cell hrow (i := i) (by omega)
        have hlt : (i : Int) < (m : Int) := by omega
        have HT2 : Hid (Turns (fun g => (Value.slice (some ⟨gx, 0, none⟩) m c7).ownBlock = some g) U (wr.setCell ⟨gx, i, none⟩ (.int .i64 (-1)))) := Lib.hid (HT.out.set rfl i _)
        have HR2 : Hid (0 < m → ∃ gy, (some (⟨gx, 0, none⟩ : Addr)) = some ⟨gy, 0, none⟩ ∧ RowT (wr.setCell ⟨gx, i, none⟩ (.int .i64 (-1))) 2 gy (m * 1)) := Lib.hid fun _ => ⟨gx, rfl, hrow.set i _⟩
        clear hrow HRT HT hB7x
        go_wp2
        go_roundw
        case rel => exact ⟨i + 1, by omega, by go_num, HT2, HR2⟩
        case measure =>
          simp only [intOf]
          omega
      · have hi2 : i = m := by omega
        clear HRT
        go_wp2
        go_meet
        exact HT
  case rest =>
    have HT := hcut
    clear hqx hcut
    have hno : ∀ g, (g < V.heap.size ∨ B7 ≤ g) → ¬ ((Value.slice A7 m c7).ownBlock = some g) := fun g hg e => by
      have h1 := (HOX.out.lt g e).1
      have h2 := HX7.out g e
      omega
    have HKT : Hid (Below V.heap.size V wc) := Lib.hid ⟨HT.out.os.trans HKU.out.os, HT.out.tape.trans HKU.out.tape, HT.out.output.trans HKU.out.output, Nat.le_trans HKU.out.size HT.out.size, fun g hg => (HT.out.block g (Nat.lt_of_lt_of_le hg HKU.out.size) (hno g (.inl hg))).trans (HKU.out.block g hg)⟩
    have HC9T : Hid (wc.heap[B9]? = some (.cells #[.string xo, .string xn, .slice A9 m c9, .string xt] 25 (0, 0))) := Lib.hid ((HT.out.block B9 (Array.getElem?_eq_some_iff.1 HC9.out).1 (hno B9 (.inr (by omega)))).trans HC9.out)
    have HRY : Hid (Rd wc 1 A9 m (xa.map (Value.int .i64))) := Lib.hid (Rd.of_own (ownE_keep HOY.out fun g hk => HT.out.block g (ownE_block HOY.out hk).1 (hno g (.inr (by have := (HOY.out.lt g hk).1; omega)))))
    clear hno HOX HOY HC9 HC7U HKU HJU HT HX7
    go_wp2_with fail
    refine (P2.out wc).mono ?_
    rintro e w11 ⟨hb11, A12, c12, rfl, ho12⟩
    have HJ12 := Lib.hid hb11
    have HO12 := Lib.hid ho12
    clear hb11 ho12 P2
    go_upto_region 16 with (fail)
    obtain ⟨Z, hZ⟩ : ∃ Z, Z = w11.alloc (.cells #[.string xo, .string xn, .slice A12 m c12, .string xt] 25) := ⟨_, rfl⟩
    rw [← hZ]
    obtain ⟨B12, hB12⟩ : ∃ B12, B12 = w11.heap.size := ⟨_, rfl⟩
    rw [← hB12]
    have hC12 : Z.heap[B12]? = some (.cells #[.string xo, .string xn, .slice A12 m c12, .string xt] 25 (0, 0)) := by rw [hZ, hB12]; exact heap_alloc_new _ _
    have HJZ : Hid (Below wc.heap.size wc Z) := Lib.hid (by rw [hZ]; exact HJ12.out.alloc HJ12.out.size _)
    have HKZ : Hid (Below V.heap.size V Z) := Lib.hid (HKT.out.trans (HJZ.out.mono HKT.out.size))
    have HRW : Hid (Rd Z 1 A12 m (xa.map (Value.int .i64))) := Lib.hid (by rw [hZ]; exact (Rd.of_own HO12.out).alloc _)
    have HRYZ : Hid (Rd Z 1 A9 m (xa.map (Value.int .i64))) := Lib.hid (HRY.out.below HJZ.out)
    have hq12 := cells4 hC12
    have hq9 := cells4 ((HJZ.out.block _ (Array.getElem?_eq_some_iff.1 HC9T.out).1).trans HC9T.out)
    have hq5 := cells4 ((HKZ.out.block _ hl5).trans HV5.out)
    have hq6 := cells4 ((HKZ.out.block _ hl6).trans HV6.out)
    have hq0 := cells4 ((HKZ.out.block _ hl0).trans HCV.out)
    obtain ⟨b3, off3, rfl, hx3⟩ := rdI_at (HRV.out.below HKZ.out) n (by rw [List.length_append, HLN.out]; simp)
    have h77 : (c.args ++ [77])[n]'(by rw [List.length_append, HLN.out]; simp) = 77 := by
      have hl := HLN.out
      subst hl
      simp
    rw [h77] at hx3
    have hnn : (n : Int) < ((n + 1 : Nat) : Int) := by omega
    have S1 : Hid (∀ W, Below Z.heap.size Z W → Calls Tryz.prog 10 #[.agg #[.string c.op, .string c.name, .slice A4 n c3, .string c.text], .agg #[.string c.op, .string c.name, .slice A n k, .string c.text]] W fun e w' => e = .returned (.bool true) ∧ Below W.heap.size W w') := Lib.hid fun W hW => Same_b (c := c) (k := c3) (k' := k) c HLN.out HLN.out ((HRV4.out.below HKZ.out).below hW) (((HR0.out.below HKV.out).below HKZ.out).below hW) (by omega) (by omega) ⟨rfl, rfl, rfl, rfl⟩
    have S2 : Hid (∀ W, Below Z.heap.size Z W → Calls Tryz.prog 10 #[.agg #[.string xo, .string xn, .slice A9 m c9, .string xt], .agg #[.string xo, .string xn, .slice A12 m c12, .string xt]] W fun e w' => e = .returned (.bool true) ∧ Below W.heap.size W w') := Lib.hid fun W hW => Same_b (c := ⟨xo, xn, xt, xa⟩) (k := c9) (k' := c12) ⟨xo, xn, xt, xa⟩ HM.out HM.out (HRYZ.out.below hW) (HRW.out.below hW) (by omega) (by omega) ⟨rfl, rfl, rfl, rfl⟩
    have HC12 := Lib.hid hC12
    have hlz12 : B12 < Z.heap.size := (Array.getElem?_eq_some_iff.1 hC12).1
    have HC9Z : Hid (Z.heap[B9]? = some (.cells #[.string xo, .string xn, .slice A9 m c9, .string xt] 25 (0, 0))) := Lib.hid ((HJZ.out.block _ (Array.getElem?_eq_some_iff.1 HC9T.out).1).trans HC9T.out)
    have hlz9 : B9 < Z.heap.size := (Array.getElem?_eq_some_iff.1 HC9Z.out).1
    clear hZ hB12 hC12 h77 HO12 HJ12
    go_wp2_with fail
    refine (S1.out Z (Below.refl _ _)).mono ?_
    rintro e w12 ⟨rfl, hb12⟩
    have HB12 := Lib.hid hb12
    have hr9 := cells4 ((hb12.block _ hlz9).trans HC9Z.out)
    have hr12 := cells4 ((hb12.block _ hlz12).trans HC12.out)
    clear hb12 hq12 hq9 hq5 hq6 hq0
    go_wp2_with fail
    refine (S2.out w12 HB12.out).mono ?_
    rintro e w13 ⟨rfl, hb13⟩
    have HB13 : Hid (Below w.heap.size w w13) := Lib.hid (HWV.out _ (HKZ.out.trans ((HB12.out.trans (hb13.mono HB12.out.size)).mono HKZ.out.size)))
    clear hb13
    go_wp2
    go_ret
    exact ⟨rfl, by first | exact HB13.out | (rw [HZ.out]; exact HB13.out)⟩
end Go.Proofs.YthlgjbmkealjjaaGreatDoor
