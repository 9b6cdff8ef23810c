/-
  The walk of KeysOwn.
-/
import Derived.Test.YtbblpehehgeebaaDoorKeyK
import Derived.Test.YtbblpehehgeebaaDoorKeyB
import Derived.Test.YtbblpehehgeebaaDoorKeyZ
import Derived.Test.YtbblpehehgeebaaDoorKeyR2
import Derived.Test.YtbblpehehgeebaaDoorKeysBack
namespace Go.Proofs.YtbblpehehgeebaaDoor
open Go.RowKit
set_option linter.unusedVariables false

theorem OwnPt.alloc {w : World} {base : Nat} {v : Value} {ps : List PartV} (h : OwnPt w base v ps) (o : Obj) : OwnPt (w.alloc o) base v ps :=
  h.same fun g hg => ((Below.refl w.heap.size w).alloc (Nat.le_refl _) o).block g (h.block g hg).2
theorem OwnPt.at {w : World} {base : Nat} {A : Option Addr} {m c : Nat} {ps : List PartV} (h : OwnPt w base (.slice A m c) ps) : ∀ a, A = some a → ∃ g, a = ⟨g, 0, none⟩ ∧ base ≤ g ∧ g < w.heap.size := by
  intro a ha
  rcases h.2 with ⟨hv, _⟩ | ⟨g', cap, cur, hv, hg, hh, _⟩
  · injection hv with e1 e2 e3
    rw [ha] at e1
    cases e1
  · injection hv with e1 e2 e3
    rw [ha] at e1
    injection e1 with e1
    exact ⟨g', e1, hg, heap_lt' hh⟩
theorem part_rd (W : World) (k : Int) : RdPt (W.alloc (.cells #[.bool false, .int .i64 k, .string ⟨#[]⟩] 40)) (some ⟨W.heap.size, 0, none⟩) 1 [⟨false, k, []⟩] := by
  refine ⟨rfl, fun _ => ⟨W.heap.size, 0, rfl, fun j hj => ?_⟩⟩
  obtain rfl : j = 0 := by simp at hj; omega
  refine ⟨?_, ?_, ?_⟩ <;> (rw [cell_of_row _ _ _ _ _ _ (heap_alloc_new W _)]; rfl)
theorem cut_hb (g n c j : Nat) (hj : j ≤ n) (hn : n ≤ c) (W : World) : (Instr.slice 24 (.slice (some ⟨g, 0, none⟩) n c) none (some (.int .i64 (j : Int))) none).run Tryd.prog W = .ok (.slice (some ⟨g, 0, none⟩) j c) W := by
  rw [run_slice_h W 24 _ n c elemUnd .i64 _ (by omega) (by omega), elemSize]
  simp [Result.andThen, sliced, Addr.add]
theorem NewR.rowB {w : World} {base : Nat} {v : Value} {xs : List UInt8} (h : NewR base w v xs) :
    ∃ A m c, v = .slice A m c ∧ m ≤ c ∧ c ≤ maxLen ∧ RowB w base m A xs ∧ (∀ a, A = some a → ∃ g, a = ⟨g, 0, none⟩ ∧ base ≤ g ∧ g < w.heap.size) := by
  obtain ⟨A, m, c, rfl, h1, h2, h3, h4⟩ := h.ex
  refine ⟨A, m, c, rfl, h1, h2, ⟨h3, h4⟩, fun a ha => ?_⟩
  obtain ⟨g, cs, e, h5, h6, _⟩ := h4 a ha
  exact ⟨g, e, h5, h6⟩
set_option maxHeartbeats 4000000 in
set_option maxRecDepth 20000 in
theorem KeysOwn_walk (A : Option Addr) (n c : Nat) (A' : Option Addr) (n' c' : Nat) (w : World) (hm : MaxLen w) (ps : List PartV) (h : RdPt w A n ps) (hn : n ≤ c) (hc : c ≤ 1048576) (hok : ∀ q ∈ ps, q.ok) (hlt : ∀ q ∈ ps, q.text.length ≤ 9223372036854775807)
    (xs : List UInt8) (h' : RdB w A' n' xs) (hn' : n' ≤ c') (hc' : c' ≤ 1048576) :
    Calls Tryd.prog 6 #[.slice A n c, .slice A' n' c'] w fun e w' => e = .returned (.bool true) ∧ Below w.heap.size w w' := by
  have WK := Lib.hid (wakes_any w hm)
  have h0 : 0 < w.heap.size := by
    obtain ⟨m, hm⟩ := hm
    exact World.block_lt_of_cell? w ⟨0, 0, none⟩ hm
  have hl := h.len
  have hl' := h'.len
  have HX := Lib.hid h
  have HY := Lib.hid h'
  have HOK := Lib.hid hok
  have HLT := Lib.hid hlt
  have HM := Lib.hid hm
  have HBN : Hid (n ≤ 1048576 ∧ n' ≤ 1048576 ∧ ps.length = n ∧ xs.length = n') := Lib.hid (by omega)
  clear hm h hok hlt h' hl hl'
  go_enter Tryd.func6, Tryd.ntmps6
  go_wp2_with fail
  refine WK.out.mono ?_
  rintro e w1 ⟨rfl, hb1⟩
  have HB1 := Lib.hid hb1
  clear hb1 WK
  go_wp2_with fail
  refine (parts_any A n c ps w1 (HX.out.below HB1.out) (by omega)).mono ?_
  rintro e w2 ⟨v2, rfl, hv2, hb2⟩
  have HB2 := Lib.hid (HB1.out.trans (hb2.mono HB1.out.size))
  have HV2 := Lib.hid (hv2.lower HB1.out.size)
  clear hv2 hb2
  go_wp2_with (at_builtin; refine app_pt rfl _ _ rfl w.heap.size _ ps rfl (HV2.out.alloc _) (some ⟨w2.heap.size, 0, none⟩) 1 1 [⟨false, 77, []⟩] rfl (part_rd w2 77) ?c1 ?c2 ?_)
  case c1 => have := HBN.out; omega
  case c2 => have := HB2.out.size; simp; omega
  intro v3 w3 hv3 hb3 _
  have HB3 := Lib.hid ((HB2.out.alloc HB2.out.size _).trans hb3)
  obtain ⟨A3, c3, rfl, hc3, hr3⟩ := hv3.form
  have hrow3 := hv3.rowP
  have e3 : (ps ++ [(⟨false, 77, []⟩ : PartV)]).length = n + 1 := by have := HBN.out; simp; omega
  rw [e3] at hr3 hc3 hrow3
  obtain ⟨g3, cs3, rfl, hg3, hgs3, _⟩ := hrow3.ex (by omega)
  have HR3 := Lib.hid hr3
  clear hv3 hb3 hr3 hrow3 HV2
  rw [e3]
  clear e3
  go_wp2_with fail
  refine (own_any A' n' c' w3 xs (HY.out.below HB3.out) (by have := HBN.out; omega)).mono ?_
  rintro e w4 ⟨v4, rfl, hv4, hb4⟩
  have HB4 := Lib.hid hb4
  have HV4 := Lib.hid hv4
  clear hv4 hb4
  go_wp2_with (at_builtin; refine app_u8 rfl _ _ rfl w3.heap.size _ xs rfl (HV4.out.alloc _) _ 1 1 [78] rfl (RdB.lit w4 _ _ rfl 1 rfl) ?c3 ?c4 ?_)
  case c3 => have := HBN.out; omega
  case c4 => exact Nat.le_trans HB4.out.size (by simp)
  intro v5 w5 hv5 hb5 _
  have HB35 : Hid (Below w3.heap.size w3 w5) := Lib.hid ((HB4.out.alloc HB4.out.size _).trans hb5)
  have HB5 := Lib.hid (HB3.out.trans (HB35.out.mono HB3.out.size))
  obtain ⟨A5, m5, c5, rfl, hm5, hmc5, _, hr5, ha5⟩ := hv5.form
  obtain rfl : m5 = n' + 1 := by have := hm5.out; have := HBN.out; simp at *; omega
  have HR5 := Lib.hid hr5
  have HR35 := Lib.hid (HR3.out.below HB35.out)
  clear hv5 hb5 hm5 hr5 HV4 HR3 HB35 HB4
  obtain ⟨b5, o5, rfl⟩ := HR5.out.addr (by simp)
  obtain ⟨g5, e5, hg5, hgs5⟩ := ha5 _ rfl
  injection e5 with e6 e7
  subst e6 e7
  have s3 := cut_hp g3 (n + 1) c3 n (by omega) hc3
  have s5 := cut_hb b5 (n' + 1) c5 n' (by omega) hmc5
  have r3 := HR35.out.pre n (by omega)
  have r5 := HR5.out.pre n' (by omega)
  rw [List.take_left' HBN.out.2.2.1] at r3
  rw [List.take_left' HBN.out.2.2.2] at r5
  have HT3 := Lib.hid r3
  have HT5 := Lib.hid r5
  have EN := Lib.hid fun W (hW : Below w5.heap.size w5 W) => Encode_own (some ⟨g3, 0, none⟩) n c3 ps W (HT3.out.below hW) (by have := HBN.out; omega) HLT.out HOK.out (HM.out.below (HB5.out.trans (hW.mono HB5.out.size)) h0)
  unfold EncOwn at EN
  have ER := Lib.hid fun W (hW : Below w.heap.size w W) => rEncode_any A n c ps W (HX.out.below hW) (by have := HBN.out; omega) HLT.out HOK.out
  unfold REncEnds at ER
  have ND := Lib.hid fun W (hW : Below w5.heap.size w5 W) => Decode_any (some ⟨b5, 0, none⟩) n' c5 xs W (HT5.out.below hW) HBN.out.2.1 (by omega) (fun a ha => by injection ha with ha; subst ha; exact Nat.lt_of_lt_of_le hgs5 hW.size)
  unfold DecEnds at ND
  have NN := Lib.hid fun W (hW : Below w5.heap.size w5 W) => Next_any (some ⟨b5, 0, none⟩) n' c5 W xs (HT5.out.below hW) (by have := HBN.out; omega) (by omega) (fun a ha => by injection ha with ha; subst ha; exact Nat.lt_of_lt_of_le hgs5 hW.size)
  generalize encOf ps = X at *
  obtain ⟨ex, en⟩ := X
  have DL := Lib.hid (decOf_len xs)
  generalize decOf xs = R at *
  obtain ⟨dl, de⟩ := R
  generalize nextL xs = nx at *
  dsimp only at *
  clear r3 r5 HM HLT HOK
  clear ha5
  go_wp2_with fail
  refine (EN.out w5 (Below.refl _ _)).mono ?_
  rintro e w6 ⟨v6, rfl, hv6, hb6⟩
  obtain ⟨A6, m6, c6, rfl, hmc6, hx6, hro6, hg6⟩ := hv6.rowB
  have HB6 := Lib.hid hb6
  have HRO6 := Lib.hid hro6
  have hm6 : m6 ≤ 9223372036854775807 := by unfold maxLen at hx6; omega
  clear hv6 hb6 hro6 hx6 hmc6
  go_wp2_with fail
  refine (EN.out w6 HB6.out).mono ?_
  rintro e w7 ⟨v7, rfl, hv7, hb7⟩
  obtain ⟨A7, m7, c7, rfl, hmc7, hx7, hro7, hg7⟩ := hv7.rowB
  have HB57 := Lib.hid (HB6.out.trans (hb7.mono HB6.out.size))
  have HB7 := Lib.hid hb7
  have HRO7 := Lib.hid hro7
  clear hv7 hb7 hro7 EN hx7 hmc7
  go_wp2_with fail
  refine (NN.out w7 HB57.out).mono ?_
  rintro e w8 ⟨v8, rfl, hv8, hb8⟩
  obtain ⟨A8, m8, c8, rfl, hmc8, hx8, hro8, hg8⟩ := hv8.newR.rowB
  have HB58 := Lib.hid (HB57.out.trans (hb8.mono HB57.out.size))
  have HB8 := Lib.hid hb8
  have HRO8 := Lib.hid hro8
  have hm8 : m8 ≤ 9223372036854775807 := by unfold maxLen at hx8; omega
  clear hv8 hb8 hro8 NN hx8 hmc8
  go_wp2_with fail
  refine (ND.out w8 HB58.out).mono ?_
  rintro e w9 ⟨v9, rfl, hv9, hb9⟩
  obtain ⟨A9, c9, rfl, hc9, _⟩ := hv9.form
  have hg9 := hv9.at
  have hm9 : dl.length ≤ 9223372036854775807 := by have := DL.out; omega
  have HRO9 := Lib.hid hv9.rowP
  have HB59 := Lib.hid (HB58.out.trans (hb9.mono HB58.out.size))
  have HB9 := Lib.hid hb9
  clear hv9 hb9 ND
  go_wp2
  go_loopw [61] (fun i wr => ∃ (k : Nat) (zs : List UInt8), k ≤ m6 ∧ i = .int .i64 k ∧ Hid (RowB wr w5.heap.size m6 A6 zs) ∧ Hid (OnlyA A6 w9 wr)) (fun i _ => m6 - (intOf i).toNat)
  case atStart => exact ⟨0, _, Nat.zero_le _, rfl, Lib.hid ((HRO6.out.below HB7.out).below (HB8.out.trans (HB9.out.mono HB8.out.size))), Lib.hid (OnlyA.refl _ _)⟩
  case round =>
    obtain ⟨wa, rfl⟩ : ∃ x, x = wr := ⟨_, rfl⟩
    obtain ⟨k, zs, hk, rfl, hown, honly⟩ := hrel
    by_cases hlt : k < m6
    · obtain ⟨g, rfl, hgb, ⟨x, hcell⟩, hfr, hset⟩ := hown.out.bump k hlt
      have HSET := Lib.hid hset
      clear hset hown
      go_wp2
      go_roundw
      case rel =>
        obtain ⟨y, hy⟩ := u8_of_intA (((x.toNat : Int) + 1) % 256) (by omega) (by omega)
        rw [hy]
        exact ⟨k + 1, zs.set k y, by omega, by go_num, Lib.hid (HSET.out y), Lib.hid (honly.out.set k _)⟩
      case measure => simp [intOf]; omega
    · clear hk
      have R7 := Lib.hid (honly.out.rowB (HRO7.out.below (HB8.out.trans (HB9.out.mono HB8.out.size))) (apartA hg6 hg7 (Nat.le_refl _)))
      have R8 := Lib.hid (honly.out.rowB (HRO8.out.below HB9.out) (apartA hg6 hg8 HB7.out.size))
      have R9 := Lib.hid (honly.out.rowP HRO9.out (apartA hg6 hg9 (Nat.le_trans HB7.out.size HB8.out.size)))
      have HBA := Lib.hid (honly.out.below HB59.out (aboveA hg6 (Nat.le_refl _)))
      have hsA : w9.heap.size = wa.heap.size := honly.out.size.symm
      clear honly hown HRO7 HRO8 HRO9
      go_wp2
      go_loopw [75] (fun i wr => ∃ (k2 : Nat) (zt : List UInt8), k2 ≤ m8 ∧ i = .int .i64 k2 ∧ Hid (RowB wr w7.heap.size m8 A8 zt) ∧ Hid (OnlyA A8 wa wr)) (fun i _ => m8 - (intOf i).toNat)
      case atStart => exact ⟨0, _, Nat.zero_le _, rfl, R8, Lib.hid (OnlyA.refl _ _)⟩
      case round =>
        obtain ⟨wb, rfl⟩ : ∃ x, x = wr := ⟨_, rfl⟩
        obtain ⟨k2, zt, hk2, rfl, hown, honly⟩ := hrel
        by_cases hlt2 : k2 < m8
        · obtain ⟨g, rfl, hgb, ⟨x, hcell⟩, hfr, hset⟩ := hown.out.bump k2 hlt2
          have HSET := Lib.hid hset
          clear hset hown
          go_wp2
          go_roundw
          case rel =>
            obtain ⟨y, hy⟩ := u8_of_intA (((x.toNat : Int) + 1) % 256) (by omega) (by omega)
            rw [hy]
            exact ⟨k2 + 1, zt.set k2 y, by omega, by go_num, Lib.hid (HSET.out y), Lib.hid (honly.out.set k2 _)⟩
          case measure => simp [intOf]; omega
        · clear hk2
          have S7 := Lib.hid (honly.out.rowB R7.out (fun x y hx hy => (apartA hg7 hg8 (Nat.le_refl _) y x hy hx).symm))
          have S9 := Lib.hid (honly.out.rowP R9.out (apartA hg8 hg9 (Nat.le_refl _)))
          have HBB := Lib.hid (honly.out.below HBA.out (aboveA hg8 HB57.out.size))
          have hsB : w9.heap.size = wb.heap.size := hsA.trans honly.out.size.symm
          clear honly hown R7 R8 R9 HBA
          go_wp2
          go_loopw [89] (fun i wr => ∃ (k3 : Nat), k3 ≤ dl.length ∧ i = .int .i64 k3 ∧ Hid (RowP wr w8.heap.size dl.length A9) ∧ Hid (OnlyA A9 wb wr)) (fun i _ => dl.length - (intOf i).toNat)
          case atStart => exact ⟨0, Nat.zero_le _, rfl, S9, Lib.hid (OnlyA.refl _ _)⟩
          case round =>
            obtain ⟨wc, rfl⟩ : ∃ x, x = wr := ⟨_, rfl⟩
            obtain ⟨k3, hk3, rfl, hown, honly⟩ := hrel
            by_cases hlt3 : k3 < dl.length
            · obtain ⟨g, cs, rfl, hgb, hgs, hh, hsz⟩ := hown.out.ex (by omega)
              have hth := RowP.there hh hsz k3 hlt3
              obtain ⟨u0, q0⟩ := Option.isSome_iff_exists.1 (hth 0 (by omega)).1
              obtain ⟨u1, q1⟩ := Option.isSome_iff_exists.1 (hth 1 (by omega)).1
              obtain ⟨u2, q2⟩ := Option.isSome_iff_exists.1 (hth 2 (by omega)).1
              have f0 := (hth 0 (by omega)).2
              have f1 := (hth 1 (by omega)).2
              have f2 := (hth 2 (by omega)).2
              rw [Nat.add_zero] at q0 f0
              clear hth
              go_wp2
              go_roundw
              case rel =>
                refine ⟨k3 + 1, by omega, by go_num, Lib.hid (RowP.sets hgb hh hsz (k3 * 3) [.bool false, .int .i64 0, .string ⟨#[]⟩]), Lib.hid (honly.out.sets [.bool false, .int .i64 0, .string ⟨#[]⟩] (k3 * 3))⟩
              case measure => simp [intOf]; omega
            · clear hk3
              have T7 := Lib.hid (honly.out.rowB S7.out (fun x y hx hy => (apartA hg7 hg9 HB8.out.size y x hy hx).symm))
              have HBC := Lib.hid (honly.out.below HBB.out (aboveA hg9 HB58.out.size))
              clear honly hown S7 S9 HBB
              have HB0C := Lib.hid (HB5.out.trans (HBC.out.mono HB5.out.size))
              have hq3 := (HR35.out.below HBC.out).ex (by omega)
              have hr5C := HR5.out.below HBC.out
              have hin : wc.cell? ⟨g3, n * 3 + 1, none⟩ = some (.int .i64 77) := by
                obtain ⟨b, off, e, hc⟩ := hq3
                injection e with e
                injection e with e1 e2
                subst e1 e2
                have := (hc n (by rw [List.length_append, HBN.out.2.2.1]; simp)).2.1
                rw [List.getElem_append_right (by rw [HBN.out.2.2.1]; exact Nat.le_refl _)] at this
                simpa using this
              have hby : wc.cell? ⟨b5, n', none⟩ = some (.int .u8 78) := by
                have := hr5C.cells n' (by rw [List.length_append, HBN.out.2.2.2]; simp)
                rw [List.getElem_append_right (by rw [HBN.out.2.2.2]; exact Nat.le_refl _)] at this
                simpa using this
              clear hq3 hr5C
              have hnu : n ≤ 1048576 ∧ n' ≤ 1048576 := by have := HBN.out; omega
              go_wp2_with fail
              refine (ER.out wc HB0C.out).mono ?_
              rintro e wd ⟨vd, rfl, hvd, hbd⟩
              obtain ⟨Ad, md, cd, rfl, hmd, _, _, hrd, _⟩ := hvd.form
              have HBCD := Lib.hid (HBC.out.trans (hbd.mono HBC.out.size))
              have HB0D := Lib.hid (HB5.out.trans (HBCD.out.mono HB5.out.size))
              have SP := Lib.hid (rSame_any (some ⟨g3, 0, none⟩) n c3 ps A n c ps wd (HT3.out.below HBCD.out) (HX.out.below HB0D.out) (by omega) (by omega))
              rw [show decide (ps = ps) = true from decide_eq_true rfl] at SP
              have SY := Lib.hid fun W (hW : Below wd.heap.size wd W) => same_any A7 m7 c7 ex Ad md cd ex W ((T7.out.rd.below hbd).below hW) (hrd.below hW)
              have SB := Lib.hid fun W (hW : Below wd.heap.size wd W) => same_any (some ⟨b5, 0, none⟩) n' c5 xs A' n' c' xs W ((HT5.out.below HBCD.out).below hW) ((HY.out.below HB0D.out).below hW)
              rw [show decide (ex = ex) = true from decide_eq_true rfl] at SY
              rw [show decide (xs = xs) = true from decide_eq_true rfl] at SB
              have hin' : wd.cell? ⟨g3, n * 3 + 1, none⟩ = some (.int .i64 77) := (hbd.cell (p := ⟨g3, n * 3 + 1, none⟩) (World.block_lt_of_cell? wc ⟨g3, n * 3 + 1, none⟩ hin)).trans hin
              have hby' : wd.cell? ⟨b5, n', none⟩ = some (.int .u8 78) := (hbd.cell (p := ⟨b5, n', none⟩) (World.block_lt_of_cell? wc ⟨b5, n', none⟩ hby)).trans hby
              clear hvd hrd ER hin hby hmd
              go_wp2_with fail
              refine SP.out.mono ?_
              rintro e we ⟨rfl, hd⟩
              have hbe := Lib.hid hd.below
              have hby'' : we.cell? ⟨b5, n', none⟩ = some (.int .u8 78) := (hbe.out.cell (p := ⟨b5, n', none⟩) (World.block_lt_of_cell? wd ⟨b5, n', none⟩ hby')).trans hby'
              clear hd SP hin' hby'
              go_wp2_with fail
              refine (SB.out we hbe.out).mono ?_
              rintro e wf ⟨rfl, rfl⟩
              go_wp2_with fail
              refine (SY.out we hbe.out).mono ?_
              rintro e wf ⟨rfl, rfl⟩
              go_wp2
              go_ret
              exact ⟨rfl, HB0D.out.trans (hbe.out.mono HB0D.out.size)⟩
end Go.Proofs.YtbblpehehgeebaaDoor
