/-
  The walk of BlockFinds.
-/
import Derived.Test.YthaciglechijkaaBlkN
namespace Go.Proofs.Ythaciglechijkaa
open Go.RowKit
set_option linter.unusedVariables false

set_option maxRecDepth 100000 in
set_option maxHeartbeats 2000000 in
theorem BlockFinds_walk (A : Option Addr) (n c : Nat) (A' : Option Addr) (n' c' : Nat) (w : World) (xs : List UInt8) (h : RdB w A n xs) (hn : n ≤ c) (hc : c ≤ 140737488351232) (ys : List UInt8) (h' : RdB w A' n' ys) (hn' : n' ≤ c') (hc' : c' ≤ 140737488351232) :
    Calls Try.prog 4 #[.slice A n c, .slice A' n' c'] w fun e w' => e = .returned (.bool true) ∧ Below w.heap.size w w' := by
  have HX := Lib.hid h
  have HY := Lib.hid h'
  have WK := Lib.hid (wakes_any w)
  obtain rfl : xs.length = n := h.len
  obtain rfl : ys.length = n' := h'.len
  clear h h'
  go_enter Try.func4, Try.ntmps4
  go_wp2_with fail
  refine WK.out.mono ?_
  rintro e w1 ⟨rfl, hb1⟩
  have HB1 := Lib.hid hb1
  have HX1 := Lib.hid (HX.out.below hb1)
  have HY1 := Lib.hid (HY.out.below hb1)
  clear hb1 WK
  go_wp2_with fail
  refine (own_any A xs.length c w1 xs HX1.out (by omega)).mono ?_
  rintro e w2 ⟨v, rfl, hv, hb2⟩
  obtain ⟨A2, m2, c2, rfl, HM2, hm2, _, hr2, _⟩ := hv.form
  obtain rfl := HM2.out
  have HB2 := Lib.hid (HB1.out.trans (hb2.mono HB1.out.size))
  have HR2 := Lib.hid hr2
  have HY2 := Lib.hid (HY1.out.below hb2)
  have HX2 := Lib.hid (HX1.out.below hb2)
  clear hv hb2 hr2 HM2
  go_wp2_with fail
  refine (own_any A' ys.length c' w2 ys HY2.out (by omega)).mono ?_
  rintro e w3 ⟨v, rfl, hv, hb3⟩
  obtain ⟨A3, m3, c3, rfl, HM3, hm3, _, hr3, _⟩ := hv.form
  obtain rfl := HM3.out
  have HB3 := Lib.hid (HB2.out.trans (hb3.mono HB2.out.size))
  have HF := Lib.hid (Find_any A2 xs.length c2 A3 ys.length c3 w3 xs ys (HR2.out.below hb3) hr3 (by omega) hm2)
  have HG := Lib.hid (fun W hW hW' => rFind_any A xs.length c A' ys.length c' W xs ys hW hW' (by omega) hn)
  have HY3 := Lib.hid (HY2.out.below hb3)
  have HX3 := Lib.hid (HX2.out.below hb3)
  clear hv hb3 hr3 HM3 HR2 HX2 HY2
  generalize findOf xs ys = R at *
  obtain ⟨bs, fo, er⟩ := R
  go_wp2_with fail
  refine HF.out.mono ?_
  rintro e w4 ⟨vf, rfl, hvf, hb4⟩
  obtain ⟨A4, m4, c4, rfl, _, _, _, hr4, _⟩ := hvf.form
  have HR4 := Lib.hid hr4
  have HX4 := Lib.hid (HX3.out.below hb4)
  have HY4 := Lib.hid (HY3.out.below hb4)
  have HB4 := Lib.hid (HB3.out.trans (hb4.mono HB3.out.size))
  clear hvf hb4 hr4 HF
  go_wp2_with fail
  refine (HG.out w4 HX4.out HY4.out).mono ?_
  rintro e w5 ⟨vr, rfl, hvr, hb5⟩
  obtain ⟨A5, m5, c5, rfl, _, hr5, _⟩ := hvr.ex
  have SM := Lib.hid (same_any A4 m4 c4 _ A5 m5 c5 _ w5 (HR4.out.below hb5) hr5)
  have HB5 := Lib.hid (HB4.out.trans (hb5.mono HB4.out.size))
  clear hvr hb5 hr5 HG
  go_wp2_with (go_at_call 11; refine SM.out.mono ?_; rintro e w6 ⟨rfl, rfl⟩)
  go_ret
  exact ⟨ret_bool (by simp), HB5.out⟩
end Go.Proofs.Ythaciglechijkaa
