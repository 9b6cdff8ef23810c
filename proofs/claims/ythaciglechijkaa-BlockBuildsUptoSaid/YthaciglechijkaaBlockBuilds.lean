/-
  The walk of BlockBuilds.
-/
import Derived.Test.YthaciglechijkaaBlkN
namespace Go.Proofs.Ythaciglechijkaa
open Go.RowKit
set_option linter.unusedVariables false

set_option maxRecDepth 100000 in
set_option maxHeartbeats 1000000 in
theorem BlockBuilds_walk (A : Option Addr) (n c : Nat) (w : World) (ps : List PairV) (h : RdQ w A n ps) (hn : n ≤ c) (hl : n ≤ 1048576) (ht : ∀ p ∈ ps, p.key.length ≤ 1048576 ∧ p.val.length ≤ 1048576) :
    Calls Try.prog 3 #[.slice A n c] w fun e w' => e = .returned (.bool true) ∧ Below w.heap.size w w' := by
  have HX := Lib.hid h
  have HT := Lib.hid ht
  have WK := Lib.hid (wakes_any w)
  clear h ht
  go_enter Try.func3, Try.ntmps3
  go_wp2_with fail
  refine WK.out.mono ?_
  rintro e w1 ⟨rfl, hb1⟩
  have HB1 := Lib.hid hb1
  have HX1 := Lib.hid (HX.out.below hb1)
  clear hb1 WK
  go_wp2_with fail
  refine (Copy_any A n c ps w1 HX1.out (by omega) (fun p hp => by have := HT.out p hp; omega)).mono ?_
  rintro e w2 ⟨v, rs, rfl, rfl, hv, hb2⟩
  obtain ⟨Ac, cc, rfl, hcc, hrc, _⟩ := hv.form
  have HX2 := Lib.hid (HX1.out.below hb2)
  have HB2 := Lib.hid (HB1.out.trans (hb2.mono HB1.out.size))
  have hnl : rs.length = n := by have := HX1.out.len; rw [psOf_len] at this; exact this
  subst hnl
  have BU := Lib.hid (Build_any Ac rs.length cc _ w2 hrc (by omega))
  have RB := Lib.hid (fun W hW => rBuild_any A rs.length c (psOf rs) W hW (by omega))
  clear hv hb2 hrc HX1
  generalize buildOf (psOf rs) = R at *
  obtain ⟨bs, er⟩ := R
  go_wp2_with fail
  refine BU.out.mono ?_
  rintro e w3 ⟨vb, rfl, hvb, hb3⟩
  have hvs := hvb.newS
  obtain ⟨Ab, mb, cb, rfl, hmb, hrb, _⟩ := hvs.ex
  have HRB := Lib.hid hrb
  have HX3 := Lib.hid (HX2.out.below hb3)
  have HB3 := Lib.hid (HB2.out.trans (hb3.mono HB2.out.size))
  clear hvb hvs hb3 hrb BU
  go_wp2_with fail
  refine (RB.out w3 HX3.out).mono ?_
  rintro e w4 ⟨vr, rfl, hvr, hb4⟩
  obtain ⟨Ar, mr, cr, rfl, _, _, _, hrr, _⟩ := hvr.form
  have SM := Lib.hid (same_any Ab mb cb _ Ar mr cr _ w4 (HRB.out.below hb4) hrr)
  have HB4 := Lib.hid (HB3.out.trans (hb4.mono HB3.out.size))
  clear hvr hb4 hrr
  go_wp2_with (go_at_call 11; refine SM.out.mono ?_; rintro e w5 ⟨rfl, rfl⟩)
  go_ret
  exact ⟨ret_bool (by simp), HB4.out⟩
end Go.Proofs.Ythaciglechijkaa
