/-
  The walk of KeysWrites.
-/
import Derived.Test.YtbblpehehgeebaaDoorKeyK
import Derived.Test.YtbblpehehgeebaaDoorKeyR2
namespace Go.Proofs.YtbblpehehgeebaaDoor
open Go.RowKit
set_option linter.unusedVariables false

set_option maxHeartbeats 2000000 in
theorem KeysWrites_walk (A : Option Addr) (n c : Nat) (w : World) (hm : MaxLen w) (ps : List PartV) (h : RdPt w A n ps) (hn : n ≤ c) (hc : c * 32 ≤ 140737488351232) (hok : ∀ q ∈ ps, q.ok) (hlt : ∀ q ∈ ps, q.text.length ≤ 9223372036854775807) :
    Calls Tryd.prog 3 #[.slice A n c] w fun e w' => e = .returned (.bool true) ∧ Below w.heap.size w w' := by
  have WK := Lib.hid (wakes_any w hm)
  have h0 : 0 < w.heap.size := by
    obtain ⟨m, hm⟩ := hm
    exact World.block_lt_of_cell? w ⟨0, 0, none⟩ hm
  have HX := Lib.hid h
  have HL := Lib.hid h.len
  have HOK := Lib.hid hok
  have HLT := Lib.hid hlt
  have HM := Lib.hid hm
  clear hm h hok hlt
  go_enter Tryd.func3, Tryd.ntmps3
  go_wp2_with fail
  refine WK.out.mono ?_
  rintro e w1 ⟨rfl, hb1⟩
  have HB1 := Lib.hid hb1
  clear hb1 WK
  go_wp2_with fail
  refine (parts_any A n c ps w1 (HX.out.below HB1.out) (by omega)).mono ?_
  rintro e w2 ⟨vo, rfl, hvo, hb2⟩
  have HB2 := Lib.hid (HB1.out.trans (hb2.mono HB1.out.size))
  obtain ⟨Ao, co, rfl, hco, hro⟩ := hvo.form
  have HRO := Lib.hid hro
  clear hvo hb2 hro
  have EN := Lib.hid (Encode_any Ao ps.length co ps w2 HRO.out (by have := HL.out; omega) HLT.out HOK.out (HM.out.below HB2.out h0))
  unfold EncEnds at EN
  go_wp2_with fail
  refine EN.out.mono ?_
  rintro e w3 ⟨v3, rfl, hv3, hb3⟩
  have HB3 := Lib.hid (HB2.out.trans (hb3.mono HB2.out.size))
  obtain ⟨A3, m3, c3, rfl, _, _, hr3, _⟩ := hv3.ex
  have HR3 := Lib.hid hr3
  clear hv3 hb3 hr3 EN HRO
  have RN := Lib.hid (rEncode_any A n c ps w3 (HX.out.below HB3.out) (by omega) HLT.out HOK.out)
  unfold REncEnds at RN
  go_wp2_with fail
  refine RN.out.mono ?_
  rintro e w4 ⟨v4, rfl, hv4, hb4⟩
  have HB4 := Lib.hid (HB3.out.trans (hb4.mono HB3.out.size))
  have hr34 := HR3.out.below hb4
  obtain ⟨A4, m4, c4, rfl, _, _, _, hr4, _⟩ := hv4.form
  have SM := Lib.hid (same_any A3 m3 c3 _ A4 m4 c4 _ w4 hr34 hr4)
  rw [show decide ((encOf ps).1 = (encOf ps).1) = true from decide_eq_true rfl] at SM
  clear hv4 hb4 hr4 hr34 HR3 RN
  go_wp2_with fail
  refine SM.out.mono ?_
  rintro e w5 ⟨rfl, rfl⟩
  go_wp2
  go_ret
  exact ⟨rfl, HB4.out⟩
end Go.Proofs.YtbblpehehgeebaaDoor
