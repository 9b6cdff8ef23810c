/-
  The walk of the law CivilTexts: it returns true.
-/
import Derived.Test.YtdadhpfaompmnaaCivilW10
namespace Go.Proofs.Ytdadhpfaompmnaa
open Go.RowKit
set_option linter.unusedVariables false

set_option maxHeartbeats 2000000 in
theorem CivilTexts_walk (d : Int) (s : ByteArray) (w : World) (hd0 : -9223372036854775808 ≤ d) (hd1 : d ≤ 9223372036854775807) (hs : s.size ≤ 140737488351232) :
    Calls Try.prog 7 #[.int .i64 d, .string s] w fun e w' => e = .returned (.bool true) ∧ Below w.heap.size w w' := by
  go_enter Try.func7, Try.ntmps7
  go_wp2_with fail
  refine (wakes_any w).mono ?_
  rintro e w1 ⟨rfl, hb1⟩
  obtain ⟨p, hp⟩ := readAs s.data.toList
  have R1 := Lib.hid fun w => Read_any s p w hp (by omega)
  have R2 := Lib.hid fun w => refRead_any s p w hp (by omega)
  obtain ⟨p1, p2⟩ := p
  simp only at R1 R2
  clear hp
  by_cases hr : -719162 ≤ d ∧ d ≤ 2932896
  · go_wp2_with fail
    refine (Text_in d w1 hr.1 hr.2).mono ?_
    rintro e w2 ⟨⟨y, m, a, hv, hd, rfl⟩, hb2⟩
    have HV := Lib.hid hv
    have HD := Lib.hid hd
    clear hv hd
    have hb02 := hb1.trans (hb2.mono hb1.size)
    have F := Lib.hid ((refText_in d w2 hr.1 hr.2).mono (fun e w' (h : Texts d e ∧ Below w2.heap.size w2 w') => (⟨Texts.at HV.out HD.out h.1, h.2⟩ : e = .returned (.tuple #[.string ⟨(txt y m a).toArray⟩, .int .i64 0]) ∧ Below w2.heap.size w2 w')))
    have Z := Lib.hid fun w => Read_any ⟨(txt y m a).toArray⟩ (d, 0) w (by have := readAs_of HV.out (l := txt y m a) rfl; rw [HD.out] at this; simpa using this) (by show (txt y m a).toArray.size ≤ _; simp [txt_length])
    generalize txt y m a = tx at F Z
    simp only at Z
    go_wp2_with fail
    refine F.out.mono ?_
    rintro e w3 ⟨rfl, hb3⟩
    have hb03 := hb02.trans (hb3.mono hb02.size)
    go_wp2_with fail
    refine (R1.out w3).mono ?_
    rintro e w4 ⟨rfl, hb4⟩
    have hb04 := hb03.trans (hb4.mono hb03.size)
    go_wp2_with fail
    refine (R2.out w4).mono ?_
    rintro e w5 ⟨rfl, hb5⟩
    have hb05 := hb04.trans (hb5.mono hb04.size)
    go_wp2_with fail
    refine (Z.out w5).mono ?_
    rintro e w6 ⟨rfl, hb6⟩
    have hb06 := hb05.trans (hb6.mono hb05.size)
    go_wp2
    go_ret
    exact ⟨by simp, hb06⟩
  · have ho : d < -719162 ∨ 2932896 < d := by omega
    have Z := Lib.hid fun w => Read_any ⟨#[]⟩ (0, 7) w (.inr ⟨fun h => by have := h.1; simp at this, rfl⟩) (by decide)
    go_wp2_with fail
    refine (Text_out d w1 ho).mono ?_
    rintro e w2 ⟨rfl, hb2⟩
    have hb02 := hb1.trans (hb2.mono hb1.size)
    go_wp2_with fail
    refine (refText_out d w2 ho).mono ?_
    rintro e w3 ⟨rfl, hb3⟩
    have hb03 := hb02.trans (hb3.mono hb02.size)
    go_wp2_with fail
    refine (R1.out w3).mono ?_
    rintro e w4 ⟨rfl, hb4⟩
    have hb04 := hb03.trans (hb4.mono hb03.size)
    go_wp2_with fail
    refine (R2.out w4).mono ?_
    rintro e w5 ⟨rfl, hb5⟩
    have hb05 := hb04.trans (hb5.mono hb04.size)
    go_wp2_with fail
    refine (Z.out w5).mono ?_
    rintro e w6 ⟨rfl, hb6⟩
    have hb06 := hb05.trans (hb6.mono hb05.size)
    go_wp2
    go_ret
    exact ⟨by simp, hb06⟩
end Go.Proofs.Ytdadhpfaompmnaa
