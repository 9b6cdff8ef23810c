/-
  The walk of KeysOrder.
-/
import Derived.Test.YtbblpehehgeebaaDoorKeyK
import Derived.Test.YtbblpehehgeebaaDoorKeyM2
import Derived.Test.YtbblpehehgeebaaDoorKeysNext
namespace Go.Proofs.YtbblpehehgeebaaDoor
open Go.RowKit
set_option linter.unusedVariables false

theorem lessL_bd : ∀ x y : List UInt8, -1 ≤ lessL x y ∧ lessL x y ≤ 1
  | [], [] => by simp [lessL]
  | [], _ :: _ => by simp [lessL]
  | _ :: _, [] => by simp [lessL]
  | a :: x, b :: y => by
    have h := lessL_bd x y
    rw [lessL_def]
    split
    · omega
    · split
      · omega
      · exact h
theorem cmpP_bd (p q : PartV) : -1 ≤ cmpP p q ∧ cmpP p q ≤ 1 := by
  have h := lessL_bd p.text q.text
  unfold cmpP
  split
  · split
    · exact h
    · omega
  · split
    · omega
    · split
      · omega
      · split <;> omega
theorem cmpL_bd : ∀ a b : List PartV, -1 ≤ cmpL a b ∧ cmpL a b ≤ 1
  | [], [] => by simp [cmpL]
  | [], _ :: _ => by simp [cmpL]
  | _ :: _, [] => by simp [cmpL]
  | p :: a, q :: b => by
    have h := cmpL_bd a b
    have h2 := cmpP_bd p q
    rw [cmpL_cons]
    split
    · exact h2
    · exact h
set_option maxHeartbeats 4000000 in
theorem KeysOrder_walk (A : Option Addr) (n c : Nat) (A' : Option Addr) (n' c' : Nat) (w : World) (hm : MaxLen w) (ps : List PartV) (h : RdPt w A n ps) (hn : n ≤ c) (hc : c * 32 ≤ 140737488351232) (hok : ∀ q ∈ ps, q.ok) (hlt : ∀ q ∈ ps, q.text.length ≤ 9223372036854775807)
    (qs : List PartV) (h' : RdPt w A' n' qs) (hn' : n' ≤ c') (hc' : c' * 32 ≤ 140737488351232) (hok' : ∀ q ∈ qs, q.ok) (hlt' : ∀ q ∈ qs, q.text.length ≤ 9223372036854775807) :
    Calls Tryd.prog 7 #[.slice A n c, .slice A' n' c'] w fun e w' => e = .returned (.bool true) ∧ Below w.heap.size w w' := by
  have WK := Lib.hid (wakes_any w hm)
  have h0 : 0 < w.heap.size := by
    obtain ⟨m, hm⟩ := hm
    exact World.block_lt_of_cell? w ⟨0, 0, none⟩ hm
  have hl := h.len
  have hl' := h'.len
  have HX := Lib.hid h
  have HY := Lib.hid h'
  have HOK := Lib.hid hok
  have HLT := Lib.hid hlt
  have HOK' := Lib.hid hok'
  have HLT' := Lib.hid hlt'
  have HM := Lib.hid hm
  obtain ⟨hC0, hC1⟩ := cmpL_bd ps qs
  have HAN := Lib.hid (cmpL_anti ps qs)
  have HBN : Hid (n ≤ 4398046511104 ∧ n' ≤ 4398046511104 ∧ ps.length ≤ 10000000000000 ∧ qs.length ≤ 10000000000000) := Lib.hid (by omega)
  have HEO := Lib.hid (enc_order_of ps qs hok hok')
  clear hm h hok hlt h' hok' hlt' hl hl'
  have PA := Lib.hid (fun W hW => parts_any A n c ps W (HX.out.below hW) HBN.out.1)
  have PB := Lib.hid (fun W hW => parts_any A' n' c' qs W (HY.out.below hW) HBN.out.2.1)
  go_enter Tryd.func7, Tryd.ntmps7
  go_wp2_with fail
  refine WK.out.mono ?_
  rintro e w1 ⟨rfl, hb1⟩
  have HB1 := Lib.hid hb1
  clear hb1 WK
  go_wp2_with fail
  refine (PA.out w1 HB1.out).mono ?_
  rintro e w2 ⟨v2, rfl, hv2, hb2⟩
  have HB2 := Lib.hid (HB1.out.trans (hb2.mono HB1.out.size))
  obtain ⟨A2, c2, rfl, hco2, hr2⟩ := hv2.form
  have HR2 := Lib.hid hr2
  clear hv2 hb2 hr2
  go_wp2_with fail
  refine (PB.out w2 HB2.out).mono ?_
  rintro e w3 ⟨v3, rfl, hv3, hb3⟩
  have HB3 := Lib.hid (HB2.out.trans (hb3.mono HB2.out.size))
  obtain ⟨A3, c3, rfl, hco3, hr3⟩ := hv3.form
  have CM := Lib.hid (Compare_any A2 ps.length c2 ps A3 qs.length c3 qs w3 (HR2.out.below hb3) hr3 HBN.out.2.2.1 HBN.out.2.2.2)
  clear hv3 hb3 hr3 HR2
  go_wp2_with fail
  refine CM.out.mono ?_
  rintro e w4 ⟨rfl, hb4⟩
  have HB4 := Lib.hid (HB3.out.trans (hb4.mono HB3.out.size))
  clear hb4 CM
  have RC := Lib.hid (rCompare_any A n c ps A' n' c' qs w4 (HX.out.below HB4.out) (HY.out.below HB4.out) (by omega) (by omega) HLT.out HLT'.out)
  go_wp2_with fail
  refine RC.out.mono ?_
  rintro e w5 ⟨rfl, hd5⟩
  have HB5 := Lib.hid (HB4.out.trans (hd5.below.mono HB4.out.size))
  clear hd5 RC
  go_wp2_with fail
  refine (PB.out w5 HB5.out).mono ?_
  rintro e w6 ⟨v6, rfl, hv6, hb6⟩
  have HB6 := Lib.hid (HB5.out.trans (hb6.mono HB5.out.size))
  obtain ⟨A6, c6, rfl, hco6, hr6⟩ := hv6.form
  have HR6 := Lib.hid hr6
  clear hv6 hb6 hr6
  go_wp2_with fail
  refine (PA.out w6 HB6.out).mono ?_
  rintro e w7 ⟨v7, rfl, hv7, hb7⟩
  have HB7 := Lib.hid (HB6.out.trans (hb7.mono HB6.out.size))
  obtain ⟨A7, c7, rfl, hco7, hr7⟩ := hv7.form
  have CM := Lib.hid (Compare_any A6 qs.length c6 qs A7 ps.length c7 ps w7 (HR6.out.below hb7) hr7 HBN.out.2.2.2 HBN.out.2.2.1)
  clear hv7 hb7 hr7 HR6
  rw [HAN.out] at CM
  clear HAN
  go_wp2_with fail
  refine CM.out.mono ?_
  rintro e w8 ⟨rfl, hb8⟩
  have HB8 := Lib.hid (HB7.out.trans (hb8.mono HB7.out.size))
  clear hb8 CM
  have hneg : IntKind.i64.wrap (-(cmpL ps qs)) = -(cmpL ps qs) := by rw [IntKind.wrap_i64]; omega
  go_wp2_with fail
  refine (PA.out w8 HB8.out).mono ?_
  rintro e w9 ⟨v9, rfl, hv9, hb9⟩
  have HB9 := Lib.hid (HB8.out.trans (hb9.mono HB8.out.size))
  obtain ⟨A9, c9, rfl, hco9, hr9⟩ := hv9.form
  have EN := Lib.hid (Encode_any A9 ps.length c9 ps w9 hr9 HBN.out.2.2.1 HLT.out HOK.out (HM.out.below HB9.out h0))
  unfold EncEnds at EN
  clear hv9 hb9 hr9
  go_wp2_with fail
  refine EN.out.mono ?_
  rintro e w10 ⟨v10, rfl, hv10, hb10⟩
  have HB10 := Lib.hid (HB9.out.trans (hb10.mono HB9.out.size))
  obtain ⟨Ax, mx, cx, rfl, hmx, _, hrx, _⟩ := hv10.ex
  have HRX := Lib.hid hrx
  clear hv10 hb10 hrx EN
  go_wp2_with fail
  refine (PB.out w10 HB10.out).mono ?_
  rintro e w11 ⟨v11, rfl, hv11, hb11⟩
  have HB11 := Lib.hid (HB10.out.trans (hb11.mono HB10.out.size))
  obtain ⟨A11, c11, rfl, hco11, hr11⟩ := hv11.form
  have HRX11 := Lib.hid (HRX.out.below hb11)
  have EN := Lib.hid (Encode_any A11 qs.length c11 qs w11 hr11 HBN.out.2.2.2 HLT'.out HOK'.out (HM.out.below HB11.out h0))
  unfold EncEnds at EN
  clear hv11 hb11 hr11 HRX
  go_wp2_with fail
  refine EN.out.mono ?_
  rintro e w12 ⟨v12, rfl, hv12, hb12⟩
  have HB12 := Lib.hid (HB11.out.trans (hb12.mono HB11.out.size))
  obtain ⟨Ay, my, cy, rfl, hmy, _, hry, _⟩ := hv12.ex
  have kx := conv_all (HRX11.out.below hb12) cx w12 (Below.refl _ _)
  have ky := conv_all hry cy w12 (Below.refl _ _)
  have HRXL := Lib.hid (HRX11.out.len)
  have HRYL := Lib.hid hry.len
  have HF := Lib.hid (fun (h1 : (encOf ps).2 = 0) => encOf_ok ps h1)
  have HG := Lib.hid (fun (h1 : (encOf qs).2 = 0) => encOf_ok qs h1)
  clear hv12 hb12 hry EN HRX11
  clear PA PB HX HY HOK HLT HOK' HLT' HM HBN
  generalize cmpL ps qs = C at *
  by_cases hE : (encOf ps).2 = 0
  · by_cases hF : (encOf qs).2 = 0
    · have HE1 := Lib.hid (HEO.out hE hF)
      have hx := (HF.out hE).1
      have hx2 := (HF.out hE).2.2.2.2.2
      have hy := (HG.out hF).1
      have hy2 := (HG.out hF).2.2.2.2.2
      rw [hx] at kx hE HE1
      rw [hy] at ky hF HE1
      have LS := Lib.hid (Less_any ⟨(encL ps).toArray⟩ ⟨(encL qs).toArray⟩ w12 (by simp [ByteArray.size]; omega) (by simp [ByteArray.size]; omega))
      have e1 : (⟨(encL ps).toArray⟩ : ByteArray).data.toList = encL ps := by simp
      have e2 : (⟨(encL qs).toArray⟩ : ByteArray).data.toList = encL qs := by simp
      rw [e1, e2, HE1.out] at LS
      clear e1 e2 HE1 HEO HF HG hx2 hy2
      rw [hx, hy]
      clear hx hy
      dsimp only at kx ky
      go_wp2_with fail
      refine LS.out.mono ?_
      rintro e w13 ⟨rfl, hb13⟩
      go_wp2
      go_ret
      exact ⟨rfl, HB12.out.trans (hb13.mono HB12.out.size)⟩
    · clear HEO HF HG kx ky
      rw [hE]
      generalize (encOf qs).2 = R at *
      go_wp2
      go_ret
      exact ⟨rfl, HB12.out⟩
  · clear HEO HF HG kx ky
    generalize (encOf ps).2 = R at *
    go_wp2
    go_ret
    exact ⟨rfl, HB12.out⟩
end Go.Proofs.YtbblpehehgeebaaDoor
