/-
  The walk of the law VarintWrites: whatever the bytes, the number and the other bytes, it returns true.
-/
import Derived.Test.YtaepjocfajiokaaVarintW4
import Derived.Deep.RegionHeld3
import Derived.Deep.DeepCutAuto
namespace Go.Proofs.Ytaepjocfajiokaa
open Go.RowKit
set_option linter.unusedVariables false

set_option maxHeartbeats 8000000 in
theorem VarintWrites_walk (A : Option Addr) (n c : Nat) (v' : Int) (A' : Option Addr) (n' c' : Nat) (w : World) (xs : List UInt8) (h : RdB w A n xs) (hn : n ≤ c) (hc : c ≤ 1048576) (hv0 : 0 ≤ v') (hv1 : v' ≤ 18446744073709551615) (ys : List UInt8) (h' : RdB w A' n' ys) (hn' : n' ≤ c') (hc' : c' ≤ 1048576) :
    Calls Try.prog 4 #[.slice A n c, .int .u64 v', .slice A' n' c'] w fun e w' => e = .returned (.bool true) ∧ Below w.heap.size w w' := by
  obtain ⟨v, rfl⟩ := Int.eq_ofNat_of_zero_le hv0
  have hv : v < 18446744073709551616 := by omega
  have HL := Lib.hid h.len
  have HL' := Lib.hid h'.len
  obtain ⟨s, hs, hs0, hs1⟩ : ∃ s : Int, IntKind.i64.wrap (v : Int) = s ∧ -9223372036854775808 ≤ s ∧ s ≤ 9223372036854775807 := by
    refine ⟨_, rfl, ?_, ?_⟩ <;> (simp only [IntKind.wrap]; simp [IntKind.bits, IntKind.signed]; omega)
  go_enter Try.func4, Try.ntmps4
  go_wp2_with fail
  refine (wakes_any w).mono ?_
  rintro e w1 ⟨rfl, hb1⟩
  have N := Lib.hid fun W (hW : Below w.heap.size w W) => own_any A n c W _ (h.below hW) (by omega)
  have N' := Lib.hid fun W (hW : Below w.heap.size w W) => own_any A' n' c' W _ (h'.below hW) (by omega)
  have M1 := Lib.hid fun (W : World) m4 c4 A4 (hr : RdB W A4 m4 xs) (hm : m4 ≤ 1048576) => AppendUint_any A4 m4 c4 v W _ hr hv (by omega)
  have M2 := Lib.hid fun W (hW : Below w.heap.size w W) => refAppendUint_any A n c v W _ (h.below hW) hv (by omega)
  have M3 := Lib.hid fun (W : World) m4 c4 A4 (hr : RdB W A4 m4 xs) (hm : m4 ≤ 1048576) => AppendInt_any A4 m4 c4 s W _ hr hs0 hs1 (by omega)
  have M4 := Lib.hid fun W (hW : Below w.heap.size w W) => refAppendInt_any A n c s W _ (h.below hW) hs0 hs1 (by omega)
  have M5 := Lib.hid fun (W : World) m4 c4 A4 m5 c5 A5 (hr : RdB W A4 m4 xs) (hm : m4 ≤ 1048576) (hr' : RdB W A5 m5 ys) (hm' : m5 ≤ 1048576) => AppendBytes_any A4 m4 c4 xs A5 m5 c5 ys W hr hr' (by omega)
  have M6 := Lib.hid fun W (hW : Below w.heap.size w W) => refAppendBytes_any A n c xs A' n' c' ys W (h.below hW) (h'.below hW) (by omega)
  have S := Lib.hid fun (W : World) m5 c5 A5 m6 c6 A6 zs (hr : RdB W A5 m5 zs) (hr' : RdB W A6 m6 zs) => same_any A5 m5 c5 _ A6 m6 c6 zs W hr hr'
  clear hs0 hs1
  go_wp2_with fail
  refine (N.out _ hb1).mono ?_
  rintro e w2 ⟨v2, rfl, hv2, hb2⟩
  have hb02 := hb1.trans (hb2.mono hb1.size)
  obtain ⟨A2, m2, c2, rfl, hm2, hmc2, _, hr2, _⟩ := hv2.form
  have hm2' : m2 ≤ 1048576 := by have := hm2.out; have := HL.out; omega
  go_wp2_with fail
  refine (M1.out _ _ _ _ hr2 hm2').mono ?_
  rintro e w3 ⟨v3, rfl, hv3, hb3⟩
  have hb03 := hb02.trans (hb3.mono hb02.size)
  obtain ⟨A3, m3, c3, rfl, hm3, hmc3, _, hr3, _⟩ := hv3.form
  go_wp2_with fail
  refine (M2.out _ hb03).mono ?_
  rintro e w4 ⟨v4, rfl, hv4, hb4⟩
  have hb04 := hb03.trans (hb4.mono hb03.size)
  obtain ⟨A4, m4, c4, rfl, hm4, hmc4, _, hr4, _⟩ := hv4.form
  go_wp2_with fail
  refine (S.out _ _ _ _ _ _ _ _ (hr3.below hb4) hr4).mono ?_
  rintro e w' ⟨rfl, rfl⟩
  go_wp2_with fail
  refine (N.out _ hb04).mono ?_
  rintro e w5 ⟨v5, rfl, hv5, hb5⟩
  have hb05 := hb04.trans (hb5.mono hb04.size)
  obtain ⟨A5, m5, c5, rfl, hm5, hmc5, _, hr5, _⟩ := hv5.form
  have hm5' : m5 ≤ 1048576 := by have := hm5.out; have := HL.out; omega
  go_wp2_with fail
  refine (M3.out _ _ _ _ hr5 hm5').mono ?_
  rintro e w6 ⟨v6, rfl, hv6, hb6⟩
  have hb06 := hb05.trans (hb6.mono hb05.size)
  obtain ⟨A6, m6, c6, rfl, hm6, hmc6, _, hr6, _⟩ := hv6.form
  go_wp2_with fail
  refine (M4.out _ hb06).mono ?_
  rintro e w7 ⟨v7, rfl, hv7, hb7⟩
  have hb07 := hb06.trans (hb7.mono hb06.size)
  obtain ⟨A7, m7, c7, rfl, hm7, hmc7, _, hr7, _⟩ := hv7.form
  go_wp2_with fail
  refine (S.out _ _ _ _ _ _ _ _ (hr6.below hb7) hr7).mono ?_
  rintro e w' ⟨rfl, rfl⟩
  go_wp2_with fail
  refine (N.out _ hb07).mono ?_
  rintro e w8 ⟨v8, rfl, hv8, hb8⟩
  have hb08 := hb07.trans (hb8.mono hb07.size)
  obtain ⟨A8, m8, c8, rfl, hm8, hmc8, _, hr8, _⟩ := hv8.form
  have hm8' : m8 ≤ 1048576 := by have := hm8.out; have := HL.out; omega
  go_wp2_with fail
  refine (N'.out _ hb08).mono ?_
  rintro e w9 ⟨v9, rfl, hv9, hb9⟩
  have hb09 := hb08.trans (hb9.mono hb08.size)
  obtain ⟨A9, m9, c9, rfl, hm9, hmc9, _, hr9, _⟩ := hv9.form
  have hm9' : m9 ≤ 1048576 := by have := hm9.out; have := HL'.out; omega
  go_wp2_with fail
  refine (M5.out _ _ _ _ _ _ _ (hr8.below hb9) hm8' hr9 hm9').mono ?_
  rintro e w10 ⟨v10, rfl, hv10, hb10⟩
  have hb010 := hb09.trans (hb10.mono hb09.size)
  obtain ⟨A10, m10, c10, rfl, hm10, hmc10, _, hr10, _⟩ := hv10.form
  go_wp2_with fail
  refine (M6.out _ hb010).mono ?_
  rintro e w11 ⟨v11, rfl, hv11, hb11⟩
  have hb011 := hb010.trans (hb11.mono hb010.size)
  obtain ⟨A11, m11, c11, rfl, hm11, hmc11, _, hr11, _⟩ := hv11.form
  go_wp2_with fail
  refine (S.out _ _ _ _ _ _ _ _ (hr10.below hb11) hr11).mono ?_
  rintro e w' ⟨rfl, rfl⟩
  go_wp2
  go_ret
  exact ⟨by simp, hb011⟩
end Go.Proofs.Ytaepjocfajiokaa
