/-
  The walk of the law VarintReads: whatever the bytes, the place and the bound, it returns true.
-/
import Derived.Test.YtaepjocfajiokaaVarintW4
import Derived.Deep.RegionHeld3
import Derived.Deep.DeepCutAuto
namespace Go.Proofs.Ytaepjocfajiokaa
open Go.RowKit
set_option linter.unusedVariables false

set_option maxHeartbeats 2000000 in
theorem VarintReads_walk (A : Option Addr) (n c : Nat) (p q : Int) (w : World) (xs : List UInt8) (h : RdB w A n xs) (hn : n ≤ c) (hc : c ≤ 140737488351232) (hp0 : -9223372036854775808 ≤ p) (hp1 : p ≤ 9223372036854775807) (hq0 : -9223372036854775808 ≤ q) (hq1 : q ≤ 9223372036854775807) :
    Calls Try.prog 6 #[.slice A n c, .int .i64 p, .int .i64 q] w fun e w' => e = .returned (.bool true) ∧ Below w.heap.size w w' := by
  have HL := Lib.hid h.len
  have N := Lib.hid fun W (hW : Below w.heap.size w W) => own_any A n c W _ (h.below hW) (by omega)
  have U := Lib.hid fun A2 c2 w2 m2 (h : RdB w2 A2 m2 xs) (hc : m2 ≤ c2) (hm : m2 ≤ 140737488355328) => Uint_any A2 m2 c2 p w2 xs h hc hm
  have I := Lib.hid fun A2 c2 w2 m2 (h : RdB w2 A2 m2 xs) (hc : m2 ≤ c2) (hm : m2 ≤ 140737488355328) => Int_any A2 m2 c2 p w2 xs h hc hm
  have B := Lib.hid fun A2 c2 w2 m2 (h : RdB w2 A2 m2 xs) (hc : m2 ≤ c2) (hm : m2 ≤ 140737488355328) => Bytes_any A2 m2 c2 p q w2 xs h hc hm hq0 hq1
  have U' := Lib.hid fun w2 (h : RdB w2 A n xs) => refUint_any A n c p w2 xs h hn (by omega)
  have I' := Lib.hid fun w2 (h : RdB w2 A n xs) => refInt_any A n c p w2 xs h hn (by omega)
  have B' := Lib.hid fun w2 (h : RdB w2 A n xs) => refBytes_any A n c p q w2 xs h hn (by omega) hq0 hq1
  generalize uintAt xs p = res at U I U' I'
  generalize bytesAt xs p q = ser at B B'
  obtain ⟨v, nx, er⟩ := res
  obtain ⟨zs, ny, es⟩ := ser
  generalize zag v = z at I I'
  simp only at U I B U' I' B'
  go_enter Try.func6, Try.ntmps6
  go_wp2_with fail
  refine (wakes_any w).mono ?_
  rintro e w1 ⟨rfl, hb1⟩
  go_wp2_with fail
  refine (N.out w1 hb1).mono ?_
  rintro e w2 ⟨v2, rfl, hv2, hb2⟩
  have hb02 := hb1.trans (hb2.mono hb1.size)
  obtain ⟨A2, m2, c2, rfl, hm2, hmc2, _, hr2, _⟩ := hv2.form
  have hm2' : m2 ≤ 140737488355328 := by have := hm2.out; have := HL.out; omega
  go_wp2_with fail
  refine (U.out A2 c2 w2 m2 hr2 hmc2 hm2').mono ?_
  rintro e w' ⟨rfl, rfl⟩
  go_wp2_with fail
  refine (N.out w2 hb02).mono ?_
  rintro e w3 ⟨v3, rfl, hv3, hb3⟩
  have hb03 := hb02.trans (hb3.mono hb02.size)
  obtain ⟨A3, m3, c3, rfl, hm3, hmc3, _, hr3, _⟩ := hv3.form
  have hm3' : m3 ≤ 140737488355328 := by have := hm3.out; have := HL.out; omega
  go_wp2_with fail
  refine (I.out A3 c3 w3 m3 hr3 hmc3 hm3').mono ?_
  rintro e w' ⟨rfl, rfl⟩
  go_wp2_with fail
  refine (N.out w3 hb03).mono ?_
  rintro e w4 ⟨v4, rfl, hv4, hb4⟩
  have hb04 := hb03.trans (hb4.mono hb03.size)
  obtain ⟨A4, m4, c4, rfl, hm4, hmc4, _, hr4, _⟩ := hv4.form
  have hm4' : m4 ≤ 140737488355328 := by have := hm4.out; have := HL.out; omega
  go_wp2_with fail
  refine (B.out A4 c4 w4 m4 hr4 hmc4 hm4').mono ?_
  rintro e w5 ⟨v5, rfl, hv5, hb5⟩
  have hb05 := hb04.trans (hb5.mono hb04.size)
  obtain ⟨A5, m5, c5, rfl, hm5, hmc5, _, hr5, _⟩ := hv5.form
  go_wp2_with fail
  refine (U'.out w5 (h.below hb05)).mono ?_
  rintro e w' ⟨rfl, rfl⟩
  go_wp2_with fail
  refine (I'.out w5 (h.below hb05)).mono ?_
  rintro e w' ⟨rfl, rfl⟩
  go_wp2_with fail
  refine (B'.out w5 (h.below hb05)).mono ?_
  rintro e w6 ⟨v6, rfl, hv6, hb6⟩
  have hb06 := hb05.trans (hb6.mono hb05.size)
  obtain ⟨A6, m6, c6, rfl, hm6, hmc6, _, hr6, _⟩ := hv6.form
  have hr5' := hr5.below hb6
  go_wp2_with fail
  refine (same_any A5 m5 c5 _ A6 m6 c6 _ w6 hr5' hr6).mono ?_
  rintro e w' ⟨rfl, rfl⟩
  go_wp2
  go_ret
  exact ⟨by simp, hb06⟩
end Go.Proofs.Ytaepjocfajiokaa
