/-
  The walk of the law VarintBack: what is appended is read back.
-/
import Derived.Test.YtaepjocfajiokaaVarintW4
import Derived.Deep.RegionHeld3
import Derived.Deep.DeepCutAuto
namespace Go.Proofs.Ytaepjocfajiokaa
open Go.RowKit
set_option linter.unusedVariables false

theorem uintAt_at (pre rest : List UInt8) (v : Nat) (hv : v < 18446744073709551616) : uintAt (pre ++ enc v ++ rest) (pre.length : Int) = (v, ((pre ++ enc v).length : Int), 0) := by
  unfold uintAt
  have h1 : ¬ ((pre.length : Int) < 0 ∨ ((pre ++ enc v ++ rest).length : Int) < pre.length) := by simp; omega
  rw [if_neg h1]
  have e : (pre ++ enc v ++ rest).drop (pre.length : Int).toNat = enc v ++ rest := by simp
  rw [e, dec_enc v rest hv]
  simp

/-- What was written is read back, part by part. -/
theorem back_parts (xs ys cs : List UInt8) (u z : Nat) (hu : u < 18446744073709551616) (hz : z < 18446744073709551616) (hy : ys.length < 18446744073709551616) (hcs : xs ++ enc u ++ enc z ++ enc ys.length ++ ys = cs) :
    ∃ I J : Int, uintAt cs (xs.length : Int) = (u, I, 0) ∧ uintAt cs I = (z, J, 0) ∧ bytesAt cs J (ys.length : Int) = (ys, (cs.length : Int), 0) := by
  refine ⟨((xs ++ enc u).length : Int), ((xs ++ enc u ++ enc z).length : Int), ?_, ?_, ?_⟩
  · have := uintAt_at xs (enc z ++ enc ys.length ++ ys) u hu
    rw [← hcs]
    simpa only [List.append_assoc] using this
  · have := uintAt_at (xs ++ enc u) (enc ys.length ++ ys) z hz
    rw [← hcs]
    simpa only [List.append_assoc] using this
  · have := uintAt_at (xs ++ enc u ++ enc z) ys ys.length hy
    rw [hcs] at this
    unfold bytesAt bytesOf
    rw [this]
    have hl : cs.length = (xs ++ enc u ++ enc z ++ enc ys.length).length + ys.length := by rw [← hcs, List.length_append]
    have hd : cs.drop (xs ++ enc u ++ enc z ++ enc ys.length).length = ys := by rw [← hcs]; exact List.drop_left
    simp only [ne_eq, not_true_eq_false, if_false, Int.toNat_natCast]
    rw [if_neg (by omega), if_neg (by omega), hd, List.take_length, hl]
    simp

set_option maxHeartbeats 4000000 in
theorem VarintBack_walk (A : Option Addr) (n c : Nat) (v : Int) (A' : Option Addr) (n' c' : Nat) (w : World) (xs : List UInt8) (h : RdB w A n xs) (hn : n ≤ c) (hc : c ≤ 1048576) (hv0 : -9223372036854775808 ≤ v) (hv1 : v ≤ 9223372036854775807) (ys : List UInt8) (h' : RdB w A' n' ys) (hn' : n' ≤ c') (hc' : c' ≤ 1048576) :
    Calls Try.prog 7 #[.slice A n c, .int .i64 v, .slice A' n' c'] w fun e w' => e = .returned (.bool true) ∧ Below w.heap.size w w' := by
  have HL := Lib.hid h.len
  have HL' := Lib.hid h'.len
  obtain ⟨u, hs, hu⟩ : ∃ u : Nat, IntKind.u64.wrap v = (u : Int) ∧ u < 18446744073709551616 := by
    refine ⟨(IntKind.u64.wrap v).toNat, ?_, ?_⟩ <;> (simp only [IntKind.wrap]; simp [IntKind.bits, IntKind.signed]; omega)
  have hz := zig_lt v hv0 hv1
  obtain ⟨cs, hcs⟩ : ∃ cs, xs ++ enc u ++ enc (zig v) ++ enc ys.length ++ ys = cs := ⟨_, rfl⟩
  obtain ⟨I, J, b1, b2, b3⟩ := back_parts xs ys cs u (zig v) hu hz (by have := h'.len; omega) hcs
  have hb3c : cs.length ≤ 2097200 := by
    have := h.len; have := h'.len; have := enc_length u; have := enc_length (zig v); have := enc_length ys.length
    rw [← hcs]; simp only [List.length_append]; omega
  have e1 := enc_length u
  have e2 := enc_length (zig v)
  have HCS := Lib.hid hcs
  have N := Lib.hid fun W (hW : Below w.heap.size w W) => own_any A n c W _ (h.below hW) (by omega)
  have N' := Lib.hid fun W (hW : Below w.heap.size w W) => own_any A' n' c' W _ (h'.below hW) (by omega)
  have M1 := Lib.hid fun (W : World) m4 c4 A4 (hr : RdB W A4 m4 xs) (hm : m4 ≤ 1048576) => AppendUint_any A4 m4 c4 u W _ hr hu (by omega)
  have M2 := Lib.hid fun (W : World) m4 c4 A4 (hr : RdB W A4 m4 (xs ++ enc u)) (hm : m4 ≤ 1048600) => AppendInt_any A4 m4 c4 v W _ hr hv0 hv1 (by omega)
  have M3 := Lib.hid fun (W : World) m4 c4 A4 m5 c5 A5 (hr : RdB W A4 m4 (xs ++ enc u ++ enc (zig v))) (hm : m4 ≤ 1048700) (hr' : RdB W A5 m5 ys) (hm' : m5 ≤ 1048576) => AppendBytes_any A4 m4 c4 _ A5 m5 c5 ys W hr hr' (by omega)
  have HA1 : Hid ((xs ++ enc u).length ≤ 1048600) := Lib.hid (by have := h.len; rw [List.length_append]; omega)
  have HA2 : Hid ((xs ++ enc u ++ enc (zig v)).length ≤ 1048700) := Lib.hid (by have := h.len; rw [List.length_append, List.length_append]; omega)
  have HC3 := Lib.hid hb3c
  have F := Lib.hid fun W m c3 A3 (hr : RdB W A3 m cs) (hm : m ≤ 2097200) => own_any A3 m c3 W _ hr (by omega)
  have U := Lib.hid fun A2 c2 w2 m2 (h : RdB w2 A2 m2 cs) (hc : m2 ≤ c2) (hm : m2 ≤ 2097200) => Uint_any A2 m2 c2 (xs.length : Int) w2 cs h hc (by omega)
  have K := Lib.hid fun A2 c2 w2 m2 (h : RdB w2 A2 m2 cs) (hc : m2 ≤ c2) (hm : m2 ≤ 2097200) => Int_any A2 m2 c2 I w2 cs h hc (by omega)
  have B := Lib.hid fun A2 c2 w2 m2 (h : RdB w2 A2 m2 cs) (hc : m2 ≤ c2) (hm : m2 ≤ 2097200) => Bytes_any A2 m2 c2 J (ys.length : Int) w2 cs h hc (by omega) (by omega) (by have := h'.len; omega)
  rw [b1] at U
  rw [b2] at K
  rw [b3] at B
  simp only [h.len, h'.len, zag_zig] at U K B
  have S := Lib.hid fun (W : World) m5 c5 A5 m6 c6 A6 zs (hr : RdB W A5 m5 zs) (hr' : RdB W A6 m6 zs) => same_any A5 m5 c5 _ A6 m6 c6 zs W hr hr'
  clear b1 b2 b3 hcs hb3c e1 e2 hz hu
  go_enter Try.func7, Try.ntmps7
  go_wp2_with fail
  refine (wakes_any w).mono ?_
  rintro e w1 ⟨rfl, hb1⟩
  go_wp2_with fail
  refine (N.out w1 hb1).mono ?_
  rintro e w2 ⟨v2, rfl, hv2, hb2⟩
  have hb02 := hb1.trans (hb2.mono hb1.size)
  obtain ⟨A2, m2, c2, rfl, hm2, hmc2, _, hr2, _⟩ := hv2.form
  have hm2' : m2 ≤ 1048576 := by have := hm2.out; have := HL.out; omega
  go_wp2_with fail
  refine (M1.out w2 m2 c2 A2 hr2 hm2').mono ?_
  rintro e w3 ⟨v3, rfl, hv3, hb3⟩
  have hb03 := hb02.trans (hb3.mono hb02.size)
  obtain ⟨A3, m3, c3, rfl, hm3, hmc3, _, hr3, _⟩ := hv3.form
  have hm3' : m3 ≤ 1048600 := by have := hm3.out; have := HA1.out; omega
  go_wp2_with fail
  refine (M2.out w3 m3 c3 A3 hr3 hm3').mono ?_
  rintro e w4 ⟨v4, rfl, hv4, hb4⟩
  have hb04 := hb03.trans (hb4.mono hb03.size)
  obtain ⟨A4, m4, c4, rfl, hm4, hmc4, _, hr4, _⟩ := hv4.form
  have hm4' : m4 ≤ 1048700 := by have := hm4.out; have := HA2.out; omega
  go_wp2_with fail
  refine (N'.out w4 hb04).mono ?_
  rintro e w5 ⟨v5, rfl, hv5, hb5⟩
  have hb05 := hb04.trans (hb5.mono hb04.size)
  obtain ⟨A5, m5, c5, rfl, hm5, hmc5, _, hr5, _⟩ := hv5.form
  have hm5' : m5 ≤ 1048576 := by have := hm5.out; have := HL'.out; omega
  go_wp2_with fail
  refine (M3.out w5 m4 c4 A4 m5 c5 A5 (hr4.below hb5) hm4' hr5 hm5').mono ?_
  rintro e w6 ⟨v6, rfl, hv6, hb6⟩
  rw [HCS.out] at hv6
  have hb06 := hb05.trans (hb6.mono hb05.size)
  obtain ⟨A6, m6, c6, rfl, hm6, hmc6, _, hr6, _⟩ := hv6.form
  have hm6' : m6 ≤ 2097200 := by have := hm6.out; have := HC3.out; omega
  go_wp2_with fail
  refine (F.out w6 m6 c6 A6 hr6 hm6').mono ?_
  rintro e w7 ⟨v7, rfl, hv7, hb7⟩
  have hb07 := hb06.trans (hb7.mono hb06.size)
  have hr6' := hr6.below hb7
  obtain ⟨A7, m7, c7, rfl, hm7, hmc7, _, hr7, _⟩ := hv7.form
  have hm7' : m7 ≤ 2097200 := by have := hm7.out; have := HC3.out; omega
  go_wp2_with fail
  refine (U.out A7 c7 w7 m7 hr7 hmc7 hm7').mono ?_
  rintro e w' ⟨rfl, rfl⟩
  go_wp2_with fail
  refine (F.out w7 m6 c6 A6 hr6' hm6').mono ?_
  rintro e w8 ⟨v8, rfl, hv8, hb8⟩
  have hb08 := hb07.trans (hb8.mono hb07.size)
  have hr6'' := hr6'.below hb8
  obtain ⟨A8, m8, c8, rfl, hm8, hmc8, _, hr8, _⟩ := hv8.form
  have hm8' : m8 ≤ 2097200 := by have := hm8.out; have := HC3.out; omega
  go_wp2_with fail
  refine (K.out A8 c8 w8 m8 hr8 hmc8 hm8').mono ?_
  rintro e w' ⟨rfl, rfl⟩
  go_wp2_with fail
  refine (F.out w8 m6 c6 A6 hr6'' hm6').mono ?_
  rintro e w9 ⟨v9, rfl, hv9, hb9⟩
  have hb09 := hb08.trans (hb9.mono hb08.size)
  obtain ⟨A9, m9, c9, rfl, hm9, hmc9, _, hr9, _⟩ := hv9.form
  have hm9' : m9 ≤ 2097200 := by have := hm9.out; have := HC3.out; omega
  go_wp2_with fail
  refine (B.out A9 c9 w9 m9 hr9 hmc9 hm9').mono ?_
  rintro e wa ⟨va, rfl, hva, hba⟩
  have hb0a := hb09.trans (hba.mono hb09.size)
  obtain ⟨Aa, ma, ca, rfl, hma, hmca, _, hra, _⟩ := hva.form
  go_wp2_with fail
  refine (same_any Aa ma ca _ A' n' c' ys wa hra (h'.below hb0a)).mono ?_
  rintro e w' ⟨rfl, rfl⟩
  have hmm : (cs.length : Int) = (m6 : Int) := by have := hm6.out; omega
  go_wp2
  go_ret
  exact ⟨by simp, hb0a⟩
end Go.Proofs.Ytaepjocfajiokaa
