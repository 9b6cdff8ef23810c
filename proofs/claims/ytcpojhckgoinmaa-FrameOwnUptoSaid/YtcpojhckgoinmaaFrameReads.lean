/-
  The walk of FrameReads.
-/
import Derived.Test.YtcpojhckgoinmaaFrameG
namespace Go.Proofs.Ytcpojhckgoinmaa
open Go.RowKit
set_option linter.unusedVariables false

theorem goFrom_len (xs : List UInt8) (f k : Nat) : (goFrom xs f k).1.length ≤ f := by
  induction f generalizing k with
  | zero => simp [goFrom]
  | succ f ih =>
    rw [goFrom]
    split
    · simpa using ih _
    · simp
set_option maxRecDepth 100000 in
set_option maxHeartbeats 4000000 in
theorem FrameReads_walk (A : Option Addr) (n c : Nat) (p : Int) (w : World) (xs : List UInt8) (h : RdB w A n xs) (hn : n ≤ c) (hc : c ≤ 1048576) (hp0 : -9223372036854775808 ≤ p) (hp1 : p ≤ 9223372036854775807) :
    Calls Try.prog 5 #[.slice A n c, .int .i64 p] w fun e w' => e = .returned (.bool true) ∧ Below w.heap.size w w' := by
  have hl := Lib.hid h.len
  have HX := Lib.hid h
  have HG : Hid ((allOf xs).1.length ≤ 1048577) := Lib.hid (by
    have h1 := goFrom_len xs (xs.length + 1) 0
    have h2 := hl.out
    unfold allOf
    simp only
    omega)
  have HW := Lib.hid wakes_any
  clear h
  go_enter Try.func5, Try.ntmps5
  go_wp2_with fail
  refine (HW.out w).mono ?_
  rintro e w1 ⟨rfl, hb1⟩
  go_wp2_with fail
  refine (own_any A n c w1 _ (HX.out.below hb1) (by omega)).mono ?_
  rintro e w2 ⟨v2, rfl, hv2, hb2⟩
  obtain ⟨A2, m2, c2, rfl, hm2, hmc2, _, hr2, _⟩ := hv2.form
  have hm2' : m2 ≤ 1048576 := by have := hm2.out; have := hl.out; omega
  have hb12 := hb1.trans (hb2.mono hb1.size)
  go_wp2_with fail
  refine (Read_any A2 m2 c2 p w2 _ hr2 (by omega) hmc2).mono ?_
  rintro e w3 ⟨v3, rfl, hv3, hb3⟩
  have hb13 := hb12.trans (hb3.mono hb12.size)
  go_wp2_with fail
  refine (refRead_any A n c p w3 _ (HX.out.below hb13) (by omega) hn).mono ?_
  rintro e w4 ⟨v4, rfl, hv4, hb4⟩
  have hb14 := hb13.trans (hb4.mono hb13.size)
  generalize rd xs p = r at *
  obtain ⟨r1, r2, r3⟩ := r
  dsimp only at *
  obtain ⟨A3, m3, c3, rfl, hm3, _, _, hr3, _⟩ := hv3.form
  obtain ⟨A4, m4, c4, rfl, hm4, _, _, hr4, _⟩ := hv4.form
  have R3 := Lib.hid (hr3.below hb4)
  have R4 := Lib.hid hr4
  clear hv2 hr2 hv3 hv4 hr3 hr4 hm3 hm4 hb2 hb3 hb4 hb12 hb13 hb1
  go_wp2_with fail
  refine (own_any A n c w4 _ (HX.out.below hb14) (by omega)).mono ?_
  rintro e w5 ⟨v5, rfl, hv5, hb5⟩
  obtain ⟨A5, m5, c5, rfl, hm5, hmc5, _, hr5, _⟩ := hv5.form
  have hm5' : m5 ≤ 1048576 := by have := hm5.out; have := hl.out; omega
  have hb15 := hb14.trans (hb5.mono hb14.size)
  go_wp2_with fail
  refine (All_any A5 m5 c5 w5 _ hr5 (by omega) hmc5).mono ?_
  rintro e w6 ⟨v6, rfl, hv6, hb6⟩
  have hb16 := hb15.trans (hb6.mono hb15.size)
  go_wp2_with fail
  refine (refAll_any A n c w6 _ (HX.out.below hb16) (by omega) hn).mono ?_
  rintro e w7 ⟨v7, rfl, hv7, hb7⟩
  have hb17 := hb16.trans (hb7.mono hb16.size)
  have R37 := Lib.hid (((R3.out.below hb5).below hb6).below hb7)
  have R47 := Lib.hid (((R4.out.below hb5).below hb6).below hb7)
  have P6 := Lib.hid (hv6.below hb7)
  have P7 := Lib.hid hv7
  generalize allOf xs = q at *
  obtain ⟨q1, q2, q3⟩ := q
  dsimp only at *
  clear hv5 hr5 hv6 hv7 hb5 hb6 hb7 hb14 hb15 hb16 R3 R4 hm2 hm5
  go_wp2_with fail
  refine (same_any A3 m3 c3 _ A4 m4 c4 _ w7 R37.out R47.out).mono ?_
  rintro e w' ⟨rfl, rfl⟩
  rw [show decide (r1 = r1) = true from decide_eq_true rfl]
  go_wp2_with fail
  refine (SameP_any v6 v7 _ _ q1 q1 _ P6.out P7.out (by have := HG.out; omega) (by have := HG.out; omega)).mono ?_
  rintro e w8 ⟨rfl, hb8⟩
  rw [show decide (q1 = q1) = true from decide_eq_true rfl]
  go_wp2
  go_ret
  exact ⟨rfl, hb17.trans (hb8.mono hb17.size)⟩
end Go.Proofs.Ytcpojhckgoinmaa
