/-
  The laws' first question (wakes) of layer 4.
-/
import Derived.Test.YtaepjocfajiokaaVarintW3
namespace Go.Proofs.Ytaepjocfajiokaa
open Go.RowKit
set_option linter.unusedVariables false

theorem k300 : enc 300 = [172, 2] := by decide +kernel
theorem u300 : uintAt [9, 172, 2] 1 = (300, 3, 0) := by decide +kernel
theorem u128 : uintAt [128, 0] 0 = (0, 0, 11) := by decide +kernel
theorem bAB : bytesAt [2, 65, 66] 0 9 = ([65, 66], 3, 0) := by decide +kernel
theorem z1 : enc (zig (-1)) = [1] := by decide +kernel

set_option maxHeartbeats 1000000 in
theorem wakes_any (w : World) :
    Calls Try.prog 8 #[] w fun e w' => e = .returned (.bool true) ∧ Below w.heap.size w w' := by
  go_enter Try.func8, Try.ntmps8
  go_wp2_with fail
  refine (AppendUint_any _ 1 1 300 _ [9] (RdB.lit w _ [9] rfl 1 rfl) (by omega) (by omega)).mono ?_
  rintro e w1 ⟨v1, rfl, hv1, hb1⟩
  have hb01 : Below w.heap.size w w1 := (below_alloc (Below.refl _ _) _).trans (hb1.mono (by simp))
  rw [k300] at hv1
  simp only [List.cons_append, List.nil_append] at hv1
  obtain ⟨A1, m1, c1, rfl, hm1, hmc1, _, hr1, _⟩ := hv1.form
  obtain rfl : m1 = 3 := hm1.out.symm
  go_wp2_with fail
  refine (own_any A1 3 c1 w1 _ hr1 (by omega)).mono ?_
  rintro e w2 ⟨v2, rfl, hv2, hb2⟩
  have hb02 := hb01.trans (hb2.mono hb01.size)
  obtain ⟨A2, m2, c2, rfl, hm2, hmc2, _, hr2, _⟩ := hv2.form
  obtain rfl : m2 = 3 := hm2.out.symm
  go_wp2_with fail
  have U1 := Lib.hid (Uint_any A2 3 c2 1 w2 _ hr2 hmc2 (by omega))
  rw [u300] at U1
  refine U1.out.mono ?_
  rintro e w' ⟨rfl, rfl⟩
  go_wp2_with fail
  have U2 := Lib.hid (Uint_any _ 2 2 0 _ [128, 0] (RdB.lit w2 _ [128, 0] rfl 2 rfl) (by omega) (by omega))
  rw [u128] at U2
  refine U2.out.mono ?_
  rintro e w3 ⟨rfl, hw3⟩
  have hb03 : Below w.heap.size w w3 := by rw [← hw3]; exact below_alloc hb02 _
  have hr1' : RdB w3 A1 3 [9, 172, 2] := by rw [← hw3]; exact (hr1.below hb2).alloc _
  clear hw3 U1 U2
  go_wp2_with fail
  have B1 := Lib.hid (Bytes_any _ 3 3 0 9 _ [2, 65, 66] (RdB.lit w3 _ [2, 65, 66] rfl 3 rfl) (by omega) (by omega) (by omega) (by omega))
  rw [bAB] at B1
  refine B1.out.mono ?_
  rintro e w4 ⟨v4, rfl, hv4, hb4⟩
  have hb04 : Below w.heap.size w w4 := (below_alloc hb03 _).trans (hb4.mono (by have := hb03.size; simp; omega))
  obtain ⟨A4, m4, c4, rfl, hm4, hmc4, _, hr4, _⟩ := hv4.form
  obtain rfl : m4 = 2 := hm4.out.symm
  have hr1'' : RdB w4 A1 3 [9, 172, 2] := (hr1'.alloc _).below hb4
  obtain ⟨b1, o1, rfl⟩ := hr1''.addr (by omega)
  have hc1 := hr1''.cells 1 (by simp)
  have K := hr4.conv (P := Try.prog) (src := 22) (dst := 9) Try.underlying22 Try.underlying5 Try.underlying9 c4
  have hidx : (1 : Int) < ((3 : Nat) : Int) := by omega
  clear B1
  have N := Lib.hid (AppendInt_any none 0 0 (-1) w4 [] (RdB.nil _ _) (by omega) (by omega) (by omega))
  rw [z1] at N
  go_wp2_with (go_at_call 14; refine N.out.mono ?_; rintro e w5 ⟨v5, rfl, hv5, hb5⟩; obtain ⟨A5, m5, c5, rfl, hm5, _⟩ := hv5.form; obtain rfl : m5 = 1 := hm5.out.symm)
  go_ret
  exact ⟨rfl, hb04.trans (hb5.mono hb04.size)⟩
end Go.Proofs.Ytaepjocfajiokaa
