import Derived.Test.YtcpojhckgoinmaaFrameW5
import Derived.Lib.SlBytesConst
namespace Go.Proofs.Ytcpojhckgoinmaa
open Go.RowKit
set_option linter.unusedVariables false

theorem Sum_any (A : Option Addr) (n c : Nat) (w : World) (xs : List UInt8) (h : RdB w A n xs) (hn : n ≤ 9223372036854775807) :
    Calls Try.prog 10 #[.slice A n c] w fun e w' => e = .returned (.int .u32 (crc xs : Nat)) ∧ Below w.heap.size w w' := by
  have S := (sum_any (w.alloc (.cells #[.slice A n c] 22)) w.heap.size 1 1 [⟨A, n, c, xs⟩] rfl (by omega) (fun k hk => by
    obtain rfl : k = 0 := by simp at hk; omega
    rw [cell_of_row _ _ _ _ _ _ (heap_alloc_new w _)]; rfl) (fun k hk => by
    obtain rfl : k = 0 := by simp at hk; omega
    exact h.alloc _) (fun k hk => by
    obtain rfl : k = 0 := by simp at hk; omega
    exact hn))
  have S := Lib.hid S
  go_enter Try.func10, Try.ntmps10
  go_wp2_with (go_at_call 21; refine S.out.mono ?_; rintro e w1 ⟨rfl, hb1⟩)
  go_ret
  exact ⟨ret_int (by simp), ((Below.refl _ _).alloc (Nat.le_refl _) _).trans (hb1.mono (by simp))⟩

theorem frameNil : frameOf [] = [0, 0, 0, 0, 28, 223, 68, 33] := by decide +kernel
theorem rdNil : rd (frameOf []) 0 = ([], 8, 0) := by rw [frameNil]; decide +kernel
def digits19 : List UInt8 := [49, 50, 51, 52, 53, 54, 55, 56, 57]
theorem crc19 : crc digits19 = 3421780262 := by decide +kernel

set_option maxHeartbeats 400000 in
theorem wakes_any (w : World) :
    Calls Try.prog 9 #[] w fun e w' => e = .returned (.bool true) ∧ Below w.heap.size w w' := by
  go_enter Try.func9, Try.ntmps9
  go_wp2_with fail
  refine (Put_ok none 0 0 w [] (RdB.nil _ _) (by omega)).mono ?_
  rintro e w1 ⟨v1, rfl, hv1, hb1⟩
  rw [frameNil] at hv1
  obtain ⟨A1, m1, c1, rfl, hm1, hmc1, _, hr1, _⟩ := hv1.form
  have hm1' : m1 ≤ 8 := by have := hm1.out; simp at this; omega
  go_wp2_with fail
  refine (own_any A1 m1 c1 w1 _ hr1 (by omega)).mono ?_
  rintro e w2 ⟨v2, rfl, hv2, hb2⟩
  obtain ⟨A2, m2, c2, rfl, hm2, hmc2, _, hr2, _⟩ := hv2.form
  have hm2' : m2 ≤ 8 := by have := hm2.out; simp at this; omega
  go_wp2_with fail
  have R := Read_any A2 m2 c2 0 w2 _ hr2 (by omega) hmc2
  rw [← frameNil, rdNil] at R
  refine R.mono ?_
  rintro e w3 ⟨v3, rfl, hv3, hb3⟩
  obtain ⟨A3, m3, c3, rfl, hm3, hmc3, _, hr3, _⟩ := hv3.form
  have hm3' : m3 ≤ 0 := by have := hm3.out; simp at this; omega
  obtain rfl : m3 = 0 := by omega
  have hb12 := hb1.trans (hb2.mono hb1.size)
  have hb13 := hb12.trans (hb3.mono hb12.size)
  have K := ((hr1.below hb2).below hb3).conv (P := Try.prog) (src := 22) (dst := 9) Try.underlying22 Try.underlying5 Try.underlying9 c1
  have kc := fun (w : World) (C : Array Value) (n c : Nat) => Lib.run_convert_bytes_const (P := Try.prog) w 22 5 C n c Try.underlying22 Try.underlying5
  have hd := RdB.litf w3 #[.int .u8 49, .int .u8 50, .int .u8 51, .int .u8 52, .int .u8 53, .int .u8 54, .int .u8 55, .int .u8 56, .int .u8 57] (9, 10) digits19 rfl 9 rfl
  go_wp2_with (go_at_call 10; refine (Sum_any _ 9 9 _ _ hd (by omega)).mono ?_; rintro e w4 ⟨rfl, hb4⟩)
  have HC := crc19
  go_ret
  exact ⟨ret_bool (by rw [HC]; rfl), (below_alloc hb13 _).trans (hb4.mono (by have := hb13.size; simp; omega))⟩
end Go.Proofs.Ytcpojhckgoinmaa
