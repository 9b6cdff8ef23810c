/-
  The walk of the law FrameWrites: whatever the bytes and the number, it returns true.
-/
import Derived.Test.YtcpojhckgoinmaaFrameW6
namespace Go.Proofs.Ytcpojhckgoinmaa
open Go.RowKit
set_option linter.unusedVariables false

theorem make_big (w : World) : (Instr.makeSlice 22 (.int .i64 2097153) (.int .i64 2097153)).run Try.prog w = .ok (.slice (some ⟨w.heap.size, 0, none⟩) 2097153 2097153) (w.alloc (.cells (madeCells #[.int .u8 0] 2097153) 5)) := by
  obtain ⟨i0, hi, hz0, hz1, hz2⟩ := info_parts infoU8
  have h := run_make (P := Try.prog) w 22 5 i0 (.int .u8 0) Try.underlying22 hi hz0 .i64 .i64 2097153 2097153 (by omega) (by omega) (by rw [hz2]; omega) (by omega)
  rw [hz1] at h
  exact h

set_option maxHeartbeats 1000000 in
theorem FrameWrites_walk (A : Option Addr) (n c : Nat) (p : Int) (w : World) (xs : List UInt8) (h : RdB w A n xs) (hn : n ≤ c) (hc : c ≤ 140737488351232) (hp0 : -9223372036854775808 ≤ p) (hp1 : p ≤ 9223372036854775807) :
    Calls Try.prog 4 #[.slice A n c, .int .i64 p] w fun e w' => e = .returned (.bool true) ∧ Below w.heap.size w w' := by
  have hl := Lib.hid h.len
  have hmk := make_big
  have tail : ∀ w0 : World, Hid (Calls Try.prog 13 #[.slice (some ⟨w0.heap.size, 0, none⟩) 2097153 2097153] (w0.alloc (.cells (madeCells #[.int .u8 0] 2097153) 5)) fun e w' => e = .returned (.tuple #[.slice none 0 0, .int .i64 3]) ∧ w0.alloc (.cells (madeCells #[.int .u8 0] 2097153) 5) = w') :=
    fun w0 => Put_long _ 2097153 2097153 _ (by omega) (by omega)
  by_cases hbig : 2097152 < n
  · by_cases hp : (bits .and .i64 p 63 != 1) = true
    all_goals
      go_enter Try.func4, Try.ntmps4
      go_wp2_with fail
      refine (wakes_any w).mono ?_
      rintro e w1 ⟨rfl, hb1⟩
      go_wp2_with fail
      refine (own_any A n c w1 _ (h.below hb1) (by omega)).mono ?_
      rintro e w2 ⟨v2, rfl, hv2, hb2⟩
      obtain ⟨A2, m2, c2, rfl, hm2, hmc2, _, hr2, _⟩ := hv2.form
      have hm2' : m2 ≤ n := by have := hm2.out; have := hl.out; omega
      have hm2'' : n ≤ m2 := by have := hm2.out; have := hl.out; omega
      have hb12 := hb1.trans (hb2.mono hb1.size)
      go_wp2_with fail
      refine (Put_long A2 m2 c2 w2 (by omega) (by omega)).mono ?_
      rintro e w' ⟨rfl, rfl⟩
      go_wp2_with fail
      refine (refPut_long A n c w2 (by omega) (by omega)).mono ?_
      rintro e w' ⟨rfl, rfl⟩
      go_wp2_with fail
      refine (same_any none 0 0 [] none 0 0 [] w2 (RdB.nil _ _) (RdB.nil _ _)).mono ?_
      rintro e w' ⟨rfl, rfl⟩
      go_wp2_with (go_at_call 13; refine (tail _).out.mono ?_; rintro e w' ⟨rfl, rfl⟩)
      go_ret
      first | exact ⟨rfl, hb12⟩ | exact ⟨rfl, below_alloc hb12 _⟩
  · by_cases hp : (bits .and .i64 p 63 != 1) = true
    all_goals
      go_enter Try.func4, Try.ntmps4
      go_wp2_with fail
      refine (wakes_any w).mono ?_
      rintro e w1 ⟨rfl, hb1⟩
      go_wp2_with fail
      refine (own_any A n c w1 _ (h.below hb1) (by omega)).mono ?_
      rintro e w2 ⟨v2, rfl, hv2, hb2⟩
      obtain ⟨A2, m2, c2, rfl, hm2, hmc2, _, hr2, _⟩ := hv2.form
      have hm2' : m2 ≤ n := by have := hm2.out; have := hl.out; omega
      have hb12 := hb1.trans (hb2.mono hb1.size)
      go_wp2_with fail
      refine (Put_ok A2 m2 c2 w2 _ hr2 (by omega)).mono ?_
      rintro e w3 ⟨v3, rfl, hv3, hb3⟩
      obtain ⟨A3, m3, c3, rfl, hm3, hmc3, _, hr3, _⟩ := hv3.form
      have hb13 := hb12.trans (hb3.mono hb12.size)
      go_wp2_with fail
      refine (refPut_ok A n c w3 _ (h.below hb13) (by omega)).mono ?_
      rintro e w4 ⟨v4, rfl, hv4, hb4⟩
      obtain ⟨A4, m4, c4, rfl, hm4, hmc4, _, hr4, _⟩ := hv4.form
      have hb14 := hb13.trans (hb4.mono hb13.size)
      go_wp2_with fail
      refine (same_any A3 m3 c3 _ A4 m4 c4 _ w4 (hr3.below hb4) hr4).mono ?_
      rintro e w' ⟨rfl, rfl⟩
      simp only [decide_true]
      go_wp2_with (go_at_call 13; refine (tail _).out.mono ?_; rintro e w' ⟨rfl, rfl⟩)
      go_ret
      first | exact ⟨rfl, hb14⟩ | exact ⟨rfl, below_alloc hb14 _⟩
end Go.Proofs.Ytcpojhckgoinmaa
