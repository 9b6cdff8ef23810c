/-
  The walks of Add and Sub, the program's and the document's. No statement is proved here.
-/
import Derived.Test.YtjniclalobggpaaDoorAmP2
namespace Go.Proofs.YtjniclalobggpaaDoor
open Go.RowKit Go.Shelf
set_option linter.unusedVariables false

/-- A sum, or that it is too great. -/
def fitOf (s : Int) : Int × Int := if -9223372036854775808 ≤ s ∧ s ≤ 9223372036854775807 then (s, 0) else (0, 4)
theorem fit_in (s : Int) (h0 : -9223372036854775808 ≤ s) (h1 : s ≤ 9223372036854775807) : fitOf s = (s, 0) := if_pos ⟨h0, h1⟩
theorem fit_out (s : Int) (h : s < -9223372036854775808 ∨ 9223372036854775807 < s) : fitOf s = (0, 4) := if_neg (by omega)
theorem dec_lt {x : Int} {b : Bool} (h : decide (x < 0) = b) : (x < 0 ↔ b = true) := by rw [← h, decide_eq_true_iff]
theorem addBits (a b s : Int) (a0 : -9223372036854775808 ≤ a) (a1 : a ≤ 9223372036854775807) (b0 : -9223372036854775808 ≤ b) (b1 : b ≤ 9223372036854775807) (s0 : -9223372036854775808 ≤ s) (s1 : s ≤ 9223372036854775807) :
    bits .and .i64 (bits .xor .i64 a s) (bits .xor .i64 b s) < 0 ↔ ((a < 0 ∧ 0 ≤ s) ∨ (0 ≤ a ∧ s < 0)) ∧ ((b < 0 ∧ 0 ≤ s) ∨ (0 ≤ b ∧ s < 0)) := by
  have X1 := xorS a s a0 a1 s0 s1
  have X2 := xorS b s b0 b1 s0 s1
  have X3 := andS _ _ X1.2.1 X1.2.2 X2.2.1 X2.2.2
  rw [dec_lt (X3.1.trans (by rw [X1.1, X2.1]))]
  by_cases h1 : a < 0 <;> by_cases h2 : b < 0 <;> by_cases h3 : s < 0 <;> simp [h1, h2, h3] <;> omega
theorem subBits (a b s : Int) (a0 : -9223372036854775808 ≤ a) (a1 : a ≤ 9223372036854775807) (b0 : -9223372036854775808 ≤ b) (b1 : b ≤ 9223372036854775807) (s0 : -9223372036854775808 ≤ s) (s1 : s ≤ 9223372036854775807) :
    bits .and .i64 (bits .xor .i64 a b) (bits .xor .i64 a s) < 0 ↔ ((a < 0 ∧ 0 ≤ b) ∨ (0 ≤ a ∧ b < 0)) ∧ ((a < 0 ∧ 0 ≤ s) ∨ (0 ≤ a ∧ s < 0)) := by
  have X1 := xorS a b a0 a1 b0 b1
  have X2 := xorS a s a0 a1 s0 s1
  have X3 := andS _ _ X1.2.1 X1.2.2 X2.2.1 X2.2.2
  rw [dec_lt (X3.1.trans (by rw [X1.1, X2.1]))]
  by_cases h1 : a < 0 <;> by_cases h2 : b < 0 <;> by_cases h3 : s < 0 <;> simp [h1, h2, h3] <;> omega
set_option maxHeartbeats 1000000 in
theorem Add_any (a b : Int) (w : World) (a0 : -9223372036854775808 ≤ a) (a1 : a ≤ 9223372036854775807) (b0 : -9223372036854775808 ≤ b) (b1 : b ≤ 9223372036854775807) :
    Calls Tryd.prog 25 #[.int .i64 a, .int .i64 b] w fun e w' => e = .returned (.tuple #[.int .i64 (fitOf (a + b)).1, .int .i64 (fitOf (a + b)).2]) ∧ w' = w := by
  by_cases h : -9223372036854775808 ≤ a + b ∧ a + b ≤ 9223372036854775807
  · rw [fit_in _ h.1 h.2]
    obtain ⟨h0, h1⟩ := h
    have B := addBits a b (a + b) a0 a1 b0 b1 h0 h1
    have hn : ¬ bits .and .i64 (bits .xor .i64 a (a + b)) (bits .xor .i64 b (a + b)) < 0 := by rw [B]; omega
    clear B
    go_enter Tryd.func25, Tryd.ntmps25
    go_wp2
    go_ret2
    exact ⟨rfl, rfl⟩
  · rw [fit_out _ (by omega)]
    have hw0 : -9223372036854775808 ≤ wrap64 (a + b) := by unfold wrap64; omega
    have hw1 : wrap64 (a + b) ≤ 9223372036854775807 := by unfold wrap64; omega
    have B := addBits a b (wrap64 (a + b)) a0 a1 b0 b1 hw0 hw1
    have hn : bits .and .i64 (bits .xor .i64 a (wrap64 (a + b))) (bits .xor .i64 b (wrap64 (a + b))) < 0 := by rw [B]; unfold wrap64; omega
    clear B hw0 hw1
    go_enter Tryd.func25, Tryd.ntmps25
    go_wp2
    go_ret2
    exact ⟨rfl, rfl⟩
set_option maxHeartbeats 1000000 in
theorem Sub_any (a b : Int) (w : World) (a0 : -9223372036854775808 ≤ a) (a1 : a ≤ 9223372036854775807) (b0 : -9223372036854775808 ≤ b) (b1 : b ≤ 9223372036854775807) :
    Calls Tryd.prog 26 #[.int .i64 a, .int .i64 b] w fun e w' => e = .returned (.tuple #[.int .i64 (fitOf (a - b)).1, .int .i64 (fitOf (a - b)).2]) ∧ w' = w := by
  by_cases h : -9223372036854775808 ≤ a - b ∧ a - b ≤ 9223372036854775807
  · rw [fit_in _ h.1 h.2]
    obtain ⟨h0, h1⟩ := h
    have B := subBits a b (a - b) a0 a1 b0 b1 h0 h1
    have hn : ¬ bits .and .i64 (bits .xor .i64 a b) (bits .xor .i64 a (a - b)) < 0 := by rw [B]; omega
    clear B
    go_enter Tryd.func26, Tryd.ntmps26
    go_wp2
    go_ret2
    exact ⟨rfl, rfl⟩
  · rw [fit_out _ (by omega)]
    have hw0 : -9223372036854775808 ≤ wrap64 (a - b) := by unfold wrap64; omega
    have hw1 : wrap64 (a - b) ≤ 9223372036854775807 := by unfold wrap64; omega
    have B := subBits a b (wrap64 (a - b)) a0 a1 b0 b1 hw0 hw1
    have hn : bits .and .i64 (bits .xor .i64 a b) (bits .xor .i64 a (wrap64 (a - b))) < 0 := by rw [B]; unfold wrap64; omega
    clear B hw0 hw1
    go_enter Tryd.func26, Tryd.ntmps26
    go_wp2
    go_ret2
    exact ⟨rfl, rfl⟩
set_option maxHeartbeats 1000000 in
theorem refAdd_any (a b : Int) (w : World) (a0 : -9223372036854775808 ≤ a) (a1 : a ≤ 9223372036854775807) (b0 : -9223372036854775808 ≤ b) (b1 : b ≤ 9223372036854775807) :
    Calls Tryd.prog 27 #[.int .i64 a, .int .i64 b] w fun e w' => e = .returned (.tuple #[.int .i64 (fitOf (a + b)).1, .int .i64 (fitOf (a + b)).2]) ∧ w' = w := by
  by_cases h : -9223372036854775808 ≤ a + b ∧ a + b ≤ 9223372036854775807
  · rw [fit_in _ h.1 h.2]
    obtain ⟨h0, h1⟩ := h
    rcases (show b < 0 ∨ b = 0 ∨ 0 < b by omega) with hb | rfl | hb
    all_goals
      go_enter Tryd.func27, Tryd.ntmps27
      go_wp2
      go_ret2
      exact ⟨by simp, rfl⟩
  · rw [fit_out _ (by omega)]
    rcases (show b < 0 ∨ 0 < b by omega) with hb | hb
    all_goals
      go_enter Tryd.func27, Tryd.ntmps27
      go_wp2
      go_ret2
      exact ⟨rfl, rfl⟩
set_option maxHeartbeats 1000000 in
theorem refSub_any (a b : Int) (w : World) (a0 : -9223372036854775808 ≤ a) (a1 : a ≤ 9223372036854775807) (b0 : -9223372036854775808 ≤ b) (b1 : b ≤ 9223372036854775807) :
    Calls Tryd.prog 28 #[.int .i64 a, .int .i64 b] w fun e w' => e = .returned (.tuple #[.int .i64 (fitOf (a - b)).1, .int .i64 (fitOf (a - b)).2]) ∧ w' = w := by
  by_cases h : -9223372036854775808 ≤ a - b ∧ a - b ≤ 9223372036854775807
  · rw [fit_in _ h.1 h.2]
    obtain ⟨h0, h1⟩ := h
    rcases (show b < 0 ∨ b = 0 ∨ 0 < b by omega) with hb | rfl | hb
    all_goals
      go_enter Tryd.func28, Tryd.ntmps28
      go_wp2
      go_ret2
      exact ⟨by simp, rfl⟩
  · rw [fit_out _ (by omega)]
    rcases (show b < 0 ∨ 0 < b by omega) with hb | hb
    all_goals
      go_enter Tryd.func28, Tryd.ntmps28
      go_wp2
      go_ret2
      exact ⟨rfl, rfl⟩
end Go.Proofs.YtjniclalobggpaaDoor
