/-
  The walk of the reference's Split: refusals. No statement is proved here.
-/
import Derived.Test.YtjniclalobggpaaDoorSplX
import Derived.Test.YtjniclalobggpaaDoorAmN10
namespace Go.Proofs.YtjniclalobggpaaDoor
open Go.RowKit Go.Shelf Go.Sort
set_option linter.unusedVariables false

/-! ### refusals -/
section
variable {w : World} {b off n : Nat} {x : Nat → Int}
set_option maxHeartbeats 1000000 in
theorem refSplit_long (total : Int) (A : Option Addr) (n c : Nat) (w : World) (h : n < 1 ∨ 1024 < n) :
    Calls Tryd.prog 18 #[.int .i64 total, .slice A n c] w fun e w' => e = .returned (.tuple #[.slice none 0 0, .int .i64 3]) ∧ Below w.heap.size w w' := by
  rcases h with h | h
  · obtain rfl : n = 0 := by omega
    go_enter Tryd.func18, Tryd.ntmps18
    go_wp2
    go_ret2
    exact ⟨rfl, Below.refl _ _⟩
  · have h1 : ((n : Int) == 0) = false := by rw [beq_eq_false_iff_ne]; omega
    have h2 : decide (1024 < (n : Int)) = true := decide_eq_true (by omega)
    have h4 : (1024 : Int) < n := by omega
    go_enter Tryd.func18, Tryd.ntmps18
    go_wp2
    go_ret2
    exact ⟨rfl, Below.refl _ _⟩
set_option maxHeartbeats 1000000 in
theorem refSplit_bad (total : Int) (c : Nat) (ws : List Nat) (k : Nat) (h1 : 1 ≤ n) (h2 : n ≤ 1024) (hc : ∀ j, j < n → w.cell? ⟨b, off + j, none⟩ = some (.int .i64 (x j)))
    (hk : k < n) (hok : ∀ j, j < k → x j = (wAt ws j : Int) ∧ wAt ws j ≤ 1000000000) (hbad : x k < 0 ∨ 1000000000 < x k) :
    Calls Tryd.prog 18 #[.int .i64 total, .slice (some ⟨b, off, none⟩) n c] w fun e w' => e = .returned (.tuple #[.slice none 0 0, .int .i64 2]) ∧ Below w.heap.size w w' := by
  have g1 : ((n : Int) == 0) = false := by rw [beq_eq_false_iff_ne]; omega
  have g2 : ¬ (1024 : Int) < n := by omega
  have HC := Lib.hid hc
  have HK := Lib.hid hok
  have HS : Hid (∀ j, j ≤ k → wsum ws j ≤ j * 1000000000) := Lib.hid fun j hj => sumTo_le _ _ _ fun i hi => (hok i (by omega)).2
  clear hc hok
  go_enter Tryd.func18, Tryd.ntmps18
  go_wp2_with fail
  go_loopw [6, 29] (fun s i wr => ∃ j : Nat, j ≤ k ∧ s = .int .i64 (wsum ws j : Nat) ∧ i = .int .i64 j ∧ wr = w) (fun _ i _ => k - (intOf i).toNat)
  case atStart => exact ⟨0, by omega, rfl, rfl, rfl⟩
  case round =>
    obtain ⟨j, hj, rfl, rfl, rfl⟩ := hrel
    have hcj := HC.out j (by omega)
    have hjn : (j : Int) < (n : Int) := by omega
    by_cases hlt : j < k
    · have hs := HS.out j (by omega)
      have hs2 := HS.out (j + 1) (by omega)
      obtain ⟨e1, e2⟩ := HK.out j hlt
      rw [e1] at hcj
      have q1 : ¬ (wAt ws j : Int) < 0 := by omega
      have q2 : ¬ (1000000000 : Int) < (wAt ws j : Int) := by omega
      have q3 : wsum ws (j + 1) = wsum ws j + wAt ws j := rfl
      have hsb : wsum ws j ≤ 1024000000000 := by omega
      have Q3 := Lib.hid q3
      clear e1 q3 hs hs2 hbad
      generalize wAt ws j = a at *
      generalize wsum ws j = s at *
      go_wp2_with fail
      go_roundw
      case rel => exact ⟨j + 1, by omega, congrArg (Value.int .i64) (by rw [Q3.out]; omega), by go_num, by simp⟩
      case measure => simp [intOf]; omega
    · obtain rfl : j = k := by omega
      rcases hbad with hb | hb
      · go_wp2
        go_ret2
        exact ⟨rfl, Below.refl _ _⟩
      · have q1 : ¬ x j < 0 := by omega
        go_wp2
        go_ret2
        exact ⟨rfl, Below.refl _ _⟩
end
set_option maxHeartbeats 1000000 in
theorem refSplit_zero (total : Int) (c : Nat) (ws : List Nat) (b off n : Nat) (x : Nat → Int) (w : World) (h1 : 1 ≤ n) (h2 : n ≤ 1024) (hc : ∀ j, j < n → w.cell? ⟨b, off + j, none⟩ = some (.int .i64 (x j)))
    (hok : ∀ j, j < n → x j = (wAt ws j : Int) ∧ wAt ws j ≤ 1000000000) (hbad : wsum ws n = 0 ∨ total < -1000000000000000 ∨ 1000000000000000 < total) :
    Calls Tryd.prog 18 #[.int .i64 total, .slice (some ⟨b, off, none⟩) n c] w fun e w' => e = .returned (.tuple #[.slice none 0 0, .int .i64 2]) ∧ Below w.heap.size w w' := by
  have g1 : ((n : Int) == 0) = false := by rw [beq_eq_false_iff_ne]; omega
  have g2 : ¬ (1024 : Int) < n := by omega
  have HC := Lib.hid hc
  have HK := Lib.hid hok
  have HB := Lib.hid hbad
  have HS : Hid (∀ j, j ≤ n → wsum ws j ≤ j * 1000000000) := Lib.hid fun j hj => sumTo_le _ _ _ fun i hi => (hok i (by omega)).2
  clear hc hok hbad
  go_enter Tryd.func18, Tryd.ntmps18
  go_wp2_with fail
  go_loopw [6, 29] (fun s i wr => ∃ j : Nat, j ≤ n ∧ s = .int .i64 (wsum ws j : Nat) ∧ i = .int .i64 j ∧ wr = w) (fun _ i _ => n - (intOf i).toNat)
  case atStart => exact ⟨0, by omega, rfl, rfl, rfl⟩
  case round =>
    obtain ⟨j, hj, rfl, rfl, rfl⟩ := hrel
    by_cases hlt : j < n
    · have hcj := HC.out j hlt
      have hjn : (j : Int) < (n : Int) := by omega
      have hs := HS.out j (by omega)
      have hs2 := HS.out (j + 1) (by omega)
      obtain ⟨e1, e2⟩ := HK.out j hlt
      rw [e1] at hcj
      have q1 : ¬ (wAt ws j : Int) < 0 := by omega
      have q2 : ¬ (1000000000 : Int) < (wAt ws j : Int) := by omega
      have q3 : wsum ws (j + 1) = wsum ws j + wAt ws j := rfl
      have hsb : wsum ws j ≤ 1024000000000 := by omega
      have Q3 := Lib.hid q3
      clear e1 q3 hs hs2
      generalize wAt ws j = a at *
      generalize wsum ws j = s at *
      go_wp2_with fail
      go_roundw
      case rel => exact ⟨j + 1, by omega, congrArg (Value.int .i64) (by rw [Q3.out]; omega), by go_num, by simp⟩
      case measure => simp [intOf]; omega
    · obtain rfl : j = n := by omega
      have hbad := HB.out
      by_cases z : wsum ws j = 0
      · have z1 : (((wsum ws j : Nat) : Int) == 0) = true := by rw [z]; rfl
        clear hbad z HS
        go_wp2
        go_ret2
        exact ⟨rfl, Below.refl _ _⟩
      · have z1 : (((wsum ws j : Nat) : Int) == 0) = false := by rw [beq_eq_false_iff_ne]; omega
        by_cases y : total < -1000000000000000
        · clear hbad z HS
          go_wp2
          go_ret2
          exact ⟨rfl, Below.refl _ _⟩
        · have y2 : 1000000000000000 < total := by omega
          clear hbad z HS
          go_wp2
          go_ret2
          exact ⟨rfl, Below.refl _ _⟩
end Go.Proofs.YtjniclalobggpaaDoor
