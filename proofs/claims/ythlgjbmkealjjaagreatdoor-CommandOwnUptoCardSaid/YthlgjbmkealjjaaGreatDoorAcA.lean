/-
  Joined texts: AcNm AcNr. No statement is proved here.
-/
import Derived.Shelf.GgClosure.StringsIndexFuncTop
import Derived.Test.YthlgjbmkealjjaaGreatDoorLib
import Derived.Test.YthlgjbmkealjjaaGreatDoorProg
import Derived.Laws.RangeAny
namespace Go.Proofs.YthlgjbmkealjjaaGreatDoor
open Go.RowKit Go.Lib Go.Shelf
set_option linter.unusedVariables false

def contains_ren : Go.Shelf.Ren := ⟨fun | 17 => 84 | 15 => 109 | 20 => 123 | n => n, fun | 9 => 9 | 23 => 123 | 4 => 4 | 3 => 3 | 0 => 0 | 21 => 21 | n => n, fun | n => n⟩
theorem contains_lays : Go.Proofs.LaysGw.n17 Tryz.prog contains_ren := {
  mixed := by kernel_rfl
  f15 := Tryz.func109.trans (congrArg some (by kernel_rfl))
  f17 := Tryz.func84.trans (congrArg some (by kernel_rfl))
  f20 := Tryz.func123.trans (congrArg some (by kernel_rfl))
  t0 := Tryz.underlying0
  a0 := Tryz.isAgg0
  z0 := Tryz.sizeOf0
  v0 := Tryz.zeroValue0
  i0 := by kernel_rfl
  t3 := Tryz.underlying3
  a3 := Tryz.isAgg3
  z3 := Tryz.sizeOf3
  v3 := Tryz.zeroValue3
  i3 := by kernel_rfl
  t4 := Tryz.underlying4
  a4 := Tryz.isAgg4
  z4 := Tryz.sizeOf4
  v4 := Tryz.zeroValue4
  i4 := by kernel_rfl
  t9 := Tryz.underlying9
  a9 := Tryz.isAgg9
  z9 := Tryz.sizeOf9
  v9 := Tryz.zeroValue9
  i9 := by kernel_rfl
  t21 := Tryz.underlying21
  a21 := Tryz.isAgg21
  z21 := Tryz.sizeOf21
  v21 := Tryz.zeroValue21
  i21 := by kernel_rfl
  t23 := Tryz.underlying123
  a23 := Tryz.isAgg123
  z23 := Tryz.sizeOf123
  v23 := Tryz.zeroValue123
  i23 := by kernel_rfl }
theorem containsFunc_any (g : Nat) (lb : Array Value) (eg : ∀ args w, (callFunc g args).run Tryz.prog w = .ok (.enter g args) w) (p : Nat → Bool) (s : ByteArray) (w : World) (hp : PredAt Tryz.prog g lb encR p w) :
    Calls Tryz.prog 84 #[.string s, .func (.func g) #[] lb] w fun e w' => e = .returned (.bool (decide (0 ≤ Lib.idxFunc p true s))) ∧ Below w.heap.size w w' := Any.strings_ContainsFunc contains_lays g lb eg p s w hp

/-- What a name's letters may not be. -/
def notLetter (r : Nat) : Bool := (decide (r < 97) || decide (122 < r)) && (decide (r < 48) || decide (57 < r))
theorem letter_pred (w : World) : PredAt Tryz.prog 85 #[] encR notLetter w := fun W r _ => by
  unfold FnGives notLetter
  by_cases h1 : r < 97 <;> by_cases h2 : 122 < r <;> by_cases h3 : r < 48 <;> by_cases h4 : 57 < r
  all_goals try (exfalso; omega)
  all_goals
    have z1 : ((r : Int) < 97) ↔ r < 97 := by omega
    have z2 : ((122 : Int) < (r : Int)) ↔ 122 < r := by omega
    have z3 : ((r : Int) < 48) ↔ r < 48 := by omega
    have z4 : ((57 : Int) < (r : Int)) ↔ 57 < r := by omega
    go_enter Tryz.func85, Tryz.ntmps85
    go_wp2
    all_goals (go_ret; exact ⟨by simp [h1, h2, h3, h4], 0, rfl⟩)
/-- A name: one to twelve bytes, letters and digits. -/
def nameOk (s : ByteArray) : Bool := !s.toList.isEmpty && (decide (s.size ≤ 12) && !decide (0 ≤ Lib.idxFunc notLetter true s))
set_option maxRecDepth 100000 in
set_option maxHeartbeats 2000000 in
theorem Name_any (s : ByteArray) (w : World) :
    Calls Tryz.prog 56 #[.string s] w fun e w' => e = .returned (.bool (nameOk s)) ∧ Below w.heap.size w w' := by
  have hC := Lib.hid (fun W => containsFunc_any 85 #[] (enters_of Tryz.func85 (by kernel_rfl) rfl) notLetter s W (letter_pred W))
  unfold nameOk
  cases hb : s.toList.isEmpty with
  | true =>
    go_enter Tryz.func56, Tryz.ntmps56
    go_wp2_with fail
    go_ret
    exact ⟨by simp, Below.refl _ _⟩
  | false =>
    by_cases h12 : s.size ≤ 12
    · rw [decide_eq_true h12]
      generalize decide (0 ≤ Lib.idxFunc notLetter true s) = d at *
      go_enter Tryz.func56, Tryz.ntmps56
      go_wp2_with fail
      refine (hC.out _).mono ?_
      rintro e w' ⟨rfl, hb'⟩
      cases d
      all_goals
        go_wp2
        go_ret
        exact ⟨rfl, hb'⟩
    · rw [decide_eq_false h12]
      go_enter Tryz.func56, Tryz.ntmps56
      go_wp2_with fail
      go_ret
      exact ⟨by simp, Below.refl _ _⟩
theorem name_a : nameOk ⟨#[97]⟩ = true := by kernel_rfl
end Go.Proofs.YthlgjbmkealjjaaGreatDoor

namespace Go.Proofs.YthlgjbmkealjjaaGreatDoor
open Go.RowKit
set_option linter.unusedVariables false

def letB (b : UInt8) : Bool := (decide (97 ≤ b.toNat) && decide (b.toNat ≤ 122)) || (decide (48 ≤ b.toNat) && decide (b.toNat ≤ 57))
theorem n_idx_all (s : ByteArray) : ∀ f pos, s.size ≤ pos + f → (Lib.idxFuncFrom notLetter true s f pos < 0 ↔ ∀ i (h : i < s.size), pos ≤ i → letB (s[i]'h) = true)
  | 0, pos, hf => by
    constructor
    · intro _ i h hp
      omega
    · intro _
      show (-1 : Int) < 0
      omega
  | f + 1, pos, hf => by
    unfold Lib.idxFuncFrom
    by_cases hp : pos < s.size
    · rw [if_pos hp]
      by_cases ha : (s[pos]'hp).toNat < 128
      · rw [decode_ascii s pos hp ha]
        dsimp only
        by_cases hl : letB (s[pos]'hp) = true
        · have hn : ¬ notLetter (s[pos]'hp).toNat = true := by
            unfold notLetter
            unfold letB at hl
            simp at hl ⊢
            omega
          rw [if_neg hn, n_idx_all s f (pos + 1) (by omega)]
          constructor
          · intro h i hi hpi
            rcases Nat.eq_or_lt_of_le hpi with e | e
            · subst e; exact hl
            · exact h i hi e
          · intro h i hi hpi
            exact h i hi (by omega)
        · have hn : notLetter (s[pos]'hp).toNat = true := by
            unfold notLetter
            unfold letB at hl
            simp at hl ⊢
            omega
          rw [if_pos hn]
          constructor
          · intro h
            omega
          · intro h
            exact absurd (h pos hp (Nat.le_refl _)) hl
      · obtain ⟨h1, _⟩ := decode_high s pos hp (by omega)
        have hn : notLetter (Utf8.decode s pos).1 = true := by
          unfold notLetter
          simp
          omega
        rw [if_pos hn]
        constructor
        · intro h
          omega
        · intro h
          have h2 := h pos hp (Nat.le_refl _)
          unfold letB at h2
          simp at h2
          omega
    · rw [if_neg hp]
      constructor
      · intro _ i h hpi
        omega
      · intro _
        omega
theorem name_bytes (s : ByteArray) : nameOk s = true ↔ (∀ i (h : i < s.size), letB (s[i]'h) = true) ∧ 1 ≤ s.size ∧ s.size ≤ 12 := by
  have h0 := n_idx_all s s.size 0 (by omega)
  have hl : s.toList.length = s.size := by rw [ByteArray.toList_eq]; simp
  have he : s.toList.isEmpty = decide (s.size = 0) := by
    rw [← hl]
    cases s.toList <;> simp
  unfold nameOk Lib.idxFunc
  rw [he]
  simp only [Bool.and_eq_true, Bool.not_eq_true', decide_eq_false_iff_not, decide_eq_true_eq]
  constructor
  · rintro ⟨h1, h2, h3⟩
    exact ⟨fun i h => (h0.1 (by omega)) i h (Nat.zero_le _), by omega, h2⟩
  · rintro ⟨h1, h2, h3⟩
    have := h0.2 (fun i h _ => h1 i h)
    exact ⟨by omega, h3, by omega⟩
set_option maxRecDepth 100000 in
set_option maxHeartbeats 2000000 in
theorem refLoan_any (s : ByteArray) (w : World) (hs : s.size ≤ 9223372036854775806) :
    Calls Tryz.prog 19 #[.string s] w fun e w' => e = .returned (.bool (nameOk s)) ∧ w = w' := by
  have HN := Lib.hid (name_bytes s)
  generalize nameOk s = R at *
  go_enter Tryz.func19, Tryz.ntmps19
  go_wp2_with fail
  go_loopw [3] (fun t wr => ∃ k : Nat, k ≤ s.size ∧ t = .int .i64 k ∧ Hid (∀ i (h : i < s.size), i < k → letB (s[i]'h) = true) ∧ wr = w) (fun t _ => s.size - (intOf t).toNat)
  case atStart => exact ⟨0, Nat.zero_le _, rfl, Lib.hid (fun i h h0 => by omega), rfl⟩
  case round =>
    obtain ⟨k, hk, rfl, HP, rfl⟩ := hrel
    by_cases h1 : k < s.size
    · have HL : Hid (letB (s[k]'h1) = true → ∀ i (h : i < s.size), i < k + 1 → letB (s[i]'h) = true) := Lib.hid fun hl i h hi => by
        by_cases e : i = k
        · subst e; exact hl
        · exact HP.out i h (by omega)
      have HB : Hid (letB (s[k]'h1) = false → R = false) := Lib.hid fun hl => by
        cases hR : R
        · rfl
        · have := (HN.out.1 hR).1 k h1
          rw [hl] at this
          cases this
      have hx8 := (s[k]'h1).toNat_lt
      generalize hx : s[k]'h1 = x at *
      by_cases hl : letB x = true
      · have HL2 := Lib.hid (HL.out hl)
        have hl2 : (97 ≤ x.toNat ∧ x.toNat ≤ 122) ∨ (48 ≤ x.toNat ∧ x.toNat ≤ 57) := by unfold letB at hl; simpa using hl
        clear HL HB HP hl
        by_cases ha : 97 ≤ x.toNat ∧ x.toNat ≤ 122
        · obtain ⟨a1, a2⟩ := ha
          clear hl2
          go_wp2
          go_roundw
          case rel => exact ⟨k + 1, by omega, by go_num, HL2, by first | trivial | rfl⟩
          case measure => (try simp [intOf]) <;> (try omega)
        · obtain ⟨b1, b2⟩ := hl2.resolve_left ha
          have j1 : (48 : Int) ≤ (x.toNat : Int) := by omega
          have j2 : (x.toNat : Int) ≤ 57 := by omega
          have i1 : ¬ (97 : Int) ≤ (x.toNat : Int) := by omega
          clear hl2 ha b1 b2
          go_wp2
          go_roundw
          case rel => exact ⟨k + 1, by omega, by go_num, HL2, by first | trivial | rfl⟩
          case measure => (try simp [intOf]) <;> (try omega)
      · have hl0 : letB x = false := by simpa using hl
        obtain rfl := HB.out hl0
        have hl2 : ¬ ((97 ≤ x.toNat ∧ x.toNat ≤ 122) ∨ (48 ≤ x.toNat ∧ x.toNat ≤ 57)) := by unfold letB at hl; simpa using hl
        clear HL HB HP hl hl0 HN
        by_cases a1 : 97 ≤ x.toNat
        · have i1 : (97 : Int) ≤ (x.toNat : Int) := by omega
          have i2 : ¬ (x.toNat : Int) ≤ 122 := by omega
          have j1 : (48 : Int) ≤ (x.toNat : Int) := by omega
          have j2 : ¬ (x.toNat : Int) ≤ 57 := by omega
          clear hl2 a1
          go_wp2
          go_ret
          exact ⟨rfl, rfl⟩
        · by_cases b1 : 48 ≤ x.toNat
          · have i1 : ¬ (97 : Int) ≤ (x.toNat : Int) := by omega
            have j1 : (48 : Int) ≤ (x.toNat : Int) := by omega
            have j2 : ¬ (x.toNat : Int) ≤ 57 := by omega
            clear hl2 a1 b1
            go_wp2
            go_ret
            exact ⟨rfl, rfl⟩
          · have i1 : ¬ (97 : Int) ≤ (x.toNat : Int) := by omega
            have j1 : ¬ (48 : Int) ≤ (x.toNat : Int) := by omega
            clear hl2 a1 b1
            go_wp2
            go_ret
            exact ⟨rfl, rfl⟩
    · have HA : Hid (∀ i (h : i < s.size), letB (s[i]'h) = true) := Lib.hid fun i h => HP.out i h (by omega)
      by_cases g1 : 1 ≤ s.size
      · by_cases g2 : s.size ≤ 12
        · obtain rfl : R = true := HN.out.2 ⟨HA.out, g1, g2⟩
          go_wp2
          go_ret
          exact ⟨by first | rfl | (simp; done) | (simp; omega), rfl⟩
        · obtain rfl : R = false := by
            cases hR : R
            · rfl
            · exact absurd (HN.out.1 hR).2.2 g2
          go_wp2
          go_ret
          exact ⟨by first | rfl | (simp; done) | (simp; omega), rfl⟩
      · obtain rfl : R = false := by
          cases hR : R
          · rfl
          · exact absurd (HN.out.1 hR).2.1 g1
        go_wp2
        go_ret
        exact ⟨by first | rfl | (simp; done) | (simp; omega), rfl⟩
theorem refGood_any (d : Int) (w : World) :
    Calls Tryz.prog 75 #[.int .i64 d] w fun e w' => e = .returned (.bool (decide (-719162 ≤ d ∧ d ≤ 2932896))) ∧ w = w' := by
  by_cases h1 : -719162 ≤ d
  · by_cases h2 : d ≤ 2932896
    · have e : decide (-719162 ≤ d ∧ d ≤ 2932896) = true := decide_eq_true ⟨h1, h2⟩
      rw [e]
      go_enter Tryz.func75, Tryz.ntmps75
      go_wp2
      go_ret
      exact ⟨rfl, rfl⟩
    · have e : decide (-719162 ≤ d ∧ d ≤ 2932896) = false := decide_eq_false fun h => h2 h.2
      rw [e]
      go_enter Tryz.func75, Tryz.ntmps75
      go_wp2
      go_ret
      exact ⟨rfl, rfl⟩
  · have e : decide (-719162 ≤ d ∧ d ≤ 2932896) = false := decide_eq_false fun h => h1 h.1
    rw [e]
    go_enter Tryz.func75, Tryz.ntmps75
    go_wp2
    go_ret
    exact ⟨rfl, rfl⟩
end Go.Proofs.YthlgjbmkealjjaaGreatDoor
