/-
  keys.Compare and the reference's. No statement is proved here.
-/
import Derived.Test.YtbblpehehgeebaaDoorKeyO
import Derived.Test.YtbblpehehgeebaaDoorKeyQ
import Derived.Test.YtbblpehehgeebaaDoorKeyS
namespace Go.Proofs.YtbblpehehgeebaaDoor
open Go.RowKit
set_option linter.unusedVariables false
set_option linter.unusedSimpArgs false

/-- Only draws lie between. -/
def Dr (w w' : World) : Prop := ∃ m, w' = w.drewN m
theorem Dr.refl (w : World) : Dr w w := ⟨0, rfl⟩
theorem Dr.more {w w' : World} (h : Dr w w') (n : Nat) : Dr w (w'.drewN n) := by
  obtain ⟨m, rfl⟩ := h
  exact ⟨m + n, by rw [World.drewN_drewN]⟩
theorem Dr.below {w w' : World} (h : Dr w w') : Below w.heap.size w w' := by
  obtain ⟨m, rfl⟩ := h
  exact below_drewN (Below.refl _ _) m
set_option maxHeartbeats 1000000 in
theorem Less_q (a b : ByteArray) (w : World) (ha : a.size ≤ 9223372036854775807) (hb : b.size ≤ 9223372036854775807) :
    Calls Tryd.prog 18 #[.string a, .string b] w fun e w' => e = .returned (.int .i64 (lessL a.data.toList b.data.toList)) ∧ Dr w w' := by
  have hla : a.data.toList.length = a.size := by simp
  have hlb : b.data.toList.length = b.size := by simp
  have HA := Lib.hid hla
  have HB := Lib.hid hlb
  have HE := Lib.hid (less_end a.data.toList b.data.toList)
  have HH := Lib.hid (less_here a.data.toList b.data.toList)
  clear hla hlb
  generalize lessL a.data.toList b.data.toList = R at *
  go_enter Tryd.func18, Tryd.ntmps18
  go_wp2_with fail
  go_loopw [5] (fun t wr => ∃ k : Nat, k ≤ a.size ∧ k ≤ b.size ∧ t = .int .i64 k ∧ Hid (a.data.toList.take k = b.data.toList.take k) ∧ Dr w wr) (fun t _ => a.size - (intOf t).toNat)
  case atStart => exact ⟨0, by omega, by omega, rfl, Lib.hid (by simp), Dr.refl _⟩
  case round =>
    obtain ⟨k, hka, hkb, rfl, HP, hbel⟩ := hrel
    by_cases h1 : k < a.size
    · by_cases h2 : k < b.size
      · have hx : a.data.toList[k]'(by rw [HA.out]; exact h1) = a[k]'h1 := rfl
        have hy : b.data.toList[k]'(by rw [HB.out]; exact h2) = b[k]'h2 := rfl
        have HH2 : Hid ((a[k]'h1).toNat ≠ (b[k]'h2).toNat → R = if (a[k]'h1).toNat < (b[k]'h2).toNat then -1 else 1) := Lib.hid (HH.out k HP.out (by rw [HA.out]; exact h1) (by rw [HB.out]; exact h2))
        have HP2 : Hid ((a[k]'h1).toNat = (b[k]'h2).toNat → a.data.toList.take (k + 1) = b.data.toList.take (k + 1)) := Lib.hid fun he => by
          rw [take_snoc' _ _ (by rw [HA.out]; exact h1), take_snoc' _ _ (by rw [HB.out]; exact h2), HP.out, hx, hy, UInt8.toNat_inj.1 he]
        clear hx hy HH HE
        rcases Nat.lt_trichotomy (a[k]'h1).toNat (b[k]'h2).toNat with h3 | h3 | h3
        · obtain rfl : R = -1 := by rw [HH2.out (by omega), if_pos h3]
          clear HH2 HP2 HP
          go_wp2_with fail
          go_quiet (fail)
          go_wp2
          go_ret
          exact ⟨rfl, hbel.more _⟩
        · have HP3 := Lib.hid (HP2.out h3)
          clear HH2 HP2 HP
          go_wp2_with fail
          go_quiet (fail)
          go_wp2_with fail
          go_quiet (fail)
          go_wp2
          go_roundw
          case rel => exact ⟨k + 1, by omega, by omega, by go_num, HP3, hbel.more _⟩
          case measure => (try simp [intOf]) <;> (try omega)
        · obtain rfl : R = 1 := by rw [HH2.out (by omega), if_neg (by omega)]
          have h4 : ¬ (a[k]'h1).toNat < (b[k]'h2).toNat := by omega
          clear HH2 HP2 HP
          go_wp2_with fail
          go_quiet (fail)
          go_wp2_with fail
          go_quiet (fail)
          go_wp2
          go_ret
          exact ⟨rfl, (hbel.more _).more _⟩
      · have hR := HE.out k HP.out (by rw [HA.out]; omega) (by rw [HB.out]; omega) (.inr (by rw [HB.out]; omega))
        rw [HA.out, HB.out] at hR
        have h3 : b.size = k := by omega
        clear HE HH HP
        rcases Nat.lt_or_ge b.size a.size with h4 | h4
        · obtain rfl : R = 1 := by rw [hR, if_neg (by omega), if_pos h4]
          clear hR
          go_wp2
          go_ret
          exact ⟨rfl, hbel⟩
        · omega
    · have hR := HE.out k HP.out (by rw [HA.out]; omega) (by rw [HB.out]; omega) (.inl (by rw [HA.out]; omega))
      rw [HA.out, HB.out] at hR
      have h3 : a.size = k := by omega
      clear HE HH HP
      rcases Nat.lt_or_ge a.size b.size with h4 | h4
      · obtain rfl : R = -1 := by rw [hR, if_pos h4]
        clear hR
        go_wp2
        go_ret
        exact ⟨rfl, hbel⟩
      · have h5 : b.size = a.size := by omega
        obtain rfl : R = 0 := by rw [hR, if_neg (by omega), if_neg (by omega)]
        clear hR
        go_wp2
        go_ret
        exact ⟨rfl, hbel⟩

theorem comp_less : ∀ x y : List UInt8, Lib.compareBytes x y = lessL x y
  | [], [] => rfl
  | [], _ :: _ => rfl
  | _ :: _, [] => rfl
  | a :: x, b :: y => by
    rw [lessL_def, Lib.compareBytes, comp_less x y]
    simp only [UInt8.lt_iff_toNat_lt]
def cmpI (x y : Int) : Int := if x < y then -1 else if y < x then 1 else 0
theorem nan_any (x : Int) (w : World) : Calls Tryd.prog 39 #[.int .i64 x] w fun e w' => e = .returned (.bool false) ∧ w = w' := by
  go_enter Tryd.func39, Tryd.ntmps39
  go_wp2
  go_ret
  exact ⟨rfl, rfl⟩
set_option maxHeartbeats 1000000 in
theorem cmp_any (x y : Int) (w : World) : Calls Tryd.prog 32 #[.int .i64 x, .int .i64 y] w fun e w' => e = .returned (.int .i64 (cmpI x y)) ∧ w = w' := by
  have NX := Lib.hid (nan_any x w)
  have NY := Lib.hid (nan_any y w)
  unfold cmpI
  rcases Int.lt_trichotomy x y with h | h | h
  · rw [if_pos h]
    go_enter Tryd.func32, Tryd.ntmps32
    go_wp2_with fail
    refine NX.out.mono ?_
    rintro e w2 ⟨rfl, rfl⟩
    go_wp2_with fail
    refine NY.out.mono ?_
    rintro e w2 ⟨rfl, rfl⟩
    go_wp2
    go_ret
    exact ⟨rfl, rfl⟩
  · subst h
    rw [if_neg (by omega), if_neg (by omega)]
    go_enter Tryd.func32, Tryd.ntmps32
    go_wp2_with fail
    refine NX.out.mono ?_
    rintro e w2 ⟨rfl, rfl⟩
    go_wp2_with fail
    refine NY.out.mono ?_
    rintro e w2 ⟨rfl, rfl⟩
    go_wp2
    go_ret
    exact ⟨rfl, rfl⟩
  · have h2 : ¬ x < y := by omega
    rw [if_neg h2, if_pos h]
    go_enter Tryd.func32, Tryd.ntmps32
    go_wp2_with fail
    refine NX.out.mono ?_
    rintro e w2 ⟨rfl, rfl⟩
    go_wp2_with fail
    refine NY.out.mono ?_
    rintro e w2 ⟨rfl, rfl⟩
    go_wp2
    go_ret
    exact ⟨rfl, rfl⟩
set_option maxHeartbeats 1000000 in
theorem comp1_any (p q : PartV) (w : World) : Calls Tryd.prog 30 #[partV p, partV q] w fun e w' => e = .returned (.int .i64 (cmpP p q)) ∧ Below w.heap.size w w' := by
  obtain ⟨b, n, s⟩ := p
  obtain ⟨d, m, t⟩ := q
  unfold partV cmpP
  dsimp only
  have SC := Lib.hid (fun w => strings_Compare ⟨s.toArray⟩ ⟨t.toArray⟩ w)
  have es : (⟨s.toArray⟩ : ByteArray).data.toList = s := by simp
  have et : (⟨t.toArray⟩ : ByteArray).data.toList = t := by simp
  simp only [es, et, comp_less] at SC
  have CI := Lib.hid (fun w => cmp_any n m w)
  unfold cmpI at CI
  clear es et
  rcases b with _ | _ <;> rcases d with _ | _
  · simp only [Bool.false_eq_true, if_false]
    generalize (if n < m then (-1 : Int) else if m < n then 1 else 0) = R at *
    go_enter Tryd.func30, Tryd.ntmps30
    go_wp2_with fail
    refine (CI.out _).mono ?_
    rintro e w2 ⟨rfl, rfl⟩
    go_wp2
    go_ret
    exact ⟨rfl, ((Below.refl _ _).alloc (Nat.le_refl _) _).alloc (by simp) _⟩
  · simp only [Bool.false_eq_true, if_false, if_true]
    clear CI SC
    go_enter Tryd.func30, Tryd.ntmps30
    go_wp2
    go_ret
    exact ⟨rfl, ((Below.refl _ _).alloc (Nat.le_refl _) _).alloc (by simp) _⟩
  · simp only [Bool.false_eq_true, if_false, if_true]
    clear CI SC
    go_enter Tryd.func30, Tryd.ntmps30
    go_wp2
    go_ret
    exact ⟨rfl, ((Below.refl _ _).alloc (Nat.le_refl _) _).alloc (by simp) _⟩
  · simp only [if_true]
    generalize lessL s t = R at *
    go_enter Tryd.func30, Tryd.ntmps30
    go_wp2_with fail
    refine (SC.out _).mono ?_
    rintro e w2 ⟨rfl, rfl⟩
    go_wp2
    go_ret
    exact ⟨rfl, ((Below.refl _ _).alloc (Nat.le_refl _) _).alloc (by simp) _⟩
end Go.Proofs.YtbblpehehgeebaaDoor
