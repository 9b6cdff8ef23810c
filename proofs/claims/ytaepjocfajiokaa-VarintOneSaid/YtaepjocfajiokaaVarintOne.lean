/-
  The walk of the law VarintOne: whatever the bytes and the place, it returns true.
-/
import Derived.Test.YtaepjocfajiokaaVarintW4
import Derived.Deep.RegionHeld3
import Derived.Deep.DeepCutAuto
namespace Go.Proofs.Ytaepjocfajiokaa
open Go.RowKit
set_option linter.unusedVariables false

/-- What is read is what is written of it. -/
theorem uintAt_form (xs : List UInt8) (p : Int) (h : (uintAt xs p).2.2 = 0) : ∃ k j : Nat, p = (k : Int) ∧ (uintAt xs p).2.1 = ((k + j : Nat) : Int) ∧ k < k + j ∧ k + j ≤ xs.length ∧ xs.take k ++ enc (uintAt xs p).1 = xs.take (k + j) := by
  unfold uintAt at h ⊢
  split at h
  · simp at h
  · rename_i hp
    obtain ⟨k, rfl⟩ := Int.eq_ofNat_of_zero_le (show 0 ≤ p by omega)
    simp only [Int.toNat_natCast] at h ⊢
    split at h
    · rename_i he
      rw [if_neg hp, if_pos he]
      obtain ⟨q, e1, _, e3, e4, _, e6, _, _⟩ := vform_dec (xs.drop k) 0 0 (dec 0 0 (xs.drop k)).1 (dec 0 0 (xs.drop k)).2.1 (by omega) (by simp) (Prod.ext rfl (Prod.ext rfl he))
      rw [List.length_drop] at e4
      refine ⟨k, (dec 0 0 (xs.drop k)).2.1, rfl, by simp, by omega, by omega, ?_⟩
      have e7 : (dec 0 0 (xs.drop k)).1 = q := by simpa using e1
      simp only
      rw [e7, enc, show vform 9 q = _ from e6, Nat.sub_zero, List.take_add]
    · rename_i he
      simp only at h
      omega

set_option maxHeartbeats 2000000 in
theorem VarintOne_walk (A : Option Addr) (n c : Nat) (p : Int) (w : World) (xs : List UInt8) (h : RdB w A n xs) (hn : n ≤ c) (hc : c ≤ 140737488351232) (hp0 : -9223372036854775808 ≤ p) (hp1 : p ≤ 9223372036854775807) :
    Calls Try.prog 3 #[.slice A n c, .int .i64 p] w fun e w' => e = .returned (.bool true) ∧ Below w.heap.size w w' := by
  have HL := Lib.hid h.len
  have HF := Lib.hid (uintAt_form xs p)
  have HB := Lib.hid (uintAt_bounds xs p)
  have HU := Lib.hid (fun A2 c2 w2 m2 (h : RdB w2 A2 m2 xs) (hc : m2 ≤ c2) (hm : m2 ≤ 140737488355328) => Uint_any A2 m2 c2 p w2 xs h hc hm)
  generalize uintAt xs p = res at HF HB HU
  obtain ⟨v, nx, er⟩ := res
  simp only at HF HB HU
  by_cases he : er = 0
  · subst he
    obtain ⟨k, j, rfl, rfl, hkj, hkn, hform⟩ := HF.out rfl
    have hv : v < 18446744073709551616 := HB.out.1
    have hkn' : k + j ≤ n := by have := HL.out; omega
    have HFO := Lib.hid hform
    clear hform
    obtain ⟨A1, s1, r1⟩ := cut_h h c hn k (by omega) (k : Int) rfl
    obtain ⟨A2, s2, r2⟩ := cut_h h c hn (k + j) (by omega) ((k + j : Nat) : Int) rfl
    have g1 : decide ((k : Int) < (k : Int) + (j : Int)) = true := by rw [decide_eq_true_eq]; omega
    have g2 : decide ((k : Int) + (j : Int) ≤ (n : Int)) = true := by rw [decide_eq_true_eq]; omega
    have s2' : ∀ W, (Instr.slice 22 (.slice A n c) none (some (.int .i64 ((k : Int) + (j : Int)))) none).run Try.prog W = .ok (.slice A2 (k + j) c) W := fun W => by have := s2 W; simpa using this
    go_enter Try.func3, Try.ntmps3
    go_wp2_with fail
    refine (wakes_any w).mono ?_
    rintro e w1 ⟨rfl, hb1⟩
    go_wp2_with fail
    refine (own_any A n c w1 _ (h.below hb1) (by omega)).mono ?_
    rintro e w2 ⟨v2, rfl, hv2, hb2⟩
    have hb12 := hb1.trans (hb2.mono hb1.size)
    obtain ⟨A3, m3, c3, rfl, hm3, hmc3, _, hr3, _⟩ := hv2.form
    have hm3' : m3 ≤ n := by have := hm3.out; have := HL.out; omega
    go_wp2_with fail
    refine (HU.out A3 c3 w2 m3 hr3 hmc3 (by omega)).mono ?_
    rintro e w' ⟨rfl, rfl⟩
    go_wp2_with fail
    have hk1 : k + 10 ≤ 140737488355328 := by omega
    have hlk : Hid ((List.take k xs).length = k) := Lib.hid (by rw [List.length_take]; have := HL.out; omega)
    have N := Lib.hid fun W (hW : Below w.heap.size w W) => own_any A1 k c W _ (r1.below hW) (by omega)
    have M := Lib.hid fun (W : World) m4 c4 A4 (hr : RdB W A4 m4 (List.take k xs)) (hm : m4 + 10 ≤ 140737488355328) => AppendUint_any A4 m4 c4 v W _ hr hv hm
    have S := Lib.hid fun (W : World) (hW : Below w.heap.size w W) m5 c5 A5 (hr : RdB W A5 m5 (List.take (k + j) xs)) => same_any A5 m5 c5 _ A2 (k + j) c _ W hr (r2.below hW)
    go_region_held3 (fun w' => Below w.heap.size w w') (repeat (first | assumption | apply below_drewN | apply Below.drew | apply below_alloc)) (first
      | (go_at_call 10; refine (N.out _ (by assumption)).mono ?_; rintro e w4 ⟨v4, rfl, hv4, hb4⟩; have hb04 := Below.trans (by assumption) (hb4.mono (Below.size (by assumption))); obtain ⟨A4, m4, c4, rfl, hm4, hmc4, _, hr4, _⟩ := hv4.form; have hm4' : m4 + 10 ≤ 140737488355328 := by (have h1 := hm4.out; have h2 := hlk.out; omega))
      | (go_at_call 12; refine (M.out _ _ _ _ (by assumption) (by omega)).mono ?_; rintro e w5 ⟨v5, rfl, hv5, hb5⟩; rw [HFO.out] at hv5; have hb05 := Below.trans (by assumption) (hb5.mono (Below.size (by assumption))); obtain ⟨A5, m5, c5, rfl, hm5, hmc5, _, hr5, _⟩ := hv5.form)
      | (go_at_call 11; refine (S.out _ (by assumption) _ _ _ (by assumption)).mono ?_; rintro e w6 ⟨rfl, rfl⟩))
    all_goals go_wp2
    all_goals go_ret
    all_goals exact ⟨by simp, by first | assumption | apply Below.drew; assumption⟩
  · have he' : (er != 0) = true := by rw [bne_iff_ne]; exact he
    obtain ⟨rfl, rfl⟩ := HB.out.2.2.1 he
    go_enter Try.func3, Try.ntmps3
    go_wp2_with fail
    refine (wakes_any w).mono ?_
    rintro e w1 ⟨rfl, hb1⟩
    go_wp2_with fail
    refine (own_any A n c w1 _ (h.below hb1) (by omega)).mono ?_
    rintro e w2 ⟨v2, rfl, hv2, hb2⟩
    have hb12 := hb1.trans (hb2.mono hb1.size)
    obtain ⟨A3, m3, c3, rfl, hm3, hmc3, _, hr3, _⟩ := hv2.form
    have hm3' : m3 ≤ n := by have := hm3.out; have := HL.out; omega
    go_wp2_with fail
    refine (HU.out A3 c3 w2 m3 hr3 hmc3 (by omega)).mono ?_
    rintro e w' ⟨rfl, rfl⟩
    go_wp2
    go_ret
    exact ⟨rfl, hb12⟩
end Go.Proofs.Ytaepjocfajiokaa
