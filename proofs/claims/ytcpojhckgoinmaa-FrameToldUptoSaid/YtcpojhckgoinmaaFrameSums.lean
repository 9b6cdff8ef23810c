/-
  The walk of the law FrameSums.
-/
import Derived.Test.YtcpojhckgoinmaaFrameW6
namespace Go.Proofs.Ytcpojhckgoinmaa
open Go.RowKit
set_option linter.unusedVariables false

set_option maxHeartbeats 1000000 in
theorem FrameSums_walk (A : Option Addr) (n c : Nat) (p : Int) (w : World) (xs : List UInt8) (h : RdB w A n xs) (hn : n ≤ c) (hc : c ≤ 140737488351232) (hp0 : -9223372036854775808 ≤ p) (hp1 : p ≤ 9223372036854775807) :
    Calls Try.prog 3 #[.slice A n c, .int .i64 p] w fun e w' => e = .returned (.bool true) ∧ Below w.heap.size w w' := by
  have hl := Lib.hid h.len
  by_cases h0 : n = 0
  · subst h0
    have hx : xs = [] := List.eq_nil_of_length_eq_zero h.len
    subst hx
    go_enter Try.func3, Try.ntmps3
    go_wp2_with fail
    refine (wakes_any w).mono ?_
    rintro e w1 ⟨rfl, hb1⟩
    go_wp2_with fail
    refine (own_any A 0 c w1 _ (h.below hb1) (by omega)).mono ?_
    rintro e w2 ⟨v2, rfl, hv2, hb2⟩
    obtain ⟨A2, m2, c2, rfl, hm2, hmc2, _, hr2, _⟩ := hv2.form
    have hm2' : m2 ≤ 0 := by have := hm2.out; simp at this; omega
    have hb12 := hb1.trans (hb2.mono hb1.size)
    go_wp2_with fail
    refine (Sum_any A2 m2 c2 w2 _ hr2 (by omega)).mono ?_
    rintro e w3 ⟨rfl, hb3⟩
    have hb13 := hb12.trans (hb3.mono hb12.size)
    go_wp2_with fail
    refine (refSum_any A 0 c w3 _ (h.below hb13) (by omega)).mono ?_
    rintro e w' ⟨rfl, rfl⟩
    go_wp2_with fail
    refine (Sum_any none 0 0 w3 [] (RdB.nil _ _) (by omega)).mono ?_
    rintro e w4 ⟨rfl, hb4⟩
    have hb14 := hb13.trans (hb4.mono hb13.size)
    have hcrc : crc [] = 0 := rfl
    go_wp2
    go_ret
    exact ⟨rfl, hb14⟩
  · have hne : ((n : Int) == 0) = false := by rw [beq_eq_false_iff_ne]; omega
    go_enter Try.func3, Try.ntmps3
    go_wp2_with fail
    refine (wakes_any w).mono ?_
    rintro e w1 ⟨rfl, hb1⟩
    go_wp2_with fail
    refine (own_any A n c w1 _ (h.below hb1) (by omega)).mono ?_
    rintro e w2 ⟨v2, rfl, hv2, hb2⟩
    obtain ⟨A2, m2, c2, rfl, hm2, hmc2, _, hr2, _⟩ := hv2.form
    have hm2' : m2 ≤ n := by have := hm2.out; have := hl.out; omega
    have hb12 := hb1.trans (hb2.mono hb1.size)
    go_wp2_with fail
    refine (Sum_any A2 m2 c2 w2 _ hr2 (by omega)).mono ?_
    rintro e w3 ⟨rfl, hb3⟩
    have hb13 := hb12.trans (hb3.mono hb12.size)
    go_wp2_with fail
    refine (refSum_any A n c w3 _ (h.below hb13) (by omega)).mono ?_
    rintro e w' ⟨rfl, rfl⟩
    go_wp2_with fail
    refine (own_any A n c w3 _ (h.below hb13) (by omega)).mono ?_
    rintro e w4 ⟨v4, rfl, hv4, hb4⟩
    have hb14 := hb13.trans (hb4.mono hb13.size)
    obtain ⟨A4, m4, c4, rfl, hm4, hmc4, _, hr4, hg4⟩ := hv4.form
    have hm4' : m4 = n := by have := hm4.out; have := hl.out; omega
    have HM4 := Lib.hid hm4'
    have hm4a : n ≤ m4 := by omega
    have hm4b : m4 ≤ n := by omega
    clear hm4'
    obtain ⟨b4, o4, rfl⟩ := hr4.addr (by omega)
    obtain ⟨g, hg, hgb, hgs⟩ := hg4 _ rfl
    injection hg with hg1 hg2
    subst hg1 hg2
    clear hg4
    obtain ⟨k, hk, hk8⟩ : ∃ k : Nat, wrap64 ((IntKind.u64.wrap p).tmod (8 * (n : Int))) = (k : Int) ∧ k < 8 * n := by
      have e1 : (IntKind.u64.wrap p) = p % 18446744073709551616 := by simp [IntKind.wrap, IntKind.bits, IntKind.signed]
      have h1 : 0 ≤ p % 18446744073709551616 := Int.emod_nonneg _ (by omega)
      rw [e1, Int.tmod_eq_emod_of_nonneg h1]
      have h2 := Int.emod_nonneg (p % 18446744073709551616) (show (8 * (n : Int)) ≠ 0 by omega)
      have h3 := Int.emod_lt_of_pos (p % 18446744073709551616) (show (0 : Int) < 8 * n by omega)
      refine ⟨(p % 18446744073709551616 % (8 * n)).toNat, ?_, by omega⟩
      rw [IntWalk.wrap64_in _ (by omega)]
      omega
    have hkd : k / 8 < xs.length := by have := hl.out; omega
    have hkn : k / 8 < n := by omega
    have hc4 := hr4.cells (k / 8) hkd
    have hf4 : w4.frozen? ⟨b4, k / 8, none⟩ = false := World.ownsRow.frozenAt (xs := xs.map bv) (n := xs.length) (by have e := hm4.out; subst e; exact hv4) _
    rw [Nat.zero_add] at hc4
    have hxlt : xs[k / 8].toNat < 256 := xs[k / 8].toNat_lt
    have hHx : Hid (∀ y, crc (xs.set (k / 8) y) = crc xs → y = xs[k / 8]) := fun y hy => by
      rcases Decidable.em (y = xs[k / 8]) with hyy | hyy
      · exact hyy
      · have e1 : xs = xs.take (k / 8) ++ xs[k / 8] :: xs.drop (k / 8 + 1) := by rw [← List.drop_eq_getElem_cons hkd, List.take_append_drop]
        have e2 : xs.set (k / 8) y = xs.take (k / 8) ++ y :: xs.drop (k / 8 + 1) := List.set_eq_take_append_cons_drop.trans (if_pos hkd)
        exact absurd (by rw [← e2, hy]; exact congrArg crc e1) (crc_turned _ _ _ _ hyy)
    obtain ⟨y, hy, hyne⟩ : ∃ y : UInt8, bits .xor .u8 (xs[k / 8].toNat : Int) (2 ^ (k % 8) % 256) = (y.toNat : Int) ∧ y ≠ xs[k / 8] := by
      have hpow : 2 ^ (k % 8) < 256 := Nat.lt_of_le_of_lt (Nat.pow_le_pow_right (by omega) (show k % 8 ≤ 7 by omega)) (by decide)
      have hpos : 0 < 2 ^ (k % 8) := Nat.two_pow_pos _
      have e1 := u8_xor_nat xs[k / 8].toNat (2 ^ (k % 8) % 256) hxlt (by omega)
      have e2 : xs[k / 8].toNat ^^^ (2 ^ (k % 8) % 256) < 256 := Nat.xor_lt_two_pow (n := 8) hxlt (by omega)
      refine ⟨UInt8.ofNat (xs[k / 8].toNat ^^^ (2 ^ (k % 8) % 256)), ?_, fun hh => ?_⟩
      · rw [u8_ofNat _ e2, ← e1]
        rfl
      · have h3 := congrArg UInt8.toNat hh
        rw [u8_ofNat _ e2] at h3
        have h4 : xs[k / 8].toNat ^^^ (2 ^ (k % 8) % 256) = xs[k / 8].toNat ^^^ 0 := by rw [h3, Nat.xor_zero]
        have h5 := xorL h4
        omega
    have hv5 := hv4.set hm4.out (k / 8) y
    have hb5 : Below w.heap.size w (w4.setCell ⟨b4, k / 8, none⟩ (.int .u8 (y.toNat : Int))) := hb14.setCell (Nat.le_trans hb13.size hgb) _
    obtain ⟨A5, m5, c5, hv5e, hm5, hmc5, _, hr5, _⟩ := hv5.form
    injection hv5e with e1 e2 e3
    subst e1 e2 e3
    go_wp2_with fail
    refine (Sum_any _ m4 c4 _ _ hr5 (by omega)).mono ?_
    rintro e w6 ⟨rfl, hb6⟩
    have hb16 := hb5.trans (hb6.mono hb5.size)
    go_wp2_with fail
    refine (refSum_any A n c w6 _ (h.below hb16) (by omega)).mono ?_
    rintro e w' ⟨rfl, rfl⟩
    go_wp2
    go_ret
    refine ⟨ret_bool ?_, hb16⟩
    rw [bne_iff_ne]
    intro hh
    exact hyne (hHx.out y (by omega))
end Go.Proofs.Ytcpojhckgoinmaa
