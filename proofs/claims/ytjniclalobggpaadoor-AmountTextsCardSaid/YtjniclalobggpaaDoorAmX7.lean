/-
  The walk of the reference's Text. No statement is proved here.
-/
import Derived.Test.YtjniclalobggpaaDoorAmX6
namespace Go.Proofs.YtjniclalobggpaaDoor
open Go.RowKit Go.Shelf Go.Lib
set_option linter.unusedVariables false

def bigL (n : Nat) : List UInt8 := Lib.decDigits (n / 100) ++ [UInt8.ofNat (48 + n % 100 / 10), UInt8.ofNat (48 + n % 100 % 10)]
structure PadAt (n : Nat) (S : List UInt8) : Prop where
  l1 : 1 ≤ S.length
  l20 : S.length ≤ 20
  p3 : 3 ≤ S.length → S = bigL n
  p2 : S.length = 2 → 48 :: S = bigL n
  p1 : S.length = 1 → 48 :: 48 :: S = bigL n
theorem PadAt.start (n : Nat) (h : n < 18446744073709551616) : PadAt n (Lib.decDigits n) := by
  have h20 := nDigits_20 n h
  have hp := Lib.nDigits_pos n
  refine ⟨by rw [Lib.decDigits_length]; omega, by rw [Lib.decDigits_length]; exact h20, fun h3 => ?_, fun h2 => ?_, fun h1 => ?_⟩
  · rw [Lib.decDigits_length] at h3
    have h10 : 10 ≤ n := by
      rcases Nat.lt_or_ge n 10 with h4 | h4
      · rw [Lib.nDigits_small h4] at h3; omega
      · exact h4
    have h100 : 10 ≤ n / 10 := by
      rcases Nat.lt_or_ge (n / 10) 10 with h4 | h4
      · rw [Lib.nDigits_big (by omega), Lib.nDigits_small h4] at h3; omega
      · exact h4
    unfold bigL
    rw [dec_rec n h10, dec_rec (n / 10) h100, List.append_assoc, show n / 10 / 10 = n / 100 by omega, show n % 100 / 10 = n / 10 % 10 by omega, show n % 100 % 10 = n % 10 by omega]
    rfl
  · rw [Lib.decDigits_length] at h2
    have h10 : 10 ≤ n := by
      rcases Nat.lt_or_ge n 10 with h4 | h4
      · rw [Lib.nDigits_small h4] at h2; omega
      · exact h4
    rw [Lib.nDigits_big (by omega)] at h2
    have h100 : n / 10 < 10 := by
      rcases Nat.lt_or_ge (n / 10) 10 with h4 | h4
      · exact h4
      · rw [Lib.nDigits_big (by omega)] at h2
        have := Lib.nDigits_pos (n / 10 / 10)
        omega
    unfold bigL
    rw [dec_rec n h10, dec_small (n / 10) h100, show n / 100 = 0 by omega, dec_small 0 (by omega), show n % 100 / 10 = n / 10 by omega, show n % 100 % 10 = n % 10 by omega]
    rfl
  · rw [Lib.decDigits_length] at h1
    have h10 : n < 10 := by
      rcases Nat.lt_or_ge n 10 with h4 | h4
      · exact h4
      · rw [Lib.nDigits_big (by omega)] at h1
        have := Lib.nDigits_pos (n / 10)
        omega
    unfold bigL
    rw [dec_small n h10, show n / 100 = 0 by omega, dec_small 0 (by omega), show n % 100 / 10 = 0 by omega, show n % 100 % 10 = n by omega]
    rfl
theorem PadAt.step {n : Nat} {S : List UInt8} (h : PadAt n S) (hl : S.length < 3) : PadAt n (48 :: S) :=
  ⟨by simp, by simp; omega, fun h3 => h.p2 (by rw [List.length_cons] at h3; omega), fun h2 => h.p1 (by simpa using h2), fun h1 => by have := h.l1; rw [List.length_cons] at h1; omega⟩
theorem natAbs_ok (v : Int) (h0 : -9223372036854775808 ≤ v) (h1 : v ≤ 9223372036854775807) : v.natAbs < 18446744073709551616 := by omega
set_option maxHeartbeats 4000000 in
theorem refText_any (v : Int) (w : World) (h0 : -9223372036854775808 ≤ v) (h1 : v ≤ 9223372036854775807) :
    Calls Tryd.prog 24 #[.int .i64 v] w fun e w' => e = .returned (.string ⟨(textL v).toArray⟩) ∧ Below w.heap.size w w' := by
  have SZ := Lib.hid (fun w => Size_any v w h0 h1)
  have DG := Lib.hid (fun w => Digits_any v.natAbs w (natAbs_ok v h0 h1))
  have ST := Lib.hid (PadAt.start v.natAbs (natAbs_ok v h0 h1))
  have HT : Hid (textL v = if v < 0 then 45 :: bodyL v.natAbs else bodyL v.natAbs) := Lib.hid rfl
  generalize textL v = T at *
  generalize natOf v.natAbs = nv at *
  go_enter Tryd.func24, Tryd.ntmps24
  go_wp2_with fail
  refine (SZ.out w).mono ?_
  rintro e w1 ⟨rfl, hb1⟩
  go_wp2_with fail
  refine (DG.out _).mono ?_
  rintro e w2 ⟨rfl, hb2⟩
  have HB := Lib.hid (hb1.trans (hb2.mono hb1.size))
  clear hb1 hb2 SZ DG
  go_wp2_with fail
  go_loopw [3] (fun t wr => ∃ S : List UInt8, t = .string ⟨S.toArray⟩ ∧ PadAt v.natAbs S ∧ wr = w2) (fun t _ => 3 - strLen t)
  case atStart => exact ⟨_, rfl, ST.out, rfl⟩
  case round =>
    clear ST
    obtain ⟨S, rfl, hP, rfl⟩ := hrel
    by_cases hl : S.length < 3
    · have HP2 := Lib.hid (hP.step hl)
      have hsl : S.length ≤ 20 := hP.l20
      have hcat := cons_text 48 S
      clear hP
      go_wp2
      go_roundw
      case rel => exact ⟨48 :: S, rfl, HP2.out, trivial⟩
      case measure =>
        simp [strLen, ByteArray.size]
        omega
    · have hb := hP.p3 (by omega)
      have h20 := hP.l20
      subst hb
      have HT2 : Hid (∀ X : ByteArray, X = ⟨(bodyL v.natAbs).toArray⟩ → T = if v < 0 then 45 :: X.data.toList else X.data.toList) := Lib.hid (fun X h => by rw [HT.out, h])
      have hsp : bodyL v.natAbs = Lib.decDigits (v.natAbs / 100) ++ 46 :: [UInt8.ofNat (48 + v.natAbs % 100 / 10), UInt8.ofNat (48 + v.natAbs % 100 % 10)] := rfl
      have hbg : bigL v.natAbs = Lib.decDigits (v.natAbs / 100) ++ [UInt8.ofNat (48 + v.natAbs % 100 / 10), UInt8.ofNat (48 + v.natAbs % 100 % 10)] := rfl
      obtain ⟨U, hU⟩ : ∃ U, U = Lib.decDigits (v.natAbs / 100) := ⟨_, rfl⟩
      obtain ⟨D, hD⟩ : ∃ D, D = [UInt8.ofNat (48 + v.natAbs % 100 / 10), UInt8.ofNat (48 + v.natAbs % 100 % 10)] := ⟨_, rfl⟩
      rw [← hU, ← hD] at hsp hbg
      have hD2 : D.length = 2 := by rw [hD]; rfl
      rw [hsp] at HT2
      rw [hbg] at hl h20 ⊢
      clear hU hD hsp hbg hP HT
      generalize hsB : (⟨(U ++ D).toArray⟩ : ByteArray) = sB at *
      have hsz : (sB.size : Int) = (U.length : Int) + 2 := by rw [← hsB]; simp [ByteArray.size, hD2]
      have hsz2 : sB.size = U.length + 2 := by omega
      have hx1 : sB.extract 0 U.length = ⟨U.toArray⟩ := by
        apply ByteArray.ext
        rw [← hsB]
        simp
      have hx2 : sB.extract U.length (U.length + 2) = ⟨D.toArray⟩ := by
        apply ByteArray.ext
        rw [← hsB]
        simp
        exact List.take_of_length_le (by omega)
      rw [List.length_append, hD2] at hl h20
      have hU1 : 1 ≤ U.length := by omega
      have hU2 : ¬ ((U.length : Int) + 2 < 3) := by omega
      have hU20 : U.length ≤ 18 := by omega
      clear hsB hl h20
      go_wp2_with fail
      go_quiet (fail)
      have hX : (⟨U.toArray⟩ : ByteArray) ++ ⟨#[46]⟩ ++ ⟨D.toArray⟩ = ⟨(U ++ 46 :: D).toArray⟩ := by
        apply ByteArray.ext
        simp
      have hXs : ((⟨U.toArray⟩ : ByteArray) ++ ⟨#[46]⟩ ++ ⟨D.toArray⟩).size ≤ 21 := by
        rw [hX]
        simp [ByteArray.size, hD2]
        omega
      generalize (⟨U.toArray⟩ : ByteArray) ++ ⟨#[46]⟩ ++ ⟨D.toArray⟩ = X at *
      have HTX := Lib.hid (HT2.out X hX)
      clear HT2 hX hx1 hx2 hsz hsz2 hU1 hU2 hU20 hD2
      by_cases hv : v < 0
      · obtain rfl : T = 45 :: X.data.toList := by rw [HTX.out, if_pos hv]
        have hc : (⟨(45 :: X.data.toList).toArray⟩ : ByteArray) = ⟨#[45]⟩ ++ X := by
          rw [← cons_text 45 X.data.toList]
        have HC := Lib.hid hc
        clear HTX hc
        go_wp2
        go_ret
        exact ⟨by rw [HC.out]; rfl, below_drewN HB.out _⟩
      · obtain rfl : T = X.data.toList := by rw [HTX.out, if_neg hv]
        clear HTX
        go_wp2
        go_ret
        exact ⟨rfl, below_drewN HB.out _⟩
end Go.Proofs.YtjniclalobggpaaDoor
