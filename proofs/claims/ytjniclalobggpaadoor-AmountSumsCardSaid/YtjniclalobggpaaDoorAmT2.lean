/-
  The walk of Text. No statement is proved here.
-/
import Derived.Test.YtjniclalobggpaaDoorAmT
namespace Go.Proofs.YtjniclalobggpaaDoor
open Go.RowKit Go.Shelf Go.Lib
set_option linter.unusedVariables false

theorem three (b : Nat) (h : b < 100) : Lib.decDigits (b + 100) = [49, UInt8.ofNat (48 + b / 10), UInt8.ofNat (48 + b % 10)] := by
  revert h
  revert b
  decide +kernel
theorem decs_le (u : Nat) (h : u < 18446744073709551616) : (⟨(Lib.decDigits u).toArray⟩ : ByteArray).size ≤ 20 := by
  show (Lib.decDigits u).toArray.size ≤ 20
  rw [List.size_toArray, Lib.decDigits_length]
  rcases Nat.eq_zero_or_pos u with rfl | h1
  · decide +kernel
  · have := Lib.numDigits_eq u h1 h; split at this <;> omega
/-- An amount as text. -/
def textB (v : Int) : ByteArray :=
  if v < 0 then (⟨#[45]⟩ : ByteArray) ++ ((⟨(Lib.decDigits (v.natAbs / 100)).toArray⟩ : ByteArray) ++ ⟨#[46]⟩ ++ (⟨[49, UInt8.ofNat (48 + v.natAbs % 100 / 10), UInt8.ofNat (48 + v.natAbs % 100 % 10)].toArray⟩ : ByteArray).extract 1 3)
  else (⟨(Lib.decDigits (v.natAbs / 100)).toArray⟩ : ByteArray) ++ ⟨#[46]⟩ ++ (⟨[49, UInt8.ofNat (48 + v.natAbs % 100 / 10), UInt8.ofNat (48 + v.natAbs % 100 % 10)].toArray⟩ : ByteArray).extract 1 3
set_option maxHeartbeats 1000000 in
theorem Text_any (v : Int) (w : World) (h0 : -9223372036854775808 ≤ v) (h1 : v ≤ 9223372036854775807) (htab : ∀ W, Below w.heap.size w W → Lib.TabIs Tryd.prog W "internal/strconv.uint64pow10" .u64 Lib.pow10Tab) :
    Calls Tryd.prog 23 #[.int .i64 v] w fun e w' => e = .returned (.string (textB v)) ∧ Below w.heap.size w w' := by
  unfold textB
  have S := Lib.hid (size_any v w h0 h1)
  have hn : v.natAbs ≤ 9223372036854775808 := by omega
  generalize hN : v.natAbs = n at *
  have F1 := Lib.hid (fun W (hW : Below w.heap.size w W) => FormatUint_any (n / 100) W (by omega) (htab W hW))
  have F2 := Lib.hid (fun W (hW : Below w.heap.size w W) => FormatUint_any (n % 100 + 100) W (by omega) (htab W hW))
  have q1 : (n : Int) / 100 = ((n / 100 : Nat) : Int) := rfl
  have q2 : (n : Int) % 100 + 100 = ((n % 100 + 100 : Nat) : Int) := by omega
  clear htab
  have D1 := decs_le (n / 100) (by omega)
  have D2 := three (n % 100) (Nat.mod_lt _ (by omega))
  rw [D2] at F2
  clear D2
  generalize n / 100 = a at *
  generalize n % 100 + 100 = b at *
  generalize UInt8.ofNat (48 + n % 100 / 10) = x at *
  generalize UInt8.ofNat (48 + n % 100 % 10) = y at *
  generalize (⟨(Lib.decDigits a).toArray⟩ : ByteArray) = s1 at *
  have ex : (⟨[49, x, y].toArray⟩ : ByteArray) = ⟨#[49, x, y]⟩ := rfl
  rw [ex]
  rw [ex] at F2
  clear ex
  by_cases hv : v < 0
  · rw [if_pos hv]
    go_enter Tryd.func23, Tryd.ntmps23
    go_wp2_with fail
    refine S.out.mono ?_
    rintro e w' ⟨rfl, rfl⟩
    go_wp2_with fail
    refine (F1.out _ (Below.refl _ _)).mono ?_
    rintro e w1 ⟨rfl, hb1⟩
    go_wp2_with fail
    refine (F2.out _ hb1).mono ?_
    rintro e w2 ⟨rfl, hb2⟩
    go_wp2_with fail
    go_ret
    exact ⟨rfl, hb1.trans (hb2.mono hb1.size)⟩
  · rw [if_neg hv]
    go_enter Tryd.func23, Tryd.ntmps23
    go_wp2_with fail
    refine S.out.mono ?_
    rintro e w' ⟨rfl, rfl⟩
    go_wp2_with fail
    refine (F1.out _ (Below.refl _ _)).mono ?_
    rintro e w1 ⟨rfl, hb1⟩
    go_wp2_with fail
    refine (F2.out _ hb1).mono ?_
    rintro e w2 ⟨rfl, hb2⟩
    go_wp2_with fail
    go_ret
    exact ⟨rfl, hb1.trans (hb2.mono hb1.size)⟩
theorem text5 : textB (-5) = ⟨#[45, 48, 46, 48, 53]⟩ := by decide +kernel
end Go.Proofs.YtjniclalobggpaaDoor
