/-
  The walk of Read at one text. No statement is proved here.
-/
import Derived.Lib.ParseIntB
import Derived.Lib.AtoiErrMem
import Derived.Test.YtjniclalobggpaaDoorAmT2
import Derived.BigQuiet
import Derived.Deep.Cut
import Derived.Deep.DeepCutAuto
namespace Go.Proofs.YtjniclalobggpaaDoor
open Go.RowKit Go.Shelf Go.Lib
set_option linter.unusedVariables false

/-- What no digit is. -/
def notDigit (r : Nat) : Bool := decide (r < 48) || decide (57 < r)
theorem digit_pred (w : World) : PredAt Tryd.prog 49 #[] encR notDigit w := fun W r _ => by
  unfold FnGives notDigit
  by_cases h1 : r < 48 <;> by_cases h2 : 57 < r
  all_goals try (exfalso; omega)
  all_goals
    have z1 : ((r : Int) < 48) ↔ r < 48 := by omega
    have z2 : ((57 : Int) < (r : Int)) ↔ 57 < r := by omega
    go_enter Tryd.func49, Tryd.ntmps49
    go_wp2
    all_goals (go_ret; exact ⟨by simp [h1, h2], 0, rfl⟩)
theorem digits_any (s : ByteArray) (w : World) :
    Calls Tryd.prog 47 #[.string s] w fun e w' => e = .returned (.bool (!decide (0 ≤ Lib.idxFunc notDigit true s))) ∧ Below w.heap.size w w' := by
  have hC := Lib.hid (fun W => strings_ContainsFunc 49 #[] (enters_of Tryd.func49 (by kernel_rfl) rfl) notDigit s W (digit_pred W))
  generalize decide (0 ≤ Lib.idxFunc notDigit true s) = d at *
  go_enter Tryd.func47, Tryd.ntmps47
  go_wp2_with fail
  refine (hC.out _).mono ?_
  rintro e w' ⟨rfl, hb'⟩
  go_wp2
  go_ret
  exact ⟨rfl, hb'⟩
set_option maxHeartbeats 1000000 in
theorem cut_one (w : World) :
    Calls Tryd.prog 61 #[.string ⟨#[48, 46, 48, 53]⟩, .string ⟨#[46]⟩] w fun e w' => e = .returned (.tuple #[.string ⟨#[48]⟩, .string ⟨#[48, 53]⟩, .bool true]) ∧ Below w.heap.size w w' := by
  have I := Lib.hid (fun w => stringslite_Index_one ⟨#[48, 46, 48, 53]⟩ 46 w)
  rw [show Lib.indexByte (⟨#[48, 46, 48, 53]⟩ : ByteArray).data.toList 46 = 1 by decide +kernel] at I
  go_enter Tryd.func61, Tryd.ntmps61
  go_wp2_with fail
  refine (I.out _).mono ?_
  rintro e w' ⟨rfl, rfl⟩
  go_upto_region 3 with (fail)
  go_quiet (fail)
  go_wp2
  refine bodyPost_ret (results_tmp3 rfl _ _ _) rfl ?_
  exact ⟨rfl, below_drewN (Below.refl _ _) _⟩
set_option maxHeartbeats 1000000 in
theorem Cut_one (w : World) :
    Calls Tryd.prog 46 #[.string ⟨#[48, 46, 48, 53]⟩, .string ⟨#[46]⟩] w fun e w' => e = .returned (.tuple #[.string ⟨#[48]⟩, .string ⟨#[48, 53]⟩, .bool true]) ∧ Below w.heap.size w w' := by
  have C := Lib.hid cut_one
  go_enter Tryd.func46, Tryd.ntmps46
  go_wp2_with fail
  refine (C.out _).mono ?_
  rintro e w' ⟨rfl, hb⟩
  go_wp2
  refine bodyPost_ret (results_tmp3 rfl _ _ _) rfl ?_
  exact ⟨rfl, hb⟩
set_option maxHeartbeats 2000000 in
theorem Read_one (w : World) :
    Calls Tryd.prog 21 #[.string ⟨#[45, 48, 46, 48, 53]⟩] w fun e w' => e = .returned (.tuple #[.int .i64 (-5), .int .i64 0]) ∧ Below w.heap.size w w' := by
  have P := Lib.hid (fun w => strings_CutPrefix ⟨#[45, 48, 46, 48, 53]⟩ ⟨#[45]⟩ w)
  rw [show Lib.trimPrefix (⟨#[45, 48, 46, 48, 53]⟩ : ByteArray).data.toList (⟨#[45]⟩ : ByteArray).data.toList = [48, 46, 48, 53] by decide +kernel, show Lib.hasPrefix (⟨#[45, 48, 46, 48, 53]⟩ : ByteArray).data.toList (⟨#[45]⟩ : ByteArray).data.toList = true by decide +kernel] at P
  have C := Lib.hid Cut_one
  have D1 := Lib.hid (fun w => digits_any ⟨#[48]⟩ w)
  have D2 := Lib.hid (fun w => digits_any ⟨#[48, 53]⟩ w)
  rw [show (!decide (0 ≤ Lib.idxFunc notDigit true ⟨#[48]⟩)) = true by decide +kernel] at D1
  rw [show (!decide (0 ≤ Lib.idxFunc notDigit true ⟨#[48, 53]⟩)) = true by decide +kernel] at D2
  have U := Lib.hid (fun w => strconv_ParseUint_10_at64_ok ⟨#[48, 48, 53]⟩ (by decide) 5 (by decide +kernel) w)
  have S := Lib.hid (fun w => signed_any 5 true w (by omega))
  have hcat : (⟨#[48]⟩ : ByteArray) ++ ⟨#[48, 53]⟩ = ⟨#[48, 48, 53]⟩ := by decide +kernel
  have hne : ((⟨#[45, 48, 46, 48, 53]⟩ : ByteArray) == ⟨#[45, 48, 46, 48, 48]⟩) = false := by decide +kernel
  go_enter Tryd.func21, Tryd.ntmps21
  go_wp2_with fail
  refine (P.out _).mono ?_
  rintro e w' ⟨rfl, rfl⟩
  go_wp2_with fail
  refine (C.out _).mono ?_
  rintro e w1 ⟨rfl, hb1⟩
  go_wp2_with fail
  refine (D1.out _).mono ?_
  rintro e w2 ⟨rfl, hb2⟩
  go_wp2_with fail
  refine (D2.out _).mono ?_
  rintro e w3 ⟨rfl, hb3⟩
  go_wp2_with fail
  refine (U.out _).mono ?_
  rintro e w4 ⟨rfl, hb4⟩
  have hb34 : Below w3.heap.size w3 w4 := by
    rcases hb4 with rfl | rfl
    · exact Below.refl _ _
    · exact Lib.bytesWorld_below _ _ _
  go_wp2_with fail
  refine (S.out _).mono ?_
  rintro e w' ⟨rfl, rfl⟩
  go_wp2
  go_ret2
  exact ⟨rfl, ((hb1.trans (hb2.mono hb1.size)).trans (hb3.mono (Nat.le_trans hb1.size hb2.size))).trans (hb34.mono (Nat.le_trans hb1.size (Nat.le_trans hb2.size hb3.size)))⟩
end Go.Proofs.YtjniclalobggpaaDoor
