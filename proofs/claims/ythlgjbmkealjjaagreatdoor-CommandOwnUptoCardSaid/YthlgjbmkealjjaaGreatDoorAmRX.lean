/-
  Joined texts: AmR AmX5. No statement is proved here.
-/
import Derived.Lib.ParseIntB
import Derived.Lib.AtoiErrMem
import Derived.Test.YthlgjbmkealjjaaGreatDoorAmTT
import Derived.BigQuiet
import Derived.Deep.Cut
import Derived.Deep.DeepCutAuto
import Derived.Test.YthlgjbmkealjjaaGreatDoorAmXA
namespace Go.Proofs.YthlgjbmkealjjaaGreatDoor
open Go.RowKit Go.Shelf Go.Lib
set_option linter.unusedVariables false

/-- What no digit is. -/
def notDigit (r : Nat) : Bool := decide (r < 48) || decide (57 < r)
theorem digit_pred (w : World) : PredAt Tryz.prog 92 #[] encR notDigit w := fun W r _ => by
  unfold FnGives notDigit
  by_cases h1 : r < 48 <;> by_cases h2 : 57 < r
  all_goals try (exfalso; omega)
  all_goals
    have z1 : ((r : Int) < 48) ↔ r < 48 := by omega
    have z2 : ((57 : Int) < (r : Int)) ↔ 57 < r := by omega
    go_enter Tryz.func92, Tryz.ntmps92
    go_wp2
    all_goals (go_ret; exact ⟨by simp [h1, h2], 0, rfl⟩)
theorem digits_any (s : ByteArray) (w : World) :
    Calls Tryz.prog 91 #[.string s] w fun e w' => e = .returned (.bool (!decide (0 ≤ Lib.idxFunc notDigit true s))) ∧ Below w.heap.size w w' := by
  have hC := Lib.hid (fun W => strings_ContainsFunc 92 #[] (enters_of Tryz.func92 (by kernel_rfl) rfl) notDigit s W (digit_pred W))
  generalize decide (0 ≤ Lib.idxFunc notDigit true s) = d at *
  go_enter Tryz.func91, Tryz.ntmps91
  go_wp2_with fail
  refine (hC.out _).mono ?_
  rintro e w' ⟨rfl, hb'⟩
  go_wp2
  go_ret
  exact ⟨rfl, hb'⟩
set_option maxHeartbeats 1000000 in
theorem cut_one (w : World) :
    Calls Tryz.prog 112 #[.string ⟨#[48, 46, 48, 53]⟩, .string ⟨#[46]⟩] w fun e w' => e = .returned (.tuple #[.string ⟨#[48]⟩, .string ⟨#[48, 53]⟩, .bool true]) ∧ Below w.heap.size w w' := by
  have I := Lib.hid (fun w => stringslite_Index_one ⟨#[48, 46, 48, 53]⟩ 46 w)
  rw [show Lib.indexByte (⟨#[48, 46, 48, 53]⟩ : ByteArray).data.toList 46 = 1 by decide +kernel] at I
  go_enter Tryz.func112, Tryz.ntmps112
  go_wp2_with fail
  refine (I.out _).mono ?_
  rintro e w' ⟨rfl, rfl⟩
  go_upto_region 3 with (fail)
  go_quiet (fail)
  go_wp2
  refine bodyPost_ret (results_tmp3 rfl _ _ _) rfl ?_
  exact ⟨rfl, below_drewN (Below.refl _ _) _⟩
set_option maxHeartbeats 1000000 in
theorem Cut_one (w : World) :
    Calls Tryz.prog 90 #[.string ⟨#[48, 46, 48, 53]⟩, .string ⟨#[46]⟩] w fun e w' => e = .returned (.tuple #[.string ⟨#[48]⟩, .string ⟨#[48, 53]⟩, .bool true]) ∧ Below w.heap.size w w' := by
  have C := Lib.hid cut_one
  go_enter Tryz.func90, Tryz.ntmps90
  go_wp2_with fail
  refine (C.out _).mono ?_
  rintro e w' ⟨rfl, hb⟩
  go_wp2
  refine bodyPost_ret (results_tmp3 rfl _ _ _) rfl ?_
  exact ⟨rfl, hb⟩
set_option maxHeartbeats 2000000 in
theorem Read_one (w : World) :
    Calls Tryz.prog 63 #[.string ⟨#[45, 48, 46, 48, 53]⟩] w fun e w' => e = .returned (.tuple #[.int .i64 (-5), .int .i64 0]) ∧ Below w.heap.size w w' := by
  have P := Lib.hid (fun w => strings_CutPrefix ⟨#[45, 48, 46, 48, 53]⟩ ⟨#[45]⟩ w)
  rw [show Lib.trimPrefix (⟨#[45, 48, 46, 48, 53]⟩ : ByteArray).data.toList (⟨#[45]⟩ : ByteArray).data.toList = [48, 46, 48, 53] by decide +kernel, show Lib.hasPrefix (⟨#[45, 48, 46, 48, 53]⟩ : ByteArray).data.toList (⟨#[45]⟩ : ByteArray).data.toList = true by decide +kernel] at P
  have C := Lib.hid Cut_one
  have D1 := Lib.hid (fun w => digits_any ⟨#[48]⟩ w)
  have D2 := Lib.hid (fun w => digits_any ⟨#[48, 53]⟩ w)
  rw [show (!decide (0 ≤ Lib.idxFunc notDigit true ⟨#[48]⟩)) = true by decide +kernel] at D1
  rw [show (!decide (0 ≤ Lib.idxFunc notDigit true ⟨#[48, 53]⟩)) = true by decide +kernel] at D2
  have U := Lib.hid (fun w => strconv_ParseUint_10_at64_ok ⟨#[48, 48, 53]⟩ (by decide) 5 (by decide +kernel) w)
  have S := Lib.hid (fun w => signed_any 5 true w (by omega))
  have hcat : (⟨#[48]⟩ : ByteArray) ++ ⟨#[48, 53]⟩ = ⟨#[48, 48, 53]⟩ := by decide +kernel
  have hne : ((⟨#[45, 48, 46, 48, 53]⟩ : ByteArray) == ⟨#[45, 48, 46, 48, 48]⟩) = false := by decide +kernel
  go_enter Tryz.func63, Tryz.ntmps63
  go_wp2_with fail
  refine (P.out _).mono ?_
  rintro e w' ⟨rfl, rfl⟩
  go_wp2_with fail
  refine (C.out _).mono ?_
  rintro e w1 ⟨rfl, hb1⟩
  go_wp2_with fail
  refine (D1.out _).mono ?_
  rintro e w2 ⟨rfl, hb2⟩
  go_wp2_with fail
  refine (D2.out _).mono ?_
  rintro e w3 ⟨rfl, hb3⟩
  go_wp2_with fail
  refine (U.out _).mono ?_
  rintro e w4 ⟨rfl, hb4⟩
  have hb34 : Below w3.heap.size w3 w4 := by
    rcases hb4 with rfl | rfl
    · exact Below.refl _ _
    · exact Lib.bytesWorld_below _ _ _
  go_wp2_with fail
  refine (S.out _).mono ?_
  rintro e w' ⟨rfl, rfl⟩
  go_wp2
  go_ret2
  exact ⟨rfl, ((hb1.trans (hb2.mono hb1.size)).trans (hb3.mono (Nat.le_trans hb1.size hb2.size))).trans (hb34.mono (Nat.le_trans hb1.size (Nat.le_trans hb2.size hb3.size)))⟩
end Go.Proofs.YthlgjbmkealjjaaGreatDoor

namespace Go.Proofs.YthlgjbmkealjjaaGreatDoor
open Go.RowKit Go.Shelf Go.Lib
set_option linter.unusedVariables false

set_option maxHeartbeats 1000000 in
theorem cut_none (s : ByteArray) (w : World) (h : Lib.indexByte s.data.toList 46 = -1) :
    Calls Tryz.prog 90 #[.string s, .string ⟨#[46]⟩] w fun e w' => e = .returned (.tuple #[.string s, .string ⟨#[]⟩, .bool false]) ∧ Below w.heap.size w w' := by
  have I := Lib.hid (fun w => stringslite_Index_one s 46 w)
  rw [h] at I
  have C : Hid (∀ w, Calls Tryz.prog 112 #[.string s, .string ⟨#[46]⟩] w fun e w' => e = .returned (.tuple #[.string s, .string ⟨#[]⟩, .bool false]) ∧ Below w.heap.size w w') := Lib.hid fun w => by
    go_enter Tryz.func112, Tryz.ntmps112
    go_wp2_with fail
    refine (I.out _).mono ?_
    rintro e w' ⟨rfl, rfl⟩
    go_wp2
    refine bodyPost_ret (results_tmp3 rfl _ _ _) rfl ?_
    exact ⟨rfl, Below.refl _ _⟩
  go_enter Tryz.func90, Tryz.ntmps90
  go_wp2_with fail
  refine (C.out _).mono ?_
  rintro e w' ⟨rfl, hb⟩
  go_wp2
  refine bodyPost_ret (results_tmp3 rfl _ _ _) rfl ?_
  exact ⟨rfl, hb⟩
set_option maxHeartbeats 1000000 in
theorem cut_some (s : ByteArray) (w : World) (j : Nat) (h : Lib.indexByte s.data.toList 46 = (j : Int)) (hj : j < s.size) (hs : s.size ≤ 9223372036854775806) :
    Calls Tryz.prog 90 #[.string s, .string ⟨#[46]⟩] w fun e w' => e = .returned (.tuple #[.string (s.extract 0 j), .string (s.extract (j + 1) s.size), .bool true]) ∧ Below w.heap.size w w' := by
  have I := Lib.hid (fun w => stringslite_Index_one s 46 w)
  rw [h] at I
  have C : Hid (∀ w, Calls Tryz.prog 112 #[.string s, .string ⟨#[46]⟩] w fun e w' => e = .returned (.tuple #[.string (s.extract 0 j), .string (s.extract (j + 1) s.size), .bool true]) ∧ Below w.heap.size w w') := Lib.hid fun w => by
    go_enter Tryz.func112, Tryz.ntmps112
    go_wp2_with fail
    refine (I.out _).mono ?_
    rintro e w' ⟨rfl, rfl⟩
    go_upto_region 3 with (fail)
    go_quiet (fail)
    go_wp2
    refine bodyPost_ret (results_tmp3 rfl _ _ _) rfl ?_
    exact ⟨rfl, below_drewN (Below.refl _ _) _⟩
  go_enter Tryz.func90, Tryz.ntmps90
  go_wp2_with fail
  refine (C.out _).mono ?_
  rintro e w' ⟨rfl, hb⟩
  go_wp2
  refine bodyPost_ret (results_tmp3 rfl _ _ _) rfl ?_
  exact ⟨rfl, hb⟩
theorem trim_body (l : List UInt8) : Lib.trimPrefix l [45] = bodyOf l ∧ Lib.hasPrefix l [45] = minusOf l := by
  unfold Lib.trimPrefix Lib.hasPrefix bodyOf minusOf
  rcases l with _ | ⟨c, l⟩
  · exact ⟨by simp, by simp⟩
  · by_cases h : c = 45
    · subst h
      exact ⟨by simp, by simp⟩
    · have h2 : ¬ (45 : UInt8) = c := fun e => h e.symm
      have e1 : ((45 : UInt8) == c) = false := by simpa using h2
      have e2 : (c == (45 : UInt8)) = false := by simpa using h
      have e3 : ((c :: l).head? == some (45 : UInt8)) = false := by simpa using h
      rw [e3]
      exact ⟨by simp [List.isPrefixOf, e1], by simp [List.isPrefixOf, e1]⟩
theorem not_digit (c : UInt8) : (!notDigit c.toNat) = digitB c := by
  unfold notDigit digitB
  rw [Bool.eq_iff_iff]
  simp
  try omega
theorem digits_law (s : ByteArray) : (!decide (0 ≤ Lib.idxFunc notDigit true s)) = s.data.toList.all digitB := by
  rw [idx_all notDigit (fun r hr => by unfold notDigit; simp; omega) s]
  congr 1
  funext c
  exact not_digit c
theorem ext_take (s : ByteArray) (j : Nat) : (s.extract 0 j).data.toList = s.data.toList.take j := by
  simp [ByteArray.data_extract]
theorem ext_drop (s : ByteArray) (j : Nat) : (s.extract j s.size).data.toList = s.data.toList.drop j := by
  simp [ByteArray.data_extract]
  exact List.take_of_length_le (by rw [List.length_drop]; exact Nat.le_refl _)
theorem readOf_nz : readOf [45, 48, 46, 48, 48] = (0, 7) := readOf_bad0 _ (by decide) (by decide)
set_option maxHeartbeats 4000000 in
theorem Read_negzero (w : World) :
    Calls Tryz.prog 63 #[.string ⟨#[45, 48, 46, 48, 48]⟩] w fun e w' => e = .returned (.tuple #[.int .i64 0, .int .i64 7]) ∧ Below w.heap.size w w' := by
  have P := Lib.hid (fun w => strings_CutPrefix ⟨#[45, 48, 46, 48, 48]⟩ ⟨#[45]⟩ w)
  rw [show Lib.trimPrefix (⟨#[45, 48, 46, 48, 48]⟩ : ByteArray).data.toList (⟨#[45]⟩ : ByteArray).data.toList = [48, 46, 48, 48] by decide +kernel, show Lib.hasPrefix (⟨#[45, 48, 46, 48, 48]⟩ : ByteArray).data.toList (⟨#[45]⟩ : ByteArray).data.toList = true by decide +kernel] at P
  have C := Lib.hid (fun w => cut_some ⟨#[48, 46, 48, 48]⟩ w 1 (by decide +kernel) (by decide) (by decide))
  rw [show (⟨#[48, 46, 48, 48]⟩ : ByteArray).extract 0 1 = ⟨#[48]⟩ by decide +kernel, show (⟨#[48, 46, 48, 48]⟩ : ByteArray).extract (1 + 1) (ByteArray.size ⟨#[48, 46, 48, 48]⟩) = ⟨#[48, 48]⟩ by decide +kernel] at C
  have D1 := Lib.hid (fun w => digits_any ⟨#[48]⟩ w)
  have D2 := Lib.hid (fun w => digits_any ⟨#[48, 48]⟩ w)
  rw [show (!decide (0 ≤ Lib.idxFunc notDigit true ⟨#[48]⟩)) = true by decide +kernel] at D1
  rw [show (!decide (0 ≤ Lib.idxFunc notDigit true ⟨#[48, 48]⟩)) = true by decide +kernel] at D2
  go_enter Tryz.func63, Tryz.ntmps63
  go_wp2_with fail
  refine (P.out _).mono ?_
  rintro e w' ⟨rfl, rfl⟩
  go_wp2_with fail
  refine (C.out _).mono ?_
  rintro e w1 ⟨rfl, hb1⟩
  go_wp2_with fail
  refine (D1.out _).mono ?_
  rintro e w2 ⟨rfl, hb2⟩
  go_wp2_with fail
  refine (D2.out _).mono ?_
  rintro e w3 ⟨rfl, hb3⟩
  go_wp2
  go_ret2
  exact ⟨rfl, (hb1.trans (hb2.mono hb1.size)).trans (hb3.mono (Nat.le_trans hb1.size hb2.size))⟩
set_option maxHeartbeats 4000000 in
theorem Read_any (s : ByteArray) (w : World) (hs : s.size ≤ 140737488351232) :
    Calls Tryz.prog 63 #[.string s] w fun e w' => e = .returned (.tuple #[.int .i64 (readOf s.data.toList).1, .int .i64 (readOf s.data.toList).2]) ∧ Below w.heap.size w w' := by
  by_cases hz : s = ⟨#[45, 48, 46, 48, 48]⟩
  · subst hz
    rw [show (⟨#[45, 48, 46, 48, 48]⟩ : ByteArray).data.toList = [45, 48, 46, 48, 48] from rfl, readOf_nz]
    exact Read_negzero w
  have hs0 : Hid (¬ s.data.toList = [45, 48, 46, 48, 48]) := Lib.hid fun h => hz (by rcases s with ⟨⟨l⟩⟩; have h2 : l = [45, 48, 46, 48, 48] := h; rw [h2])
  have hs1 : (s.toList == [45, 48, 46, 48, 48]) = false := by rw [ByteArray.toList_eq, beq_eq_false_iff_ne]; exact hs0.out
  clear hz
  have P := Lib.hid (fun w => strings_CutPrefix s ⟨#[45]⟩ w)
  obtain ⟨t1, t2⟩ := trim_body s.data.toList
  rw [show (⟨#[45]⟩ : ByteArray).data.toList = [45] from rfl, t1, t2] at P
  clear t1 t2
  have hdl : (bodyOf s.data.toList).length ≤ s.size := by
    unfold bodyOf
    split
    · rw [List.length_tail]; simp
    · simp
  obtain ⟨d, hd⟩ : ∃ d : ByteArray, d = ⟨(bodyOf s.data.toList).toArray⟩ := ⟨_, rfl⟩
  have hdd : d.data.toList = bodyOf s.data.toList := by rw [hd]
  have hds : d.size = (bodyOf s.data.toList).length := by rw [hd]; simp [ByteArray.size]
  rw [← hd] at P
  clear hd
  have hge := Lib.indexByte_ge (bodyOf s.data.toList) 46
  rcases (show Lib.indexByte (bodyOf s.data.toList) 46 = -1 ∨ 0 ≤ Lib.indexByte (bodyOf s.data.toList) 46 by omega) with hi | hi
  · rw [readOf_bad _ fun h => by have := dot_first _ h; omega]
    have C := Lib.hid (fun w => cut_none d w (by rw [hdd]; exact hi))
    clear hi hge hdl hdd hds hs
    go_enter Tryz.func63, Tryz.ntmps63
    go_wp2_with fail
    refine (P.out _).mono ?_
    rintro e w' ⟨rfl, rfl⟩
    go_wp2_with fail
    refine (C.out _).mono ?_
    rintro e w1 ⟨rfl, hb1⟩
    go_wp2
    go_ret2
    exact ⟨rfl, hb1⟩
  · obtain ⟨j, hj⟩ := Int.eq_ofNat_of_zero_le hi
    have hjl : j < (bodyOf s.data.toList).length := by
      have h1 := (Lib.indexByte_some hj).1
      rcases Nat.lt_or_ge j (bodyOf s.data.toList).length with h | h
      · exact h
      · rw [List.getElem?_eq_none h] at h1; cases h1
    have C := Lib.hid (fun w => cut_some d w j (by rw [hdd]; exact hj) (by omega) (by omega))
    have hW : (d.extract 0 j).data.toList = (bodyOf s.data.toList).take j := by rw [ext_take, hdd]
    have hC : (d.extract (j + 1) d.size).data.toList = (bodyOf s.data.toList).drop (j + 1) := by rw [ext_drop, hdd]
    have hWs : (d.extract 0 j).size = j := by rw [ByteArray.size_extract]; omega
    have hCs : (d.extract (j + 1) d.size).size = d.size - (j + 1) := by rw [ByteArray.size_extract]; omega
    have D1 := Lib.hid (fun w => digits_any (d.extract 0 j) w)
    have D2 := Lib.hid (fun w => digits_any (d.extract (j + 1) d.size) w)
    rw [digits_law, hW] at D1
    rw [digits_law, hC] at D2
    have HB := Lib.hid (fun h => impl_back _ j hj h)
    have HO := Lib.hid (impl_ok _ j hj)
    clear hge hi hj
    generalize d.extract 0 j = W at *
    generalize d.extract (j + 1) d.size = Z at *
    generalize d.size = ds at *
    clear hdd
    by_cases b1 : ds = j + 3
    · have hZ : (Z.size : Int) = 2 := by omega
      have hWi : (W.size : Int) = (j : Int) := by omega
      have HW := Lib.hid hW
      have HC := Lib.hid hC
      have HLen : Hid ((bodyOf s.data.toList).length = j + 3) := Lib.hid (by omega)
      clear hCs hds hjl hdl hW hC hWs b1
      by_cases b2 : j < 1
      · rw [readOf_bad _ fun h => by have := (HB.out h).2.1; omega]
        clear HB HO D1 D2 HW HC
        go_enter Tryz.func63, Tryz.ntmps63
        go_wp2_with fail
        refine (P.out _).mono ?_
        rintro e w' ⟨rfl, rfl⟩
        go_wp2_with fail
        refine (C.out _).mono ?_
        rintro e w1 ⟨rfl, hb1⟩
        go_wp2
        go_ret2
        exact ⟨rfl, hb1⟩
      by_cases b3 : 17 < j
      · rw [readOf_bad _ fun h => by have := (HB.out h).2.2.1; omega]
        clear HB HO D1 D2 HW HC
        go_enter Tryz.func63, Tryz.ntmps63
        go_wp2_with fail
        refine (P.out _).mono ?_
        rintro e w' ⟨rfl, rfl⟩
        go_wp2_with fail
        refine (C.out _).mono ?_
        rintro e w1 ⟨rfl, hb1⟩
        go_wp2
        go_ret2
        exact ⟨rfl, hb1⟩
      by_cases b4' : ((bodyOf s.data.toList).take j).all digitB = false
      · rw [readOf_bad _ fun h => by rw [b4'] at HB; exact absurd (HB.out h).2.2.2.1 (by simp)]
        rw [b4'] at D1
        clear HB HO D2 HW HC b4'
        go_enter Tryz.func63, Tryz.ntmps63
        go_wp2_with fail
        refine (P.out _).mono ?_
        rintro e w' ⟨rfl, rfl⟩
        go_wp2_with fail
        refine (C.out _).mono ?_
        rintro e w1 ⟨rfl, hb1⟩
        go_wp2_with fail
        refine (D1.out _).mono ?_
        rintro e w2 ⟨rfl, hb2⟩
        go_wp2
        go_ret2
        exact ⟨rfl, hb1.trans (hb2.mono hb1.size)⟩
      have b4 : ((bodyOf s.data.toList).take j).all digitB = true := by simpa using b4'
      rw [b4] at D1
      clear b4'
      by_cases b5' : ((bodyOf s.data.toList).drop (j + 1)).all digitB = false
      · rw [readOf_bad _ fun h => by rw [b5'] at HB; exact absurd (HB.out h).2.2.2.2.1 (by simp)]
        rw [b5'] at D2
        clear HB HO HW HC b4 b5'
        go_enter Tryz.func63, Tryz.ntmps63
        go_wp2_with fail
        refine (P.out _).mono ?_
        rintro e w' ⟨rfl, rfl⟩
        go_wp2_with fail
        refine (C.out _).mono ?_
        rintro e w1 ⟨rfl, hb1⟩
        go_wp2_with fail
        refine (D1.out _).mono ?_
        rintro e w2 ⟨rfl, hb2⟩
        go_wp2_with fail
        refine (D2.out _).mono ?_
        rintro e w3 ⟨rfl, hb3⟩
        go_wp2
        go_ret2
        exact ⟨rfl, (hb1.trans (hb2.mono hb1.size)).trans (hb3.mono (Nat.le_trans hb1.size hb2.size))⟩
      have b5 : ((bodyOf s.data.toList).drop (j + 1)).all digitB = true := by simpa using b5'
      rw [b5] at D2
      clear b5'
      have H4 := Lib.hid b4
      have H5 := Lib.hid b5
      clear b4 b5
      have k2 : ¬ ((j : Int) < 1) := by omega
      have k3 : ¬ ((17 : Int) < (j : Int)) := by omega
      have k4 : decide ((j : Int) < 1) = false := by simpa using k2
      have k5 : decide ((17 : Int) < (j : Int)) = false := by simpa using k3
      by_cases b6 : 1 < j
      · have h0 : 0 < W.size := by omega
        have h00 : 0 < W.data.toList.length := by rw [show W.data.toList.length = W.size by simp]; exact h0
        have hwb : (bodyOf s.data.toList)[0]? = some (W[0]'h0) := by
          have e1 : ((bodyOf s.data.toList).take j)[0]? = (bodyOf s.data.toList)[0]? := by rw [List.getElem?_take, if_pos (by omega)]
          rw [← e1, ← HW.out, List.getElem?_eq_getElem h00]
          rfl
        by_cases b7 : W[0]'h0 = 48
        · rw [readOf_bad _ fun h => (HB.out h).2.2.2.2.2 ⟨b6, by rw [hwb, b7]⟩]
          have z7 : (((W[0]'h0).toNat : Nat) : Int) = 48 := by rw [b7]; rfl
          clear HB HO HW HC H4 H5 HLen hwb b7 h00
          go_enter Tryz.func63, Tryz.ntmps63
          go_wp2_with fail
          refine (P.out _).mono ?_
          rintro e w' ⟨rfl, rfl⟩
          go_wp2_with fail
          refine (C.out _).mono ?_
          rintro e w1 ⟨rfl, hb1⟩
          go_wp2_with fail
          refine (D1.out _).mono ?_
          rintro e w2 ⟨rfl, hb2⟩
          go_wp2_with fail
          refine (D2.out _).mono ?_
          rintro e w3 ⟨rfl, hb3⟩
          go_wp2
          go_ret2
          exact ⟨rfl, (hb1.trans (hb2.mono hb1.size)).trans (hb3.mono (Nat.le_trans hb1.size hb2.size))⟩
        · have HD : Hid (¬ (1 < j ∧ (bodyOf s.data.toList)[0]? = some 48)) := Lib.hid fun h => b7 (by have h2 := h.2; rw [hwb] at h2; exact Option.some.inj h2)
          have z7 : ¬ (((W[0]'h0).toNat : Nat) : Int) = 48 := fun h => b7 (by
            apply UInt8.toNat_inj.1
            have e : (48 : UInt8).toNat = 48 := rfl
            rw [e]; omega)
          have z8 : ((((W[0]'h0).toNat : Nat) : Int) == 48) = false := by simpa using z7
          clear b7 hwb h00
          have hOK := HO.out HLen.out (by omega) (by omega) H4.out H5.out (HD.out)
          rw [readOf_good _ hOK fun h => hs0.out ((neg_zero_iff _).1 h), (body_parts _ j HLen.out).1, (body_parts _ j HLen.out).2, ← HW.out, ← HC.out]
          have hcl : (W ++ Z).data.toList = W.data.toList ++ Z.data.toList := by simp
          have hWl : W.data.toList.length = j := by rw [show W.data.toList.length = W.size by simp]; omega
          have hZl : Z.data.toList.length = 2 := by rw [show Z.data.toList.length = Z.size by simp]; omega
          have hall : (W ++ Z).data.toList.all digitB = true := by rw [hcl, List.all_append, HW.out, HC.out, H4.out, H5.out]; rfl
          have hlen : (W ++ Z).data.toList.length = j + 2 := by rw [hcl, List.length_append, hWl, hZl]
          have hsz : (W ++ Z).size ≤ 9223372036854775806 := by rw [← (show (W ++ Z).data.toList.length = (W ++ Z).size by simp), hlen]; omega
          have U := Lib.hid (fun w => strconv_ParseUint_10_at64_ok (W ++ Z) hsz (numOf (W ++ Z).data.toList) (by exact parse_num _ hall (by intro h; rw [h] at hlen; simp at hlen) (by omega)) w)
          have hlt := numOf_lt _ hall
          have hpw : (10 : Nat) ^ (W ++ Z).data.toList.length ≤ 10 ^ 19 := Nat.pow_le_pow_right (by decide) (by omega)
          rw [hcl] at U hlt hpw
          have e19 : (10 : Nat) ^ 19 = 10000000000000000000 := by decide
          generalize numOf (W.data.toList ++ Z.data.toList) = N at *
          have SG := Lib.hid (fun w => signed_any N (minusOf s.data.toList) w (by omega))
          clear hOK hcl hWl hZl hall hlen hlt hpw hsz e19 HB HO HW HC H4 H5 HLen HD
          go_enter Tryz.func63, Tryz.ntmps63
          go_wp2_with fail
          refine (P.out _).mono ?_
          rintro e w' ⟨rfl, rfl⟩
          go_wp2_with fail
          refine (C.out _).mono ?_
          rintro e w1 ⟨rfl, hb1⟩
          go_wp2_with fail
          refine (D1.out _).mono ?_
          rintro e w2 ⟨rfl, hb2⟩
          go_wp2_with fail
          refine (D2.out _).mono ?_
          rintro e w3 ⟨rfl, hb3⟩
          go_wp2_with fail
          refine (U.out _).mono ?_
          rintro e w4 ⟨rfl, hb4⟩
          have hb34 : Below w3.heap.size w3 w4 := by
            rcases hb4 with rfl | rfl
            · exact Below.refl _ _
            · exact Lib.bytesWorld_below _ _ _
          clear hb4
          go_wp2_with fail
          refine (SG.out _).mono ?_
          rintro e w' ⟨rfl, rfl⟩
          go_wp2
          go_ret2
          exact ⟨rfl, ((hb1.trans (hb2.mono hb1.size)).trans (hb3.mono (Nat.le_trans hb1.size hb2.size))).trans (hb34.mono (Nat.le_trans hb1.size (Nat.le_trans hb2.size hb3.size)))⟩
      · have HD : Hid (¬ (1 < j ∧ (bodyOf s.data.toList)[0]? = some 48)) := Lib.hid fun h => b6 h.1
        have hOK := HO.out HLen.out (by omega) (by omega) H4.out H5.out (HD.out)
        rw [readOf_good _ hOK fun h => hs0.out ((neg_zero_iff _).1 h), (body_parts _ j HLen.out).1, (body_parts _ j HLen.out).2, ← HW.out, ← HC.out]
        have hcl : (W ++ Z).data.toList = W.data.toList ++ Z.data.toList := by simp
        have hWl : W.data.toList.length = j := by rw [show W.data.toList.length = W.size by simp]; omega
        have hZl : Z.data.toList.length = 2 := by rw [show Z.data.toList.length = Z.size by simp]; omega
        have hall : (W ++ Z).data.toList.all digitB = true := by rw [hcl, List.all_append, HW.out, HC.out, H4.out, H5.out]; rfl
        have hlen : (W ++ Z).data.toList.length = j + 2 := by rw [hcl, List.length_append, hWl, hZl]
        have hsz : (W ++ Z).size ≤ 9223372036854775806 := by rw [← (show (W ++ Z).data.toList.length = (W ++ Z).size by simp), hlen]; omega
        have U := Lib.hid (fun w => strconv_ParseUint_10_at64_ok (W ++ Z) hsz (numOf (W ++ Z).data.toList) (by exact parse_num _ hall (by intro h; rw [h] at hlen; simp at hlen) (by omega)) w)
        have hlt := numOf_lt _ hall
        have hpw : (10 : Nat) ^ (W ++ Z).data.toList.length ≤ 10 ^ 19 := Nat.pow_le_pow_right (by decide) (by omega)
        rw [hcl] at U hlt hpw
        have e19 : (10 : Nat) ^ 19 = 10000000000000000000 := by decide
        generalize numOf (W.data.toList ++ Z.data.toList) = N at *
        have SG := Lib.hid (fun w => signed_any N (minusOf s.data.toList) w (by omega))
        clear hOK hcl hWl hZl hall hlen hlt hpw hsz e19 HB HO HW HC H4 H5 HLen HD
        go_enter Tryz.func63, Tryz.ntmps63
        go_wp2_with fail
        refine (P.out _).mono ?_
        rintro e w' ⟨rfl, rfl⟩
        go_wp2_with fail
        refine (C.out _).mono ?_
        rintro e w1 ⟨rfl, hb1⟩
        go_wp2_with fail
        refine (D1.out _).mono ?_
        rintro e w2 ⟨rfl, hb2⟩
        go_wp2_with fail
        refine (D2.out _).mono ?_
        rintro e w3 ⟨rfl, hb3⟩
        go_wp2_with fail
        refine (U.out _).mono ?_
        rintro e w4 ⟨rfl, hb4⟩
        have hb34 : Below w3.heap.size w3 w4 := by
          rcases hb4 with rfl | rfl
          · exact Below.refl _ _
          · exact Lib.bytesWorld_below _ _ _
        clear hb4
        go_wp2_with fail
        refine (SG.out _).mono ?_
        rintro e w' ⟨rfl, rfl⟩
        go_wp2
        go_ret2
        exact ⟨rfl, ((hb1.trans (hb2.mono hb1.size)).trans (hb3.mono (Nat.le_trans hb1.size hb2.size))).trans (hb34.mono (Nat.le_trans hb1.size (Nat.le_trans hb2.size hb3.size)))⟩
    · rw [readOf_bad _ fun h => b1 (by rw [hds]; exact (HB.out h).1)]
      have z3 : ¬ ((Z.size : Int) = 2) := by omega
      clear HB HO D1 D2 hC hW hWs hCs
      go_enter Tryz.func63, Tryz.ntmps63
      go_wp2_with fail
      refine (P.out _).mono ?_
      rintro e w' ⟨rfl, rfl⟩
      go_wp2_with fail
      refine (C.out _).mono ?_
      rintro e w1 ⟨rfl, hb1⟩
      go_wp2
      go_ret2
      exact ⟨rfl, hb1⟩
end Go.Proofs.YthlgjbmkealjjaaGreatDoor
