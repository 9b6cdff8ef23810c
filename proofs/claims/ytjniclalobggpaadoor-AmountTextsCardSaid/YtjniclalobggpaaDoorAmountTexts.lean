/-
  The walk of AmountTexts.
-/
import Derived.Test.YtjniclalobggpaaDoorAmX8
import Derived.Test.YtjniclalobggpaaDoorAmWk
namespace Go.Proofs.YtjniclalobggpaaDoor
open Go.RowKit
set_option linter.unusedVariables false

theorem pair_text (a b : Nat) (ha : a < 10) (hb : b < 10) : (⟨[49, UInt8.ofNat (48 + a), UInt8.ofNat (48 + b)].toArray⟩ : ByteArray).extract 1 3 = ⟨[UInt8.ofNat (48 + a), UInt8.ofNat (48 + b)].toArray⟩ := by
  apply ByteArray.ext
  simp
theorem textB_eq (v : Int) : textB v = ⟨(textL v).toArray⟩ := by
  unfold textB textL bodyL
  rw [pair_text _ _ (by omega) (by omega)]
  split
  · apply ByteArray.ext
    simp
  · apply ByteArray.ext
    simp
theorem sgn_bound (q : Nat) (m : Bool) : -9223372036854775808 ≤ (sgn q m).1 ∧ (sgn q m).1 ≤ 9223372036854775807 := by
  unfold sgn
  split
  · split <;> (constructor <;> simp only <;> omega)
  · split <;> (constructor <;> simp only <;> omega)
theorem readOf_bound (l : List UInt8) : -9223372036854775808 ≤ (readOf l).1 ∧ (readOf l).1 ≤ 9223372036854775807 := by
  unfold readOf
  split
  · exact sgn_bound _ _
  · constructor <;> simp only <;> omega
theorem textL_len (v : Int) (h0 : -9223372036854775808 ≤ v) (h1 : v ≤ 9223372036854775807) : (textL v).length ≤ 24 := by
  have hb : (bodyL v.natAbs).length ≤ 23 := by
    have := nDigits_20 (v.natAbs / 100) (by omega)
    unfold bodyL
    rw [List.length_append, Lib.decDigits_length]
    simp
    omega
  unfold textL
  split
  · rw [List.length_cons]; omega
  · omega
set_option maxHeartbeats 2000000 in
theorem AmountTexts_walk (v : Int) (s : ByteArray) (w : World) (ht : Tabs w) (a0 : -9223372036854775808 ≤ v) (a1 : v ≤ 9223372036854775807) (hs : s.size ≤ 140737488351232) :
    Calls Tryd.prog 7 #[.int .i64 v, .string s] w fun e w' => e = .returned (.bool true) ∧ Below w.heap.size w w' := by
  have W := Lib.hid (wakes_any w ht)
  have R1 := Lib.hid (fun w => Read_any s w hs)
  have R2 := Lib.hid (fun w => refRead_any s w hs)
  have hsz : ByteArray.size ⟨(textL v).toArray⟩ ≤ 140737488351232 := by
    have := textL_len v a0 a1
    simp [ByteArray.size]
    omega
  have R3 := Lib.hid (fun w => Read_any ⟨(textL v).toArray⟩ w hsz)
  rw [show (⟨(textL v).toArray⟩ : ByteArray).data.toList = textL v by simp, text_back v a0 a1] at R3
  have T1 := Lib.hid (fun W (hW : Below w.heap.size w W) => Text_any v W a0 a1 (ht.below hW))
  have T2 := Lib.hid (fun w => refText_any v w a0 a1)
  rw [textB_eq] at T1
  obtain ⟨x0, x1⟩ := readOf_bound s.data.toList
  have T3 := Lib.hid (fun W (hW : Below w.heap.size w W) => Text_any (readOf s.data.toList).1 W x0 x1 (ht.below hW))
  rw [textB_eq] at T3
  have HBK : Hid ((readOf s.data.toList).2 = 0 → (⟨(textL (readOf s.data.toList).1).toArray⟩ : ByteArray) = s) := Lib.hid (fun h => by
    have := back_text s.data.toList (readOf s.data.toList).1 (Prod.ext rfl h)
    rw [this])
  clear x0 x1 hsz ht
  generalize (⟨(textL (readOf s.data.toList).1).toArray⟩ : ByteArray) = tx at *
  generalize (⟨(textL v).toArray⟩ : ByteArray) = tv at *
  generalize readOf s.data.toList = R at *
  obtain ⟨x, f⟩ := R
  dsimp only at *
  go_enter Tryd.func7, Tryd.ntmps7
  go_wp2_with fail
  refine W.out.mono ?_
  rintro e w1 ⟨rfl, hb1⟩
  go_wp2_with fail
  refine (R1.out _).mono ?_
  rintro e w2 ⟨rfl, hb⟩
  have hb2 := hb1.trans (hb.mono hb1.size)
  clear hb hb1
  go_wp2_with fail
  refine (R2.out _).mono ?_
  rintro e w3 ⟨rfl, hb⟩
  have hb3 := hb2.trans (hb.mono hb2.size)
  clear hb hb2
  go_wp2_with fail
  refine (T1.out _ hb3).mono ?_
  rintro e w4 ⟨rfl, hb⟩
  have hb4 := hb3.trans (hb.mono hb3.size)
  clear hb hb3
  go_wp2_with fail
  refine (R3.out _).mono ?_
  rintro e w5 ⟨rfl, hb⟩
  have hb5 := hb4.trans (hb.mono hb4.size)
  clear hb hb4
  go_wp2_with fail
  refine (T1.out _ hb5).mono ?_
  rintro e w6 ⟨rfl, hb⟩
  have hb6 := hb5.trans (hb.mono hb5.size)
  clear hb hb5
  go_wp2_with fail
  refine (T2.out _).mono ?_
  rintro e w7 ⟨rfl, hb⟩
  have hb7 := hb6.trans (hb.mono hb6.size)
  clear hb hb6
  by_cases hf : f = 0
  · subst hf
    obtain rfl := HBK.out rfl
    go_wp2_with fail
    refine (T3.out _ hb7).mono ?_
    rintro e w8 ⟨rfl, hb⟩
    have hb8 := hb7.trans (hb.mono hb7.size)
    clear hb hb7
    go_wp2
    go_ret
    exact ⟨by simp, hb8⟩
  · go_wp2
    go_ret
    exact ⟨by simp, hb7⟩
end Go.Proofs.YtjniclalobggpaaDoor
