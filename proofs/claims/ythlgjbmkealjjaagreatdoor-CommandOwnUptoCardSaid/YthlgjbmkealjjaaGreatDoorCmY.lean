/-
  What a command's words are as text; the writers of words. No statement is proved here.
-/
import Derived.Test.YthlgjbmkealjjaaGreatDoorAmTT
import Derived.Test.YthlgjbmkealjjaaGreatDoorAmXB
import Derived.Test.YthlgjbmkealjjaaGreatDoorCmVV
namespace Go.Proofs.YthlgjbmkealjjaaGreatDoor
open Go.RowKit
set_option linter.unusedVariables false
theorem textB_is (v : Int) : textB v = bs (textL v) := by
  unfold textB textL bodyL bs
  split
  · apply ByteArray.ext
    simp [ByteArray.data_append]
  · apply ByteArray.ext
    simp [ByteArray.data_append]
open Classical in
/-- A day as text; none: nothing. -/
noncomputable def civT (v : Int) : List UInt8 := if h : ∃ p : Nat × Nat × Nat, Valid p.1 p.2.1 p.2.2 ∧ dayOf p.1 p.2.1 p.2.2 = v then txt h.choose.1 h.choose.2.1 h.choose.2.2 else []
theorem civT_eq {y m a : Nat} (h : Valid y m a) {v : Int} (hd : dayOf y m a = v) : civT v = txt y m a := by
  have hx : ∃ p : Nat × Nat × Nat, Valid p.1 p.2.1 p.2.2 ∧ dayOf p.1 p.2.1 p.2.2 = v := ⟨(y, m, a), h, hd⟩
  unfold civT
  rw [dif_pos hx]
  obtain ⟨h1, h2⟩ := hx.choose_spec
  obtain ⟨e1, e2, e3⟩ := dayOf_inj h1 h (h2.trans hd.symm)
  rw [e1, e2, e3]
theorem civT_out {v : Int} (h : v < -719162 ∨ 2932896 < v) : civT v = [] := by
  unfold civT
  rw [dif_neg]
  rintro ⟨p, h1, h2⟩
  have := dayOf_range h1
  omega
theorem civT_len (v : Int) : (civT v).length ≤ 10 := by
  unfold civT
  split
  · rw [txt_length]; exact Nat.le_refl _
  · simp
set_option maxRecDepth 100000 in
theorem refDec_any (v : Int) (w : World) (h0 : -9223372036854775808 ≤ v) (h1 : v ≤ 9223372036854775807) :
    Calls Tryz.prog 27 #[.int .i64 v] w fun e w' => e = .returned (.string (bs (Lib.itoa v))) ∧ Below w.heap.size w w' := by
  have SZ := Lib.hid (fun w => Size_any v w h0 h1)
  have DG := Lib.hid (fun w => Digits_any v.natAbs w (natAbs_ok v h0 h1))
  have hdl := decs_le v.natAbs (by omega)
  by_cases hv : v < 0
  · have hI : Hid (bs (Lib.itoa v) = ⟨#[45]⟩ ++ ⟨(Lib.decDigits v.natAbs).toArray⟩) := Lib.hid (by
      unfold Lib.itoa
      rw [if_pos hv]
      apply ByteArray.ext
      simp [bs, ByteArray.data_append])
    rw [hI.out]
    generalize natOf v.natAbs = nv at *
    generalize (⟨(Lib.decDigits v.natAbs).toArray⟩ : ByteArray) = D at *
    go_enter Tryz.func27, Tryz.ntmps27
    go_wp2_with fail
    refine (SZ.out w).mono ?_
    rintro e w1 ⟨rfl, hb1⟩
    go_wp2_with fail
    refine (DG.out _).mono ?_
    rintro e w2 ⟨rfl, hb2⟩
    have HB := Lib.hid (hb1.trans (hb2.mono hb1.size))
    clear hb1 hb2 SZ DG
    go_wp2
    go_ret
    exact ⟨rfl, HB.out⟩
  · have hI : Hid (bs (Lib.itoa v) = ⟨(Lib.decDigits v.natAbs).toArray⟩) := Lib.hid (by
      unfold Lib.itoa
      rw [if_neg hv, show v.toNat = v.natAbs by omega]
      rfl)
    rw [hI.out]
    generalize natOf v.natAbs = nv at *
    generalize (⟨(Lib.decDigits v.natAbs).toArray⟩ : ByteArray) = D at *
    go_enter Tryz.func27, Tryz.ntmps27
    go_wp2_with fail
    refine (SZ.out w).mono ?_
    rintro e w1 ⟨rfl, hb1⟩
    go_wp2_with fail
    refine (DG.out _).mono ?_
    rintro e w2 ⟨rfl, hb2⟩
    have HB := Lib.hid (hb1.trans (hb2.mono hb1.size))
    clear hb1 hb2 SZ DG
    go_wp2
    go_ret
    exact ⟨rfl, HB.out⟩
/-- A word of a command, as text. -/
noncomputable def wordT (k : Kd) (c : Cm) (v : Int) : List UInt8 := match k with
  | .n => c.name.data.toList
  | .t => c.text.data.toList
  | .d => civT v
  | .m => textL v
  | .i => Lib.itoa v
set_option maxRecDepth 100000 in
theorem name_write (c : Cm) (u : Value) (z : Int) (bx : Nat) (W : World) (hbx : W.heap[bx]? = some (.cells #[.func (.func 34) #[] #[]] 73 (0, 0))) :
    Calls Tryz.prog 57 #[.agg (cmCells c u), .int .i64 z, .pointer (some ⟨bx, 0, none⟩)] W fun e w' => e = .returned (.string c.name) ∧ Below W.heap.size W w' := by
  have cb : (W.alloc (.cells (cmCells c u) 25)).cell? ⟨bx, 0, none⟩ = some (.func (.func 34) #[] #[]) := by rw [cell_of_row _ _ _ _ _ _ (heapN_old hbx)]; rfl
  have c1 : (W.alloc (.cells (cmCells c u) 25)).cell? ⟨W.heap.size, 1, none⟩ = some (.string c.name) := by rw [cell_of_row _ _ _ _ _ _ (heap_alloc_new _ _)]; rfl
  have HB := Lib.hid ((Below.refl W.heap.size W).alloc (Nat.le_refl _) (.cells (cmCells c u) 25))
  unfold cmCells at *
  go_enter Tryz.func57, Tryz.ntmps57
  go_wp2_with (go_at_call 34; refine (nameF_any _ _).mono ?_; rintro e w' ⟨rfl, rfl⟩)
  go_ret
  exact ⟨rfl, HB.out⟩
set_option maxRecDepth 100000 in
theorem text_write (c : Cm) (u : Value) (z : Int) (bx : Nat) (W : World) (hbx : W.heap[bx]? = some (.cells #[.func (.func 35) #[] #[]] 73 (0, 0))) :
    Calls Tryz.prog 57 #[.agg (cmCells c u), .int .i64 z, .pointer (some ⟨bx, 0, none⟩)] W fun e w' => e = .returned (.string c.text) ∧ Below W.heap.size W w' := by
  have cb : (W.alloc (.cells (cmCells c u) 25)).cell? ⟨bx, 0, none⟩ = some (.func (.func 35) #[] #[]) := by rw [cell_of_row _ _ _ _ _ _ (heapN_old hbx)]; rfl
  have c1 : (W.alloc (.cells (cmCells c u) 25)).cell? ⟨W.heap.size, 3, none⟩ = some (.string c.text) := by rw [cell_of_row _ _ _ _ _ _ (heap_alloc_new _ _)]; rfl
  have HB := Lib.hid ((Below.refl W.heap.size W).alloc (Nat.le_refl _) (.cells (cmCells c u) 25))
  unfold cmCells at *
  go_enter Tryz.func57, Tryz.ntmps57
  go_wp2_with (go_at_call 35; refine (textF_any _ _).mono ?_; rintro e w' ⟨rfl, rfl⟩)
  go_ret
  exact ⟨rfl, HB.out⟩
set_option maxRecDepth 100000 in
theorem date_write (c : Cm) (u : Value) (z : Int) (W : World) :
    Calls Tryz.prog 60 #[.agg (cmCells c u), .int .i64 z] W fun e w' => e = .returned (.string (bs (civT z))) ∧ Below W.heap.size W w' := by
  have HB := Lib.hid ((Below.refl W.heap.size W).alloc (Nat.le_refl _) (.cells (cmCells c u) 25))
  unfold cmCells at *
  by_cases hz : z < -719162 ∨ 2932896 < z
  · rw [civT_out hz]
    have T := Lib.hid (fun w => Text_out z w hz)
    clear hz
    go_enter Tryz.func60, Tryz.ntmps60
    go_wp2_with (go_at_call 61; refine (T.out _).mono ?_; rintro e w' ⟨rfl, hb⟩)
    go_ret
    exact ⟨rfl, HB.out.trans (hb.mono (by simp))⟩
  · have T := Lib.hid (fun w => Text_in z w (by omega) (by omega))
    go_enter Tryz.func60, Tryz.ntmps60
    go_wp2_with (go_at_call 61; refine (T.out _).mono ?_; rintro e w' ⟨⟨y, m, a, hv, hd, rfl⟩, hb⟩)
    go_ret
    rw [civT_eq hv hd]
    exact ⟨rfl, HB.out.trans (hb.mono (by simp))⟩
set_option maxRecDepth 100000 in
theorem money_write (c : Cm) (u : Value) (z : Int) (W : World) (h0 : -9223372036854775808 ≤ z) (h1 : z ≤ 9223372036854775807) (hv : Vrs W.heap.size W) :
    Calls Tryz.prog 64 #[.agg (cmCells c u), .int .i64 z] W fun e w' => e = .returned (.string (bs (textL z))) ∧ Below W.heap.size W w' := by
  have HB := Lib.hid ((Below.refl W.heap.size W).alloc (Nat.le_refl _) (.cells (cmCells c u) 25))
  have T := Lib.hid (fun w (h : Below W.heap.size W w) => Text_any z w h0 h1 (fun W' hW => (hv W' (h.trans (hW.mono h.size))).1))
  rw [← textB_is]
  clear hv
  unfold cmCells at *
  go_enter Tryz.func64, Tryz.ntmps64
  go_wp2_with (go_at_call 65; refine (T.out _ HB.out).mono ?_; rintro e w' ⟨rfl, hb⟩)
  go_ret
  exact ⟨rfl, HB.out.trans (hb.mono (by simp))⟩
set_option maxRecDepth 100000 in
theorem number_write (c : Cm) (u : Value) (z : Int) (W : World) (h0 : -9223372036854775808 ≤ z) (h1 : z ≤ 9223372036854775807) (hv : Vrs W.heap.size W) :
    Calls Tryz.prog 69 #[.agg (cmCells c u), .int .i64 z] W fun e w' => e = .returned (.string (bs (Lib.itoa z))) ∧ Below W.heap.size W w' := by
  have HB := Lib.hid ((Below.refl W.heap.size W).alloc (Nat.le_refl _) (.cells (cmCells c u) 25))
  have T := Lib.hid (FormatInt_any z h0 h1 W.heap.size _ (hv.below HB.out))
  clear hv
  unfold cmCells at *
  go_enter Tryz.func69, Tryz.ntmps69
  go_wp2_with (go_at_call 68; refine T.out.mono ?_; rintro e w' ⟨rfl, hb⟩)
  go_ret
  exact ⟨rfl, HB.out.trans (hb.mono (by simp))⟩
end Go.Proofs.YthlgjbmkealjjaaGreatDoor
