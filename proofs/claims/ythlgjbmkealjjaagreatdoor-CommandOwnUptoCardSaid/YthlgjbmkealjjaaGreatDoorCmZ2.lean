/-
  The walk of command.Write. No statement is proved here.
-/
import Derived.Test.YthlgjbmkealjjaaGreatDoorCmZ
namespace Go.Proofs.YthlgjbmkealjjaaGreatDoor
open Go.RowKit
set_option linter.unusedVariables false
theorem bs_data (b : ByteArray) : bs b.data.toList = b := by
  apply ByteArray.ext
  simp [bs]
theorem textL_len (v : Int) (h0 : -9223372036854775808 ≤ v) (h1 : v ≤ 9223372036854775807) : (textL v).length ≤ 24 := by
  have hb : (bodyL v.natAbs).length ≤ 23 := by
    have := nDigits_20 (v.natAbs / 100) (by omega)
    unfold bodyL
    rw [List.length_append, Lib.decDigits_length]
    simp
    omega
  unfold textL
  split
  · rw [List.length_cons]; omega
  · omega
theorem itoa_len (v : Int) (h0 : -9223372036854775808 ≤ v) (h1 : v ≤ 9223372036854775807) : (Lib.itoa v).length ≤ 21 := by
  have := nDigits_20 v.natAbs (by omega)
  have h2 : v < 0 ∨ v.toNat = v.natAbs := by omega
  unfold Lib.itoa
  split
  · rw [List.length_cons, Lib.decDigits_length]; omega
  · rcases h2 with h2 | h2
    · omega
    · rw [h2, Lib.decDigits_length]; omega
theorem wordT_len (k : Kd) (c : Cm) (v : Int) (h2 : c.name.size ≤ 1099511627776) (h3 : c.text.size ≤ 1099511627776) (hb : argK k = true → -9223372036854775808 ≤ v ∧ v ≤ 9223372036854775807) : (wordT k c v).length ≤ 1099511627776 := by
  cases k
  · exact (by simpa using h2 : c.name.data.toList.length ≤ _)
  · exact (by simpa using h3 : c.text.data.toList.length ≤ _)
  · exact Nat.le_trans (civT_len v) (by omega)
  · exact Nat.le_trans (textL_len v (hb rfl).1 (hb rfl).2) (by omega)
  · exact Nat.le_trans (itoa_len v (hb rfl).1 (hb rfl).2) (by omega)
theorem formOf_len {op : List UInt8} {k : Int} {f : List Kd} (h : formOf op k = some f) : f.length ≤ 16 := by
  by_cases hc : op = prodB ∧ 7 ≤ k ∧ k ≤ 15
  · unfold formOf at h
    rw [if_pos hc] at h
    injection h with h
    subst h
    simp
    omega
  · rw [form_off hc] at h
    exact Nat.le_trans (formTab_len h) (by omega)
theorem zsize_cm : ((Tryz.prog.info? 25).bind (·.zero)).map (·.cells.size) = some 4 := by kernel_rfl
theorem ownI_form {w : World} {base n : Nat} {v : Value} {xs : List Value} (h : w.ownsRow base 2 1 v n xs) : ∃ A c, v = .slice A n c ∧ Rd w 1 A n xs := by
  rcases h.2 with ⟨e, h0⟩ | ⟨g, cap, cur, e, h1, h2, h3, h4, h5, h6⟩
  · subst e
    refine ⟨none, 0, by rw [h0], ?_⟩
    subst h0
    have : xs = [] := List.eq_nil_of_length_eq_zero (by simpa using h.1)
    subst this
    exact Rd.nil _ _ _
  · subst e
    exact ⟨_, cap, rfl, Rd.of_own h⟩
theorem parse_args_len (l : List UInt8) : (parseAns l).1.args.length ≤ 401 := by
  unfold parseAns
  split
  · simp [noneC]
  · have hw : (wordsOf l).length ≤ 401 := by
      rw [words_len]
      have := List.count_le_length (a := (32 : UInt8)) (l := l)
      omega
    cases hws : wordsOf l with
    | nil => exact absurd hws (words_ne l)
    | cons op r =>
      rw [hws, List.length_cons] at hw
      cases hf : formOf op ((r.length : Int) - 1) with
      | none => rw [parse_none hf]; simp [noneC]
      | some f =>
        rw [parse_some hf]
        split
        · simp [noneC]
        · cases hr : runW op (f.zip r) with
          | none => simp [endW, noneC]
          | some s =>
            obtain ⟨cm, late⟩ := s
            have h1 := runW_len op (f.zip r) _ 0 cm late (fun c e h => by injection h with h; injection h with h _; subst h; exact Nat.le_refl _) hr
            have h2 : (f.zip r).length ≤ r.length := by rw [List.length_zip]; exact Nat.min_le_right _ _
            unfold endW
            dsimp only
            split
            · simp [noneC]
            · dsimp only; omega
theorem lens_le (ws : List (List UInt8)) (K : Nat) (h : ∀ x ∈ ws, x.length ≤ K) : Lib.lens ws ≤ ws.length * K := by
  induction ws with
  | nil => simp [Lib.lens]
  | cons x xs ih =>
    have h1 := h x List.mem_cons_self
    have h2 := ih (fun y hy => h y (List.mem_cons_of_mem _ hy))
    have e : Lib.lens (x :: xs) = x.length + Lib.lens xs := by simp [Lib.lens]
    rw [e, List.length_cons, Nat.succ_mul]
    omega
theorem join_le (ws : List (List UInt8)) (K : Nat) (h : ∀ x ∈ ws, x.length ≤ K) : (Lib.join ws [32]).length ≤ ws.length + ws.length * K := by
  cases ws with
  | nil => simp [Lib.join_nil]
  | cons x xs =>
    rw [Lib.join_length]
    have := lens_le (x :: xs) K h
    simp at this ⊢
    omega
theorem join_any (ws : List (List UInt8)) (A : Option Addr) (m c base : Nat) (w : World) (h : OwnS w base (.slice A m c) ws) (hm : ws.length = m) (h0 : ws ≠ []) (hmc : m ≤ c) (h17 : m ≤ 17) (hK : ∀ x ∈ ws, x.length ≤ 1099511627776) :
    Calls Tryz.prog 23 #[.slice A m c, .string ⟨#[32]⟩] w fun e w' => e = .returned (.string (bs (Lib.join ws [32]))) ∧ Below w.heap.size w w' := by
  subst hm
  have hp : 0 < ws.length := by cases ws with | nil => exact absurd rfl h0 | cons => simp
  obtain ⟨g6, cap6, e6, hg6, hlt6⟩ := World.ownsRow.form h hp
  injection e6 with e6a e6b e6c
  subst e6a e6c
  have hjc : ∀ (j : Nat) x, (ws.map bs)[j]? = some x → w.cell? ⟨g6, 0 + j, none⟩ = some (.string x) := fun j x hx => by
    have := World.ownsRow.cells h (g := g6) rfl j (.string x) (by
      rw [List.getElem?_map] at hx ⊢
      cases hy : ws[j]? with
      | none => rw [hy] at hx; cases hx
      | some y =>
        rw [hy] at hx
        injection hx with hx
        rw [← hx]
        rfl)
    rw [add_plain] at this
    exact this
  have hjm : (ws.map bs).map (·.data.toList) = ws := by
    rw [List.map_map]
    have : ((fun x : ByteArray => x.data.toList) ∘ bs) = id := by
      funext x
      simp [bs]
    rw [this, List.map_id]
  have hjl : (Lib.join ((ws.map bs).map (·.data.toList)) (⟨#[32]⟩ : ByteArray).data.toList).length ≤ 140737488355328 := by
    rw [hjm]
    have h1 := join_le ws _ hK
    have h2 : ws.length * 1099511627776 ≤ 17 * 1099511627776 := Nat.mul_le_mul_right _ h17
    show (Lib.join ws [32]).length ≤ _
    omega
  have J0 := strings_Join g6 0 c (ws.map bs) ⟨#[32]⟩ w hjc hlt6 (by simp; omega) (by simp; omega) hjl
  rw [hjm, List.length_map] at J0
  exact J0
set_option maxRecDepth 100000 in
set_option maxHeartbeats 4000000 in
theorem Write_any (c : Cm) (A : Option Addr) (n k : Nat) (w : World) (hn : Hid (c.args.length = n)) (hr : Rd w 1 A n (c.args.map (Value.int .i64))) (hnk : n ≤ k) (hm : n ≤ 1099511627776) (hb : ∀ z ∈ c.args, -9223372036854775808 ≤ z ∧ z ≤ 9223372036854775807)
    (h1 : c.op.size ≤ 1099511627776) (h2 : c.name.size ≤ 1099511627776) (h3 : c.text.size ≤ 1099511627776) (hv : Vrs w.heap.size w) :
    Calls Tryz.prog 11 #[.agg (cmCells c (.slice A n k))] w fun e w' => e = .returned (.tuple #[.string (progW c).1, .int .i64 (progW c).2]) ∧ Below w.heap.size w w' := by
  have HR := Lib.hid hr
  have HV := Lib.hid hv
  have HBD := Lib.hid hb
  obtain ⟨Nc, hNc⟩ : ∃ Nc, Nc = w.heap.size := ⟨_, rfl⟩
  have HFO := Lib.hid (fun w => form_any c.op (n : Int) w)
  have HP : Hid (progW c = progK c n) := Lib.hid (by unfold progW; rw [hn.out])
  generalize progW c = PW at *
  clear hr hv hb
  have HNC := Lib.hid hNc
  obtain ⟨W0, hW0⟩ : ∃ W0, W0 = w.alloc (.cells (cmCells c (.slice A n k)) 25) := ⟨_, rfl⟩
  have HC0 : Hid (W0.heap[Nc]? = some (.cells (cmCells c (.slice A n k)) 25 (0, 0))) := Lib.hid (by rw [hW0, hNc]; exact heap_alloc_new _ _)
  have HB0 : Hid (Below Nc w W0) := Lib.hid (by rw [hW0, hNc]; exact (Below.refl _ _).alloc (Nat.le_refl _) _)
  have hc0 : W0.heap[Nc]? = some (.cells #[.string c.op, .string c.name, .slice A n k, .string c.text] 25 (0, 0)) := HC0.out
  have hq := cells4 hc0
  unfold cmCells at hW0 ⊢
  rw [← hNc]
  clear hc0
  go_enter Tryz.func11, Tryz.ntmps11
  go_upto_region 1 with (fail)
  rw [← hW0, ← hNc]
  clear hW0 hNc
  go_wp2_with fail
  refine (HFO.out _).mono ?_
  rintro e W1 ⟨hb1, bn, bt, hbn, hbt, hbn1, hbt1, he⟩
  have HB1 := Lib.hid hb1
  have HBN := Lib.hid hbn
  have HBT := Lib.hid hbt
  have hnw : Nc < W0.heap.size := (Array.getElem?_eq_some_iff.1 HC0.out).1
  have HC1 := Lib.hid ((hb1.block _ hnw).trans HC0.out)
  have hc1 : W1.heap[Nc]? = some (.cells #[.string c.op, .string c.name, .slice A n k, .string c.text] 25 (0, 0)) := HC1.out
  have hq1 := cells4 hc1
  have HE := Lib.hid he
  clear hb1 hbn hbt he hc1 hq
  cases hfo : formOf c.op.data.toList n with
  | none =>
    have he := HE.out
    rw [hfo] at he
    dsimp only at he
    subst he
    obtain rfl : PW = (⟨#[]⟩, 7) := by rw [HP.out, progK_none hfo]
    clear HE hfo HP
    go_wp2
    go_ret2
    exact ⟨rfl, HB0.out.trans (HB1.out.mono (by omega))⟩
  | some f =>
    have he := HE.out
    rw [hfo] at he
    dsimp only at he
    obtain ⟨F0, fc, rfl, hfc, hrow⟩ := he
    have HFM := Lib.hid hfo
    have HROW := Lib.hid hrow
    clear HE hfo hrow
    have hn1 : Nc < W1.heap.size := (Array.getElem?_eq_some_iff.1 HC1.out).1
    go_upto_region 6 with (fail)
    obtain ⟨Bp, hBp⟩ : ∃ Bp, Bp = W1.heap.size := ⟨_, rfl⟩
    have HBP := Lib.hid hBp
    rw [← hBp] at hn1 ⊢
    have HO0 : Hid (OwnS (W1.alloc (.cells #[.string c.op] 9)) Bp (.slice (some ⟨Bp, 0, none⟩) 1 1) [c.op.data.toList]) := Lib.hid (by
      have := OwnS.lit (base := Bp) W1 c.op.data.toList (by omega)
      rw [bs_data, ← hBp] at this
      exact this)
    have HL0 : Hid (Below Bp W1 (W1.alloc (.cells #[.string c.op] 9))) := Lib.hid (by rw [hBp]; exact (Below.refl _ _).alloc (Nat.le_refl _) _)
    have HR1 : Hid (Rd W1 1 A n (c.args.map (Value.int .i64))) := Lib.hid (HR.out.below (by rw [← HNC.out]; exact HB0.out.trans (HB1.out.mono (by omega))))
    have HVR : Hid (∀ W, Below Bp W1 W → Vrs W.heap.size W) := Lib.hid fun W hW => by
      have b1 : Below w.heap.size w W := by rw [← HNC.out]; exact HB0.out.trans ((HB1.out.mono (by omega)).trans (hW.mono (by omega)))
      exact fun W' hW' => HV.out W' (b1.trans (hW'.mono b1.size))
    have HBW : Hid (∀ W, Below Bp W1 W → Below Nc w W) := Lib.hid fun W hW => HB0.out.trans ((HB1.out.mono (by omega)).trans (hW.mono (by omega)))
    have NW : Hid (∀ W (z : Int), Below Bp W1 W → Calls Tryz.prog 57 #[.agg #[.string c.op, .string c.name, .slice A n k, .string c.text], .int .i64 z, .pointer (some ⟨bn, 0, none⟩)] W fun e w' => e = .returned (.string (bs (wordT .n c z))) ∧ Below W.heap.size W w') := Lib.hid fun W z hW => by
      have := name_write c (.slice A n k) z bn W ((hW.block _ (by rw [HBP.out]; exact (Array.getElem?_eq_some_iff.1 HBN.out).1)).trans HBN.out)
      unfold wordT
      rw [bs_data]
      exact this
    have TW : Hid (∀ W (z : Int), Below Bp W1 W → Calls Tryz.prog 57 #[.agg #[.string c.op, .string c.name, .slice A n k, .string c.text], .int .i64 z, .pointer (some ⟨bt, 0, none⟩)] W fun e w' => e = .returned (.string (bs (wordT .t c z))) ∧ Below W.heap.size W w') := Lib.hid fun W z hW => by
      have := text_write c (.slice A n k) z bt W ((hW.block _ (by rw [HBP.out]; exact (Array.getElem?_eq_some_iff.1 HBT.out).1)).trans HBT.out)
      unfold wordT
      rw [bs_data]
      exact this
    have DW : Hid (∀ W (z : Int), Calls Tryz.prog 60 #[.agg #[.string c.op, .string c.name, .slice A n k, .string c.text], .int .i64 z] W fun e w' => e = .returned (.string (bs (wordT .d c z))) ∧ Below W.heap.size W w') := Lib.hid fun W z => date_write c (.slice A n k) z W
    have MW : Hid (∀ W (z : Int), Below Bp W1 W → z ∈ c.args → Calls Tryz.prog 64 #[.agg #[.string c.op, .string c.name, .slice A n k, .string c.text], .int .i64 z] W fun e w' => e = .returned (.string (bs (wordT .m c z))) ∧ Below W.heap.size W w') := Lib.hid fun W z hW hz => money_write c (.slice A n k) z W (HBD.out z hz).1 (HBD.out z hz).2 (HVR.out W hW)
    have IW : Hid (∀ W (z : Int), Below Bp W1 W → z ∈ c.args → Calls Tryz.prog 69 #[.agg #[.string c.op, .string c.name, .slice A n k, .string c.text], .int .i64 z] W fun e w' => e = .returned (.string (bs (wordT .i c z))) ∧ Below W.heap.size W w') := Lib.hid fun W z hW hz => number_write c (.slice A n k) z W (HBD.out z hz).1 (HBD.out z hz).2 (HVR.out W hW)
    have HLEN : Hid (∀ kd z, (argK kd = true → z ∈ c.args) → (wordT kd c z).length ≤ 1099511627776) := Lib.hid fun kd z hz => wordT_len kd c z h2 h3 (fun h => HBD.out z (hz h))
    have hfl16 : f.length ≤ 16 := formOf_len HFM.out
    have HFL := Lib.hid hfl16
    clear hBp hq1 HR HV HFO HB0 HB1 HC0
    go_wp2_with fail
    go_loopg [6, 7, 9, 10, 32] f.length (fun kx t6 t7 t9 t10 u wr => ∃ (f1 f2 : List Kd) (ws : List (List UInt8)) (zs : List Int) (A1 : Option Addr) (m c1 : Nat), u = .int .i64 f1.length ∧ t7 = .slice A1 m c1 ∧ f1.length ≤ f.length ∧ f.length - f1.length ≤ kx ∧ m ≤ c1 ∧ Hid (zs.length = m) ∧ Hid (f = f1 ++ f2) ∧ Hid (textsC c f c.args = (textsC c f2 zs).map (ws ++ ·)) ∧ Hid (ws.length = f1.length) ∧ Hid (∀ z ∈ zs, z ∈ c.args) ∧ Hid (Rd W1 1 A1 m (zs.map (Value.int .i64))) ∧ Hid (OwnS wr Bp t6 (c.op.data.toList :: ws)) ∧ Hid (Below Bp W1 wr) ∧ Hid (∀ x ∈ ws, x.length ≤ 1099511627776))
    case atStart => exact ⟨[], f, [], c.args, A, n, k, rfl, rfl, Nat.zero_le _, Nat.le_refl _, hnk, hn, Lib.hid rfl, Lib.hid (by cases textsC c f c.args <;> simp), Lib.hid rfl, Lib.hid (fun z h => h), HR1, HO0, HL0, Lib.hid (fun x h => by cases h)⟩
    case round =>
      obtain ⟨f1, f2, ws, zs, A1, m, c1, rfl, rfl, hf1, hkx, hmc, hzl, hff, HTX, hwl, hzs, HRZ, HOW, HBL, HWL⟩ := hrel
      obtain ⟨A6, m6, c6, rfl, hm6, hmc6, _⟩ := HOW.out.form
      cases f2 with
      | nil =>
        have hfe : f1.length = f.length := by rw [hff.out, List.append_nil]
        have hfe2 : ¬ ((f1.length : Int) < (f.length : Int)) := by omega
        have HTW : Hid (textsC c f c.args = some ws) := Lib.hid (by rw [HTX.out]; simp [textsC])
        have hpl : m6 ≤ 17 := by have h1 := hm6.out; have := hwl.out; simp at h1; omega
        have HJ : Hid (Calls Tryz.prog 23 #[.slice A6 m6 c6, .string ⟨#[32]⟩] wr fun e w' => e = .returned (.string (bs (lineW c ws))) ∧ Below wr.heap.size wr w') := Lib.hid (join_any _ _ _ _ _ _ HOW.out hm6.out (by simp) hmc6 hpl (fun x hx => by
          rcases List.mem_cons.1 hx with h | h
          · subst h; simpa using h1
          · exact HWL.out x h))
        have HGOOD : Hid ((parseAns (lineW c ws)).2 = 0 → sameC (parseAns (lineW c ws)).1 c → PW = (bs (lineW c ws), 0)) := Lib.hid fun h3 h4 => by rw [HP.out]; exact progK_good HFM.out HTW.out h3 h4
        have HBAD : Hid (¬ ((parseAns (lineW c ws)).2 = 0 ∧ sameC (parseAns (lineW c ws)).1 c) → PW = (⟨#[]⟩, 7)) := Lib.hid fun h3 => by rw [HP.out]; exact progK_bad HFM.out HTW.out h3
        have HPA : Hid (∀ W, Below Bp W1 W → Calls Tryz.prog 8 #[.string (bs (lineW c ws))] W fun e w' => Below W.heap.size W w' ∧ ∃ v, e = .returned (.tuple #[.agg #[.string (parseAns (lineW c ws)).1.op, .string (parseAns (lineW c ws)).1.name, v, .string (parseAns (lineW c ws)).1.text], .int .i64 (parseAns (lineW c ws)).2]) ∧ w'.ownsRow W.heap.size 2 1 v (parseAns (lineW c ws)).1.args.length ((parseAns (lineW c ws)).1.args.map (Value.int .i64))) := Lib.hid fun W hW => Parse_any (lineW c ws) W (HVR.out W hW)
        have HPL : Hid ((parseAns (lineW c ws)).1.args.length ≤ 401) := Lib.hid (parse_args_len _)
        have hcx := (HBL.out.block _ hn1).trans HC1.out
        have hbw := HBL.out.size
        clear HTX
        generalize lineW c ws = L at *
        generalize parseAns L = PA at *
        obtain ⟨D, er⟩ := PA
        dsimp only at *
        go_upto_region 17 with (go_at_call 23; refine HJ.out.mono ?_; rintro e W4 ⟨rfl, hb4⟩)
        have HB4 : Hid (Below Bp W1 W4) := Lib.hid (HBL.out.trans (hb4.mono (by have := HBP.out; omega)))
        clear hb4 hbw
        go_wp2_with fail
        refine (HPA.out W4 HB4.out).mono ?_
        rintro e W5 ⟨hb5, v5, rfl, ho5⟩
        obtain ⟨A5, c5, rfl, hrd5⟩ := ownI_form ho5
        have hn1w : Nc < W4.heap.size := by have := HB4.out.size; have := HBP.out; omega
        have hc5 := (hb5.block _ hn1w).trans ((HB4.out.block _ hn1).trans HC1.out)
        have HB5 : Hid (Below Bp W1 W5) := Lib.hid (HB4.out.trans (hb5.mono (by have := HB4.out.size; have := HBP.out; omega)))
        have hs5 : Bp ≤ W5.heap.size := by have := HB5.out.size; have := HBP.out; omega
        have HRD5 := Lib.hid hrd5
        clear hb5 ho5 hrd5
        go_upto_region 18 with (fail)
        obtain ⟨W6, hW6⟩ : ∃ W6, W6 = W5.alloc (.cells #[.string D.op, .string D.name, .slice A5 D.args.length c5, .string D.text] 25) := ⟨_, rfl⟩
        rw [← hW6]
        obtain ⟨Bd, hBd⟩ : ∃ Bd, Bd = W5.heap.size := ⟨_, rfl⟩
        rw [← hBd]
        have h9 : W6.heap[Bd]? = some (.cells #[.string D.op, .string D.name, .slice A5 D.args.length c5, .string D.text] 25 (0, 0)) := by rw [hW6, hBd]; exact heap_alloc_new _ _
        have hc6 : W6.heap[Nc]? = some (.cells #[.string c.op, .string c.name, .slice A n k, .string c.text] 25 (0, 0)) := by rw [hW6]; exact heapN_old hc5
        have HB6 : Hid (Below Bp W1 W6) := Lib.hid (by rw [hW6]; exact HB5.out.alloc hs5 _)
        have HRD6 : Hid (Rd W6 1 A5 D.args.length (D.args.map (Value.int .i64))) := Lib.hid (by rw [hW6]; exact HRD5.out.alloc _)
        have HRA6 : Hid (Rd W6 1 A n (c.args.map (Value.int .i64))) := Lib.hid (HR1.out.below (by have := HB6.out; rw [HBP.out] at this; exact this))
        have hq9 := cells4 h9
        have hq6 := cells4 hc6
        obtain ⟨o2, n2, t2, a2⟩ := D
        dsimp only at *
        clear hW6 hBd h9 hc6 hc5 hcx HRD5
        by_cases her : er = 0
        · subst her
          by_cases hop : o2 = c.op
          · subst hop
            by_cases hna : n2 = c.name
            · subst hna
              by_cases htx : t2 = c.text
              · subst htx
                have EQ : Hid (a2.length ≤ 140737488355328 → Calls Tryz.prog 24 #[.slice A5 a2.length c5, .slice A n k] W6 fun e w' => e = .returned (.bool (decide (a2 = c.args))) ∧ Below W6.heap.size W6 w') := Lib.hid (fun hal => Equal_any a2 c.args A5 a2.length c5 A n k W6 (Lib.hid rfl) hn HRD6.out HRA6.out hal (by omega))
                have HAL : Hid (a2.length ≤ 140737488355328) := Lib.hid (Nat.le_trans HPL.out (by omega))
                have EQ2 := Lib.hid (EQ.out HAL.out)
                clear EQ
                by_cases har : a2 = c.args
                · obtain rfl : PW = (bs L, 0) := HGOOD.out rfl ⟨rfl, rfl, rfl, har⟩
                  rw [decide_eq_true har] at EQ2
                  clear HGOOD HBAD HP har
                  go_wp2_with (go_at_call 24; refine EQ2.out.mono ?_; rintro e W7 ⟨rfl, hb7⟩)
                  go_ret2
                  exact ⟨rfl, HBW.out _ (HB6.out.trans (hb7.mono (by have := HB6.out.size; have := HBP.out; omega)))⟩
                · obtain rfl : PW = (⟨#[]⟩, 7) := HBAD.out (fun h => har h.2.2.2.2)
                  rw [decide_eq_false har] at EQ2
                  clear HGOOD HBAD HP har
                  go_wp2_with (go_at_call 24; refine EQ2.out.mono ?_; rintro e W7 ⟨rfl, hb7⟩)
                  go_ret2
                  exact ⟨rfl, HBW.out _ (HB6.out.trans (hb7.mono (by have := HB6.out.size; have := HBP.out; omega)))⟩
              · have hx := ne_list htx
                obtain rfl : PW = (⟨#[]⟩, 7) := HBAD.out (fun h => htx h.2.2.2.1)
                clear HGOOD HBAD HP
                go_wp2
                go_ret2
                exact ⟨rfl, HBW.out _ HB6.out⟩
            · have hx := ne_list hna
              obtain rfl : PW = (⟨#[]⟩, 7) := HBAD.out (fun h => hna h.2.2.1)
              clear HGOOD HBAD HP
              go_wp2
              go_ret2
              exact ⟨rfl, HBW.out _ HB6.out⟩
          · have hx := ne_list hop
            obtain rfl : PW = (⟨#[]⟩, 7) := HBAD.out (fun h => hop h.2.1)
            clear HGOOD HBAD HP
            go_wp2
            go_ret2
            exact ⟨rfl, HBW.out _ HB6.out⟩
        · have hx : (er == 0) = false := by rw [beq_eq_false_iff_ne]; exact her
          obtain rfl : PW = (⟨#[]⟩, 7) := HBAD.out (fun h => her h.1)
          clear HGOOD HBAD HP
          go_wp2
          go_ret2
          exact ⟨rfl, HBW.out _ HB6.out⟩
      | cons kd f2 =>
        have hf2 : f1.length < f.length := by rw [hff.out]; simp
        have hkf : f[f1.length]? = some kd := by rw [hff.out]; simp
        obtain ⟨gr, rfl, hgr, hcr⟩ := HROW.out.at_cell hkf
        have HNX : Hid (f = (f1 ++ [kd]) ++ f2) := Lib.hid (by rw [hff.out]; simp)
        have hml : m6 ≤ 17 := by have := hm6.out; have := hwl.out; simp at *; omega
        have hrg : wr.rangeAt gr (f1.length * 3) (kc bn bt kd).toList := fun j u hu => cell_later (by rw [HBP.out] at HBL; exact HBL.out) (hcr j u (by simpa using hu))
        have hcx := (HBL.out.block _ hn1).trans HC1.out
        have hbw := HBL.out.size
        clear hkf hcr hff HROW
        cases kd with
        | n =>
          have HST : Hid (textsC c f c.args = (textsC c f2 zs).map ((ws ++ [wordT .n c 0]) ++ ·)) := Lib.hid (by
            rw [HTX.out]
            show ((textsC c f2 zs).map (wordT .n c 0 :: ·)).map (ws ++ ·) = _
            rw [Option.map_map]
            congr 1
            funext y
            simp)
          have hlw : (wordT .n c 0).length ≤ 1099511627776 := HLEN.out .n 0 (fun h => by cases h)
          go_upto_region 10 with (first
            | (refine wpList_load_mid rfl 50 _ rfl gr (f1.length * 3) rfl (kcN bn).toList _ hrg Tryz.underlying50 rfl info_opd ?_)
            | (refine alloc_store rfl rfl 50 _ _ rfl rfl rfl rfl (kcN bn) rfl rfl zsize_opd info_opd (kc_one bn bt .n) ?_))
          obtain ⟨W4, hW4⟩ : ∃ W4, W4 = wr.alloc (.cells (kcN bn) 50) := ⟨_, rfl⟩
          rw [← hW4]
          obtain ⟨B9, hB9⟩ : ∃ B9, B9 = wr.heap.size := ⟨_, rfl⟩
          rw [← hB9]
          have h9 : W4.heap[B9]? = some (.cells (kcN bn) 50 (0, 0)) := by rw [hW4, hB9]; exact heap_alloc_new _ _
          have x1 : W4.cell? ⟨B9, 1, none⟩ = some (.func (.func 57) #[] #[.pointer (some ⟨bn, 0, none⟩)]) := by rw [cell_of_row _ _ _ _ _ _ h9]; rfl
          have x2 : W4.cell? ⟨B9, 2, none⟩ = some (.bool false) := by rw [cell_of_row _ _ _ _ _ _ h9]; rfl
          have hcc : W4.heap[Nc]? = some (.cells #[.string c.op, .string c.name, .slice A n k, .string c.text] 25 (0, 0)) := by rw [hW4]; exact heapN_old hcx
          have hq := cells4 hcc
          have HB4 : Hid (Below Bp W1 W4) := Lib.hid (by rw [hW4]; exact HBL.out.alloc (by have := HBP.out; omega) _)
          have HO4 : Hid (OwnS W4 Bp (.slice A6 m6 c6) (c.op.data.toList :: ws)) := Lib.hid (by rw [hW4]; exact HOW.out.alloc _)
          clear hW4 hB9 h9 hcx hcc hrg
          have hb4s : Bp ≤ W4.heap.size := by have := HB4.out.size; have := HBP.out; omega
          have CW := Lib.hid (NW.out W4 0 HB4.out)
          go_wp2_with (first
            | (go_at_call 57; refine (CW.out).mono ?_; rintro e W5 ⟨rfl, hb5⟩; have hb5s := hb5.size; have HO5 := Lib.hid (HO4.out.below hb5); have HB5 : Hid (Below Bp W1 W5) := Lib.hid (HB4.out.trans (hb5.mono hb4s)); clear hb5)
            | (at_builtin; refine app_str rfl _ _ rfl Bp (.slice A6 m6 c6) (c.op.data.toList :: ws) rfl (HO5.out.alloc _) _ 1 1 [wordT .n c 0] rfl (lit_str W5 (wordT .n c 0)) (by rw [hm6.out]; omega) (by simp; omega) ?_))
          intro v7 W7 ho7 hb7
          have HO7 := Lib.hid ho7
          have HB7 : Hid (Below Bp W1 W7) := Lib.hid ((HB5.out.alloc (by omega) _).trans hb7)
          clear ho7 hb7
          go_wp2
          go_roundg (f.length - (f1.length + 1))
          case measure => omega
          case rel => exact ⟨f1 ++ [.n], f2, ws ++ [wordT .n c 0], zs, A1, m, c1, by rw [List.length_append]; go_num, rfl, by rw [List.length_append]; simp; omega, by rw [List.length_append]; exact Nat.le_refl _, hmc, hzl, HNX, HST, Lib.hid (by simp [hwl.out]), hzs, HRZ, HO7, HB7, Lib.hid (fun x hx => by
            rcases List.mem_append.1 hx with h | h
            · exact HWL.out x h
            · rw [List.mem_singleton] at h
              subst h
              exact hlw)⟩
        | t =>
          have HST : Hid (textsC c f c.args = (textsC c f2 zs).map ((ws ++ [wordT .t c 0]) ++ ·)) := Lib.hid (by
            rw [HTX.out]
            show ((textsC c f2 zs).map (wordT .t c 0 :: ·)).map (ws ++ ·) = _
            rw [Option.map_map]
            congr 1
            funext y
            simp)
          have hlw : (wordT .t c 0).length ≤ 1099511627776 := HLEN.out .t 0 (fun h => by cases h)
          go_upto_region 10 with (first
            | (refine wpList_load_mid rfl 50 _ rfl gr (f1.length * 3) rfl (kcN bt).toList _ hrg Tryz.underlying50 rfl info_opd ?_)
            | (refine alloc_store rfl rfl 50 _ _ rfl rfl rfl rfl (kcN bt) rfl rfl zsize_opd info_opd (kc_one bn bt .t) ?_))
          obtain ⟨W4, hW4⟩ : ∃ W4, W4 = wr.alloc (.cells (kcN bt) 50) := ⟨_, rfl⟩
          rw [← hW4]
          obtain ⟨B9, hB9⟩ : ∃ B9, B9 = wr.heap.size := ⟨_, rfl⟩
          rw [← hB9]
          have h9 : W4.heap[B9]? = some (.cells (kcN bt) 50 (0, 0)) := by rw [hW4, hB9]; exact heap_alloc_new _ _
          have x1 : W4.cell? ⟨B9, 1, none⟩ = some (.func (.func 57) #[] #[.pointer (some ⟨bt, 0, none⟩)]) := by rw [cell_of_row _ _ _ _ _ _ h9]; rfl
          have x2 : W4.cell? ⟨B9, 2, none⟩ = some (.bool false) := by rw [cell_of_row _ _ _ _ _ _ h9]; rfl
          have hcc : W4.heap[Nc]? = some (.cells #[.string c.op, .string c.name, .slice A n k, .string c.text] 25 (0, 0)) := by rw [hW4]; exact heapN_old hcx
          have hq := cells4 hcc
          have HB4 : Hid (Below Bp W1 W4) := Lib.hid (by rw [hW4]; exact HBL.out.alloc (by have := HBP.out; omega) _)
          have HO4 : Hid (OwnS W4 Bp (.slice A6 m6 c6) (c.op.data.toList :: ws)) := Lib.hid (by rw [hW4]; exact HOW.out.alloc _)
          clear hW4 hB9 h9 hcx hcc hrg
          have hb4s : Bp ≤ W4.heap.size := by have := HB4.out.size; have := HBP.out; omega
          have CW := Lib.hid (TW.out W4 0 HB4.out)
          go_wp2_with (first
            | (go_at_call 57; refine (CW.out).mono ?_; rintro e W5 ⟨rfl, hb5⟩; have hb5s := hb5.size; have HO5 := Lib.hid (HO4.out.below hb5); have HB5 : Hid (Below Bp W1 W5) := Lib.hid (HB4.out.trans (hb5.mono hb4s)); clear hb5)
            | (at_builtin; refine app_str rfl _ _ rfl Bp (.slice A6 m6 c6) (c.op.data.toList :: ws) rfl (HO5.out.alloc _) _ 1 1 [wordT .t c 0] rfl (lit_str W5 (wordT .t c 0)) (by rw [hm6.out]; omega) (by simp; omega) ?_))
          intro v7 W7 ho7 hb7
          have HO7 := Lib.hid ho7
          have HB7 : Hid (Below Bp W1 W7) := Lib.hid ((HB5.out.alloc (by omega) _).trans hb7)
          clear ho7 hb7
          go_wp2
          go_roundg (f.length - (f1.length + 1))
          case measure => omega
          case rel => exact ⟨f1 ++ [.t], f2, ws ++ [wordT .t c 0], zs, A1, m, c1, by rw [List.length_append]; go_num, rfl, by rw [List.length_append]; simp; omega, by rw [List.length_append]; exact Nat.le_refl _, hmc, hzl, HNX, HST, Lib.hid (by simp [hwl.out]), hzs, HRZ, HO7, HB7, Lib.hid (fun x hx => by
            rcases List.mem_append.1 hx with h | h
            · exact HWL.out x h
            · rw [List.mem_singleton] at h
              subst h
              exact hlw)⟩
        | d =>
          cases zs with
          | nil =>
            have hm0 : m = 0 := by rw [← hzl.out]; rfl
            subst hm0
            obtain rfl : PW = (⟨#[]⟩, 7) := by rw [HP.out, progK_lack HFM.out]; rw [HTX.out]; rfl
            go_upto_region 10 with (first
              | (refine wpList_load_mid rfl 50 _ rfl gr (f1.length * 3) rfl (kcD).toList _ hrg Tryz.underlying50 rfl info_opd ?_)
              | (refine alloc_store rfl rfl 50 _ _ rfl rfl rfl rfl (kcD) rfl rfl zsize_opd info_opd (kc_one bn bt .d) ?_))
            obtain ⟨W4, hW4⟩ : ∃ W4, W4 = wr.alloc (.cells (kcD) 50) := ⟨_, rfl⟩
            rw [← hW4]
            obtain ⟨B9, hB9⟩ : ∃ B9, B9 = wr.heap.size := ⟨_, rfl⟩
            rw [← hB9]
            have h9 : W4.heap[B9]? = some (.cells (kcD) 50 (0, 0)) := by rw [hW4, hB9]; exact heap_alloc_new _ _
            have x1 : W4.cell? ⟨B9, 1, none⟩ = some (.func (.func 60) #[] #[]) := by rw [cell_of_row _ _ _ _ _ _ h9]; rfl
            have x2 : W4.cell? ⟨B9, 2, none⟩ = some (.bool true) := by rw [cell_of_row _ _ _ _ _ _ h9]; rfl
            have hcc : W4.heap[Nc]? = some (.cells #[.string c.op, .string c.name, .slice A n k, .string c.text] 25 (0, 0)) := by rw [hW4]; exact heapN_old hcx
            have hq := cells4 hcc
            have HB4 : Hid (Below Bp W1 W4) := Lib.hid (by rw [hW4]; exact HBL.out.alloc (by have := HBP.out; omega) _)
            have HO4 : Hid (OwnS W4 Bp (.slice A6 m6 c6) (c.op.data.toList :: ws)) := Lib.hid (by rw [hW4]; exact HOW.out.alloc _)
            clear hW4 hB9 h9 hcx hcc hrg
            clear HTX HP
            go_wp2
            go_ret2
            exact ⟨rfl, HBW.out _ HB4.out⟩
          | cons z zs =>
            have hz := hzs.out z List.mem_cons_self
            have HST : Hid (textsC c f c.args = (textsC c f2 zs).map ((ws ++ [wordT .d c z]) ++ ·)) := Lib.hid (by
              rw [HTX.out]
              show ((textsC c f2 zs).map (wordT .d c z :: ·)).map (ws ++ ·) = _
              rw [Option.map_map]
              congr 1
              funext y
              simp)
            have hlw : (wordT .d c z).length ≤ 1099511627776 := HLEN.out .d z (fun h => hz)
            have hm1 : 1 ≤ m := by rw [← hzl.out]; simp
            obtain ⟨A8, hcut, hrz8⟩ := cut_i64 HRZ.out c1 hmc
            have HRZ8 := Lib.hid hrz8
            obtain ⟨b8, off8, rfl, hz8⟩ := rdI_at HRZ.out 0 (by simp)
            have hzl8 : Hid (zs.length = m - 1) := Lib.hid (by have := hzl.out; simp at this; omega)
            have hzs8 : Hid (∀ y ∈ zs, y ∈ c.args) := Lib.hid fun y hy => hzs.out y (List.mem_cons_of_mem _ hy)
            rw [Nat.add_zero] at hz8
            go_upto_region 10 with (first
              | (refine wpList_load_mid rfl 50 _ rfl gr (f1.length * 3) rfl (kcD).toList _ hrg Tryz.underlying50 rfl info_opd ?_)
              | (refine alloc_store rfl rfl 50 _ _ rfl rfl rfl rfl (kcD) rfl rfl zsize_opd info_opd (kc_one bn bt .d) ?_))
            obtain ⟨W4, hW4⟩ : ∃ W4, W4 = wr.alloc (.cells (kcD) 50) := ⟨_, rfl⟩
            rw [← hW4]
            obtain ⟨B9, hB9⟩ : ∃ B9, B9 = wr.heap.size := ⟨_, rfl⟩
            rw [← hB9]
            have h9 : W4.heap[B9]? = some (.cells (kcD) 50 (0, 0)) := by rw [hW4, hB9]; exact heap_alloc_new _ _
            have x1 : W4.cell? ⟨B9, 1, none⟩ = some (.func (.func 60) #[] #[]) := by rw [cell_of_row _ _ _ _ _ _ h9]; rfl
            have x2 : W4.cell? ⟨B9, 2, none⟩ = some (.bool true) := by rw [cell_of_row _ _ _ _ _ _ h9]; rfl
            have hcc : W4.heap[Nc]? = some (.cells #[.string c.op, .string c.name, .slice A n k, .string c.text] 25 (0, 0)) := by rw [hW4]; exact heapN_old hcx
            have hq := cells4 hcc
            have HB4 : Hid (Below Bp W1 W4) := Lib.hid (by rw [hW4]; exact HBL.out.alloc (by have := HBP.out; omega) _)
            have HO4 : Hid (OwnS W4 Bp (.slice A6 m6 c6) (c.op.data.toList :: ws)) := Lib.hid (by rw [hW4]; exact HOW.out.alloc _)
            clear hW4 hB9 h9 hcx hcc hrg
            have hb4s : Bp ≤ W4.heap.size := by have := HB4.out.size; have := HBP.out; omega
            have z8 : W4.cell? ⟨b8, off8, none⟩ = some (.int .i64 z) := cell_later (by have := HB4.out; rw [HBP.out] at this; exact this) hz8
            have HO9 := HO4
            have HB9 := HB4
            clear hrz8 hz8 HTX hzs hzl
            go_upto_region 13 with (fail)
            go_region
            have HO4 : Hid (OwnS W4.drew Bp (.slice A6 m6 c6) (c.op.data.toList :: ws)) := Lib.hid (HO9.out.drewN 1)
            have HB4 : Hid (Below Bp W1 W4.drew) := Lib.hid (below_drewN HB9.out 1)
            have CW := Lib.hid (DW.out W4.drew z)
            have hb4s : Bp ≤ W4.drew.heap.size := hb4s
            clear HO9 HB9 hcut
            go_wp2_with (first
              | (go_at_call 60; refine (CW.out).mono ?_; rintro e W5 ⟨rfl, hb5⟩; have hb5s := hb5.size; have HO5 := Lib.hid (HO4.out.below hb5); have HB5 : Hid (Below Bp W1 W5) := Lib.hid (HB4.out.trans (hb5.mono hb4s)); clear hb5)
              | (at_builtin; refine app_str rfl _ _ rfl Bp (.slice A6 m6 c6) (c.op.data.toList :: ws) rfl (HO5.out.alloc _) _ 1 1 [wordT .d c z] rfl (lit_str W5 (wordT .d c z)) (by rw [hm6.out]; omega) (by simp; omega) ?_))
            intro v7 W7 ho7 hb7
            have HO7 := Lib.hid ho7
            have HB7 : Hid (Below Bp W1 W7) := Lib.hid ((HB5.out.alloc (by omega) _).trans hb7)
            clear ho7 hb7
            go_wp2
            go_roundg (f.length - (f1.length + 1))
            case measure => omega
            case rel => exact ⟨f1 ++ [.d], f2, ws ++ [wordT .d c z], zs, A8, (m - 1), (c1 - 1), by rw [List.length_append]; go_num, rfl, by rw [List.length_append]; simp; omega, by rw [List.length_append]; exact Nat.le_refl _, (by omega), hzl8, HNX, HST, Lib.hid (by simp [hwl.out]), hzs8, HRZ8, HO7, HB7, Lib.hid (fun x hx => by
              rcases List.mem_append.1 hx with h | h
              · exact HWL.out x h
              · rw [List.mem_singleton] at h
                subst h
                exact hlw)⟩
        | m =>
          cases zs with
          | nil =>
            have hm0 : m = 0 := by rw [← hzl.out]; rfl
            subst hm0
            obtain rfl : PW = (⟨#[]⟩, 7) := by rw [HP.out, progK_lack HFM.out]; rw [HTX.out]; rfl
            go_upto_region 10 with (first
              | (refine wpList_load_mid rfl 50 _ rfl gr (f1.length * 3) rfl (kcM).toList _ hrg Tryz.underlying50 rfl info_opd ?_)
              | (refine alloc_store rfl rfl 50 _ _ rfl rfl rfl rfl (kcM) rfl rfl zsize_opd info_opd (kc_one bn bt .m) ?_))
            obtain ⟨W4, hW4⟩ : ∃ W4, W4 = wr.alloc (.cells (kcM) 50) := ⟨_, rfl⟩
            rw [← hW4]
            obtain ⟨B9, hB9⟩ : ∃ B9, B9 = wr.heap.size := ⟨_, rfl⟩
            rw [← hB9]
            have h9 : W4.heap[B9]? = some (.cells (kcM) 50 (0, 0)) := by rw [hW4, hB9]; exact heap_alloc_new _ _
            have x1 : W4.cell? ⟨B9, 1, none⟩ = some (.func (.func 64) #[] #[]) := by rw [cell_of_row _ _ _ _ _ _ h9]; rfl
            have x2 : W4.cell? ⟨B9, 2, none⟩ = some (.bool true) := by rw [cell_of_row _ _ _ _ _ _ h9]; rfl
            have hcc : W4.heap[Nc]? = some (.cells #[.string c.op, .string c.name, .slice A n k, .string c.text] 25 (0, 0)) := by rw [hW4]; exact heapN_old hcx
            have hq := cells4 hcc
            have HB4 : Hid (Below Bp W1 W4) := Lib.hid (by rw [hW4]; exact HBL.out.alloc (by have := HBP.out; omega) _)
            have HO4 : Hid (OwnS W4 Bp (.slice A6 m6 c6) (c.op.data.toList :: ws)) := Lib.hid (by rw [hW4]; exact HOW.out.alloc _)
            clear hW4 hB9 h9 hcx hcc hrg
            clear HTX HP
            go_wp2
            go_ret2
            exact ⟨rfl, HBW.out _ HB4.out⟩
          | cons z zs =>
            have hz := hzs.out z List.mem_cons_self
            have HST : Hid (textsC c f c.args = (textsC c f2 zs).map ((ws ++ [wordT .m c z]) ++ ·)) := Lib.hid (by
              rw [HTX.out]
              show ((textsC c f2 zs).map (wordT .m c z :: ·)).map (ws ++ ·) = _
              rw [Option.map_map]
              congr 1
              funext y
              simp)
            have hlw : (wordT .m c z).length ≤ 1099511627776 := HLEN.out .m z (fun h => hz)
            have hm1 : 1 ≤ m := by rw [← hzl.out]; simp
            obtain ⟨A8, hcut, hrz8⟩ := cut_i64 HRZ.out c1 hmc
            have HRZ8 := Lib.hid hrz8
            obtain ⟨b8, off8, rfl, hz8⟩ := rdI_at HRZ.out 0 (by simp)
            have hzl8 : Hid (zs.length = m - 1) := Lib.hid (by have := hzl.out; simp at this; omega)
            have hzs8 : Hid (∀ y ∈ zs, y ∈ c.args) := Lib.hid fun y hy => hzs.out y (List.mem_cons_of_mem _ hy)
            rw [Nat.add_zero] at hz8
            go_upto_region 10 with (first
              | (refine wpList_load_mid rfl 50 _ rfl gr (f1.length * 3) rfl (kcM).toList _ hrg Tryz.underlying50 rfl info_opd ?_)
              | (refine alloc_store rfl rfl 50 _ _ rfl rfl rfl rfl (kcM) rfl rfl zsize_opd info_opd (kc_one bn bt .m) ?_))
            obtain ⟨W4, hW4⟩ : ∃ W4, W4 = wr.alloc (.cells (kcM) 50) := ⟨_, rfl⟩
            rw [← hW4]
            obtain ⟨B9, hB9⟩ : ∃ B9, B9 = wr.heap.size := ⟨_, rfl⟩
            rw [← hB9]
            have h9 : W4.heap[B9]? = some (.cells (kcM) 50 (0, 0)) := by rw [hW4, hB9]; exact heap_alloc_new _ _
            have x1 : W4.cell? ⟨B9, 1, none⟩ = some (.func (.func 64) #[] #[]) := by rw [cell_of_row _ _ _ _ _ _ h9]; rfl
            have x2 : W4.cell? ⟨B9, 2, none⟩ = some (.bool true) := by rw [cell_of_row _ _ _ _ _ _ h9]; rfl
            have hcc : W4.heap[Nc]? = some (.cells #[.string c.op, .string c.name, .slice A n k, .string c.text] 25 (0, 0)) := by rw [hW4]; exact heapN_old hcx
            have hq := cells4 hcc
            have HB4 : Hid (Below Bp W1 W4) := Lib.hid (by rw [hW4]; exact HBL.out.alloc (by have := HBP.out; omega) _)
            have HO4 : Hid (OwnS W4 Bp (.slice A6 m6 c6) (c.op.data.toList :: ws)) := Lib.hid (by rw [hW4]; exact HOW.out.alloc _)
            clear hW4 hB9 h9 hcx hcc hrg
            have hb4s : Bp ≤ W4.heap.size := by have := HB4.out.size; have := HBP.out; omega
            have z8 : W4.cell? ⟨b8, off8, none⟩ = some (.int .i64 z) := cell_later (by have := HB4.out; rw [HBP.out] at this; exact this) hz8
            have HO9 := HO4
            have HB9 := HB4
            clear hrz8 hz8 HTX hzs hzl
            go_upto_region 13 with (fail)
            go_region
            have HO4 : Hid (OwnS W4.drew Bp (.slice A6 m6 c6) (c.op.data.toList :: ws)) := Lib.hid (HO9.out.drewN 1)
            have HB4 : Hid (Below Bp W1 W4.drew) := Lib.hid (below_drewN HB9.out 1)
            have CW := Lib.hid (MW.out W4.drew z HB4.out hz)
            have hb4s : Bp ≤ W4.drew.heap.size := hb4s
            clear HO9 HB9 hcut
            go_wp2_with (first
              | (go_at_call 64; refine (CW.out).mono ?_; rintro e W5 ⟨rfl, hb5⟩; have hb5s := hb5.size; have HO5 := Lib.hid (HO4.out.below hb5); have HB5 : Hid (Below Bp W1 W5) := Lib.hid (HB4.out.trans (hb5.mono hb4s)); clear hb5)
              | (at_builtin; refine app_str rfl _ _ rfl Bp (.slice A6 m6 c6) (c.op.data.toList :: ws) rfl (HO5.out.alloc _) _ 1 1 [wordT .m c z] rfl (lit_str W5 (wordT .m c z)) (by rw [hm6.out]; omega) (by simp; omega) ?_))
            intro v7 W7 ho7 hb7
            have HO7 := Lib.hid ho7
            have HB7 : Hid (Below Bp W1 W7) := Lib.hid ((HB5.out.alloc (by omega) _).trans hb7)
            clear ho7 hb7
            go_wp2
            go_roundg (f.length - (f1.length + 1))
            case measure => omega
            case rel => exact ⟨f1 ++ [.m], f2, ws ++ [wordT .m c z], zs, A8, (m - 1), (c1 - 1), by rw [List.length_append]; go_num, rfl, by rw [List.length_append]; simp; omega, by rw [List.length_append]; exact Nat.le_refl _, (by omega), hzl8, HNX, HST, Lib.hid (by simp [hwl.out]), hzs8, HRZ8, HO7, HB7, Lib.hid (fun x hx => by
              rcases List.mem_append.1 hx with h | h
              · exact HWL.out x h
              · rw [List.mem_singleton] at h
                subst h
                exact hlw)⟩
        | i =>
          cases zs with
          | nil =>
            have hm0 : m = 0 := by rw [← hzl.out]; rfl
            subst hm0
            obtain rfl : PW = (⟨#[]⟩, 7) := by rw [HP.out, progK_lack HFM.out]; rw [HTX.out]; rfl
            go_upto_region 10 with (first
              | (refine wpList_load_mid rfl 50 _ rfl gr (f1.length * 3) rfl (kcI).toList _ hrg Tryz.underlying50 rfl info_opd ?_)
              | (refine alloc_store rfl rfl 50 _ _ rfl rfl rfl rfl (kcI) rfl rfl zsize_opd info_opd (kc_one bn bt .i) ?_))
            obtain ⟨W4, hW4⟩ : ∃ W4, W4 = wr.alloc (.cells (kcI) 50) := ⟨_, rfl⟩
            rw [← hW4]
            obtain ⟨B9, hB9⟩ : ∃ B9, B9 = wr.heap.size := ⟨_, rfl⟩
            rw [← hB9]
            have h9 : W4.heap[B9]? = some (.cells (kcI) 50 (0, 0)) := by rw [hW4, hB9]; exact heap_alloc_new _ _
            have x1 : W4.cell? ⟨B9, 1, none⟩ = some (.func (.func 69) #[] #[]) := by rw [cell_of_row _ _ _ _ _ _ h9]; rfl
            have x2 : W4.cell? ⟨B9, 2, none⟩ = some (.bool true) := by rw [cell_of_row _ _ _ _ _ _ h9]; rfl
            have hcc : W4.heap[Nc]? = some (.cells #[.string c.op, .string c.name, .slice A n k, .string c.text] 25 (0, 0)) := by rw [hW4]; exact heapN_old hcx
            have hq := cells4 hcc
            have HB4 : Hid (Below Bp W1 W4) := Lib.hid (by rw [hW4]; exact HBL.out.alloc (by have := HBP.out; omega) _)
            have HO4 : Hid (OwnS W4 Bp (.slice A6 m6 c6) (c.op.data.toList :: ws)) := Lib.hid (by rw [hW4]; exact HOW.out.alloc _)
            clear hW4 hB9 h9 hcx hcc hrg
            clear HTX HP
            go_wp2
            go_ret2
            exact ⟨rfl, HBW.out _ HB4.out⟩
          | cons z zs =>
            have hz := hzs.out z List.mem_cons_self
            have HST : Hid (textsC c f c.args = (textsC c f2 zs).map ((ws ++ [wordT .i c z]) ++ ·)) := Lib.hid (by
              rw [HTX.out]
              show ((textsC c f2 zs).map (wordT .i c z :: ·)).map (ws ++ ·) = _
              rw [Option.map_map]
              congr 1
              funext y
              simp)
            have hlw : (wordT .i c z).length ≤ 1099511627776 := HLEN.out .i z (fun h => hz)
            have hm1 : 1 ≤ m := by rw [← hzl.out]; simp
            obtain ⟨A8, hcut, hrz8⟩ := cut_i64 HRZ.out c1 hmc
            have HRZ8 := Lib.hid hrz8
            obtain ⟨b8, off8, rfl, hz8⟩ := rdI_at HRZ.out 0 (by simp)
            have hzl8 : Hid (zs.length = m - 1) := Lib.hid (by have := hzl.out; simp at this; omega)
            have hzs8 : Hid (∀ y ∈ zs, y ∈ c.args) := Lib.hid fun y hy => hzs.out y (List.mem_cons_of_mem _ hy)
            rw [Nat.add_zero] at hz8
            go_upto_region 10 with (first
              | (refine wpList_load_mid rfl 50 _ rfl gr (f1.length * 3) rfl (kcI).toList _ hrg Tryz.underlying50 rfl info_opd ?_)
              | (refine alloc_store rfl rfl 50 _ _ rfl rfl rfl rfl (kcI) rfl rfl zsize_opd info_opd (kc_one bn bt .i) ?_))
            obtain ⟨W4, hW4⟩ : ∃ W4, W4 = wr.alloc (.cells (kcI) 50) := ⟨_, rfl⟩
            rw [← hW4]
            obtain ⟨B9, hB9⟩ : ∃ B9, B9 = wr.heap.size := ⟨_, rfl⟩
            rw [← hB9]
            have h9 : W4.heap[B9]? = some (.cells (kcI) 50 (0, 0)) := by rw [hW4, hB9]; exact heap_alloc_new _ _
            have x1 : W4.cell? ⟨B9, 1, none⟩ = some (.func (.func 69) #[] #[]) := by rw [cell_of_row _ _ _ _ _ _ h9]; rfl
            have x2 : W4.cell? ⟨B9, 2, none⟩ = some (.bool true) := by rw [cell_of_row _ _ _ _ _ _ h9]; rfl
            have hcc : W4.heap[Nc]? = some (.cells #[.string c.op, .string c.name, .slice A n k, .string c.text] 25 (0, 0)) := by rw [hW4]; exact heapN_old hcx
            have hq := cells4 hcc
            have HB4 : Hid (Below Bp W1 W4) := Lib.hid (by rw [hW4]; exact HBL.out.alloc (by have := HBP.out; omega) _)
            have HO4 : Hid (OwnS W4 Bp (.slice A6 m6 c6) (c.op.data.toList :: ws)) := Lib.hid (by rw [hW4]; exact HOW.out.alloc _)
            clear hW4 hB9 h9 hcx hcc hrg
            have hb4s : Bp ≤ W4.heap.size := by have := HB4.out.size; have := HBP.out; omega
            have z8 : W4.cell? ⟨b8, off8, none⟩ = some (.int .i64 z) := cell_later (by have := HB4.out; rw [HBP.out] at this; exact this) hz8
            have HO9 := HO4
            have HB9 := HB4
            clear hrz8 hz8 HTX hzs hzl
            go_upto_region 13 with (fail)
            go_region
            have HO4 : Hid (OwnS W4.drew Bp (.slice A6 m6 c6) (c.op.data.toList :: ws)) := Lib.hid (HO9.out.drewN 1)
            have HB4 : Hid (Below Bp W1 W4.drew) := Lib.hid (below_drewN HB9.out 1)
            have CW := Lib.hid (IW.out W4.drew z HB4.out hz)
            have hb4s : Bp ≤ W4.drew.heap.size := hb4s
            clear HO9 HB9 hcut
            go_wp2_with (first
              | (go_at_call 69; refine (CW.out).mono ?_; rintro e W5 ⟨rfl, hb5⟩; have hb5s := hb5.size; have HO5 := Lib.hid (HO4.out.below hb5); have HB5 : Hid (Below Bp W1 W5) := Lib.hid (HB4.out.trans (hb5.mono hb4s)); clear hb5)
              | (at_builtin; refine app_str rfl _ _ rfl Bp (.slice A6 m6 c6) (c.op.data.toList :: ws) rfl (HO5.out.alloc _) _ 1 1 [wordT .i c z] rfl (lit_str W5 (wordT .i c z)) (by rw [hm6.out]; omega) (by simp; omega) ?_))
            intro v7 W7 ho7 hb7
            have HO7 := Lib.hid ho7
            have HB7 : Hid (Below Bp W1 W7) := Lib.hid ((HB5.out.alloc (by omega) _).trans hb7)
            clear ho7 hb7
            go_wp2
            go_roundg (f.length - (f1.length + 1))
            case measure => omega
            case rel => exact ⟨f1 ++ [.i], f2, ws ++ [wordT .i c z], zs, A8, (m - 1), (c1 - 1), by rw [List.length_append]; go_num, rfl, by rw [List.length_append]; simp; omega, by rw [List.length_append]; exact Nat.le_refl _, (by omega), hzl8, HNX, HST, Lib.hid (by simp [hwl.out]), hzs8, HRZ8, HO7, HB7, Lib.hid (fun x hx => by
              rcases List.mem_append.1 hx with h | h
              · exact HWL.out x h
              · rw [List.mem_singleton] at h
                subst h
                exact hlw)⟩
end Go.Proofs.YthlgjbmkealjjaaGreatDoor
