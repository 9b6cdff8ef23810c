/-
  The walk of command.Write. No statement is proved here.
-/
import Derived.Deep.MidRow
import Derived.Test.YthlgjbmkealjjaaGreatDoorCmY
import Derived.Test.YthlgjbmkealjjaaGreatDoorCmX
namespace Go.Proofs.YthlgjbmkealjjaaGreatDoor
open Go.RowKit
set_option linter.unusedVariables false
set_option maxRecDepth 100000 in
set_option maxHeartbeats 4000000 in
theorem Equal_any (a1 a2 : List Int) (A : Option Addr) (n k : Nat) (A' : Option Addr) (n' k' : Nat) (w : World) (hn : Hid (a1.length = n)) (hn' : Hid (a2.length = n')) (hr : Rd w 1 A n (a1.map (Value.int .i64))) (hr' : Rd w 1 A' n' (a2.map (Value.int .i64))) (hm : n ≤ 140737488355328) (hm' : n' ≤ 140737488355328) :
    Calls Tryz.prog 24 #[.slice A n k, .slice A' n' k'] w fun e w' => e = .returned (.bool (decide (a1 = a2))) ∧ Below w.heap.size w w' := by
  obtain ⟨R, hR⟩ : ∃ R, R = decide (a1 = a2) := ⟨_, rfl⟩
  rw [← hR]
  have HR := Lib.hid hR
  clear hR
  by_cases hln : n = n'
  · subst hln
    have HT : Hid (∀ i (h : i < n), a1[i]'(by rw [hn.out]; exact h) ≠ a2[i]'(by rw [hn'.out]; exact h) → R = false) := Lib.hid fun i h hne => by
      rw [HR.out]
      exact decide_eq_false fun e => hne (by subst e; rfl)
    have HE : Hid ((∀ i (h : i < n), a1[i]'(by rw [hn.out]; exact h) = a2[i]'(by rw [hn'.out]; exact h)) → R = true) := Lib.hid fun h => by
      rw [HR.out]
      exact decide_eq_true (List.ext_getElem (by rw [hn.out, hn'.out]) fun i h1 h2 => h i (by rw [← hn.out]; exact h1))
    have HRD := Lib.hid hr
    have HRD' := Lib.hid hr'
    clear HR hr hr'
    go_enter Tryz.func24, Tryz.ntmps24
    go_wp2_with fail
    go_loopw [5, 13] (fun _ t wr => ∃ i : Nat, i ≤ n ∧ t = .int .i64 i ∧ Hid (∀ j (h : j < n), j < i → a1[j]'(by rw [hn.out]; exact h) = a2[j]'(by rw [hn'.out]; exact h)) ∧ Hid (Below w.heap.size w wr)) (fun _ t _ => n - (intOf t).toNat)
    case atStart => exact ⟨0, Nat.zero_le _, rfl, Lib.hid (fun j h h2 => by omega), Lib.hid (Below.refl _ _)⟩
    case round =>
      obtain ⟨i, hi, rfl, HP, HB⟩ := hrel
      by_cases h1 : i < n
      · obtain ⟨b, off, rfl, hx1⟩ := rdI_at (HRD.out.below HB.out) i (by rw [hn.out]; exact h1)
        obtain ⟨b', off', rfl, hx2⟩ := rdI_at (HRD'.out.below HB.out) i (by rw [hn'.out]; exact h1)
        have HTI := Lib.hid (HT.out i h1)
        have HPI : Hid (a1[i]'(by rw [hn.out]; exact h1) = a2[i]'(by rw [hn'.out]; exact h1) → ∀ j (h : j < n), j < i + 1 → a1[j]'(by rw [hn.out]; exact h) = a2[j]'(by rw [hn'.out]; exact h)) := Lib.hid fun e j h hj => by
          by_cases e2 : j = i
          · subst e2; exact e
          · exact HP.out j h (by omega)
        generalize a1[i]'(by rw [hn.out]; exact h1) = x at *
        generalize a2[i]'(by rw [hn'.out]; exact h1) = y at *
        have hin : (i : Int) < (n : Int) := by omega
        by_cases hxy : x = y
        · subst hxy
          have HP2 := Lib.hid (HPI.out rfl)
          clear HP HTI HPI
          go_wp2_with fail
          go_region
          go_wp2
          go_roundw
          case rel => exact ⟨i + 1, by omega, by go_num, HP2, Lib.hid (below_drewN HB.out 1)⟩
          case measure =>
            simp only [intOf]
            omega
        · obtain rfl := HTI.out hxy
          have hxb : (x == y) = false := by rw [beq_eq_false_iff_ne]; exact hxy
          clear HP HPI
          go_wp2_with fail
          go_region
          go_wp2
          go_ret
          exact ⟨rfl, below_drewN HB.out 1⟩
      · obtain rfl := HE.out (fun j h => HP.out j h (by omega))
        have hi2 : i = n := by omega
        clear HP HT HE
        go_wp2
        go_ret
        exact ⟨rfl, HB.out⟩
  · obtain rfl : R = false := by
      rw [HR.out]
      exact decide_eq_false fun h => hln (by rw [← hn.out, ← hn'.out, h])
    have hx : ((n : Int) == (n' : Int)) = false := by rw [beq_eq_false_iff_ne]; omega
    go_enter Tryz.func24, Tryz.ntmps24
    go_wp2
    go_ret
    exact ⟨rfl, Below.refl _ _⟩
def argK : Kd → Bool
  | .n => false
  | .t => false
  | _ => true
/-- A command's words behind the first; none: numbers are lacking. -/
noncomputable def textsC (c : Cm) : List Kd → List Int → Option (List (List UInt8))
  | [], _ => some []
  | k :: f, zs => if argK k = true then (match zs with
      | [] => none
      | z :: zs => (textsC c f zs).map (wordT k c z :: ·)) else (textsC c f zs).map (wordT k c 0 :: ·)
def lineW (c : Cm) (ws : List (List UInt8)) : List UInt8 := Lib.join (c.op.data.toList :: ws) [32]
/-- What command.Write answers, the form found for k numbers. -/
noncomputable def progK (c : Cm) (k : Int) : ByteArray × Int := match formOf c.op.data.toList k with
  | none => (⟨#[]⟩, 7)
  | some f => match textsC c f c.args with
    | none => (⟨#[]⟩, 7)
    | some ws => if (parseAns (lineW c ws)).2 = 0 ∧ sameC (parseAns (lineW c ws)).1 c then (bs (lineW c ws), 0) else (⟨#[]⟩, 7)
noncomputable def progW (c : Cm) : ByteArray × Int := progK c c.args.length
section
variable {c : Cm} {k : Int} {f : List Kd} {ws : List (List UInt8)}
theorem progK_none (h : formOf c.op.data.toList k = none) : progK c k = (⟨#[]⟩, 7) := by simp only [progK, h]
theorem progK_lack (h : formOf c.op.data.toList k = some f) (h2 : textsC c f c.args = none) : progK c k = (⟨#[]⟩, 7) := by simp only [progK, h, h2]
theorem progK_good (h : formOf c.op.data.toList k = some f) (h2 : textsC c f c.args = some ws) (h3 : (parseAns (lineW c ws)).2 = 0) (h4 : sameC (parseAns (lineW c ws)).1 c) : progK c k = (bs (lineW c ws), 0) := by simp only [progK, h, h2]; rw [if_pos ⟨h3, h4⟩]
theorem progK_bad (h : formOf c.op.data.toList k = some f) (h2 : textsC c f c.args = some ws) (h3 : ¬ ((parseAns (lineW c ws)).2 = 0 ∧ sameC (parseAns (lineW c ws)).1 c)) : progK c k = (⟨#[]⟩, 7) := by simp only [progK, h, h2]; rw [if_neg h3]
end
theorem RowO.at_cell {W : World} {bn bt : Nat} {f : List Kd} {A0 : Option Addr} (h : RowO bn bt W f A0) {i : Nat} {k : Kd} (hk : f[i]? = some k) : ∃ g, A0 = some ⟨g, 0, none⟩ ∧ bn ≤ g ∧ ∀ m u, (kc bn bt k)[m]? = some u → W.cell? ⟨g, i * 3 + m, none⟩ = some u := by
  obtain ⟨g, cur, e0, rfl, e2, e3⟩ := h
  refine ⟨g, rfl, e0, fun m u hu => ?_⟩
  rw [World.cell?, e2]
  have hi : i < f.length := (List.getElem?_eq_some_iff.1 hk).1
  have hm : m < 3 := by rw [← kc_size bn bt k]; exact (Array.getElem?_eq_some_iff.1 hu).1
  have h1 : (opCells bn bt f)[i * 3 + m]? = some u := by
    clear e3
    unfold opCells
    induction f generalizing i with
    | nil => cases hk
    | cons x f ih =>
      rw [List.flatMap_cons]
      cases i with
      | zero =>
        have : x = k := by simpa using hk
        subst this
        rw [List.getElem?_append_left (by rw [Array.length_toList, kc_size]; omega)]
        simpa using hu
      | succ i =>
        rw [List.getElem?_append_right (by rw [Array.length_toList, kc_size]; omega), Array.length_toList, kc_size, show (i + 1) * 3 + m - 3 = i * 3 + m by omega]
        exact ih (by simpa using hk) (by simpa using hi)
  rw [← e3, List.getElem?_take] at h1
  split at h1
  · simpa using h1
  · cases h1
theorem elemSizeI (W : World) : (sizeOf (Tryz.prog.elem 23)).run Tryz.prog W = .ok 1 W := by kernel_rfl
theorem elemUndI : Tryz.prog.underlying 23 = some (.slice (Tryz.prog.elem 23)) := by kernel_rfl
theorem cut_i64 {w : World} {A : Option Addr} {n : Nat} {x : Int} {xs : List Int} (h : Rd w 1 A n ((x :: xs).map (Value.int .i64))) (c : Nat) (hc : n ≤ c) :
    ∃ A', (∀ W, (Instr.slice 23 (.slice A n c) (some (.int .i64 1)) none none).run Tryz.prog W = .ok (.slice A' (n - 1) (c - 1)) W) ∧ Rd w 1 A' (n - 1) (xs.map (Value.int .i64)) := by
  have hl : xs.length + 1 = n := by simpa using h.1
  have hr := h.cut (i := 1) (by omega) (Nat.le_refl n) hc
  rw [List.take_of_length_le (by simp; omega)] at hr
  refine ⟨_, fun W => ?_, by simpa using hr⟩
  have := run_slice_l (P := Tryz.prog) W 23 A n c elemUndI .i64 1 (by omega) (by omega)
  rw [this, elemSizeI]
  simp [Result.andThen, sliced]
end Go.Proofs.YthlgjbmkealjjaaGreatDoor
