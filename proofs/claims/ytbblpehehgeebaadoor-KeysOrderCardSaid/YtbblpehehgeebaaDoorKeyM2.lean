/-
  keys.Compare and the reference's: the loops. No statement is proved here.
-/
import Derived.Test.YtbblpehehgeebaaDoorKeyM
namespace Go.Proofs.YtbblpehehgeebaaDoor
open Go.RowKit
set_option linter.unusedVariables false
set_option linter.unusedSimpArgs false

theorem cmpL_cons (p q : PartV) (a b : List PartV) : cmpL (p :: a) (q :: b) = if cmpP p q ≠ 0 then cmpP p q else cmpL a b := by rw [cmpL]
theorem drop_at {α : Type} (l : List α) (k : Nat) (h : k < l.length) : l.drop k = l[k] :: l.drop (k + 1) := (List.getElem_cons_drop h).symm
set_option maxHeartbeats 4000000 in
theorem compF_any (A : Option Addr) (n c : Nat) (ps : List PartV) (A' : Option Addr) (n' c' : Nat) (qs : List PartV) (w : World) (h : RdPt w A n ps) (h' : RdPt w A' n' qs) (hn : n ≤ 10000000000000) (hn' : n' ≤ 10000000000000) :
    Calls Tryd.prog 29 #[.slice A n c, .slice A' n' c', .func (.func 30) #[] #[]] w fun e w' => e = .returned (.int .i64 (cmpL ps qs)) ∧ Below w.heap.size w w' := by
  have HX := Lib.hid h
  have HY := Lib.hid h'
  have HLX : Hid (ps.length = n) := Lib.hid h.len
  have HLY : Hid (qs.length = n') := Lib.hid h'.len
  have HR : Hid (cmpL ps qs = cmpL (ps.drop 0) (qs.drop 0)) := Lib.hid rfl
  clear h h'
  generalize cmpL ps qs = R at HR ⊢
  go_enter Tryd.func29, Tryd.ntmps29
  go_wp2_with fail
  go_loopw [13] (fun t wr => ∃ k : Nat, k ≤ n ∧ k ≤ n' ∧ t = .int .i64 k ∧ Hid (R = cmpL (ps.drop k) (qs.drop k)) ∧ Hid (Below w.heap.size w wr)) (fun t _ => n - (intOf t).toNat)
  case atStart => exact ⟨0, by omega, by omega, rfl, HR, Lib.hid (Below.refl _ _)⟩
  case round =>
    clear HR
    obtain ⟨k, hk, hk', rfl, HR, HB⟩ := hrel
    rename_i wr
    by_cases hlt : k < n
    · have hkl : k < ps.length := by rw [HLX.out]; exact hlt
      obtain ⟨b, off, rfl, hc⟩ := (HX.out.below HB.out).ex (by omega)
      obtain ⟨p0, p1, p2⟩ := hc k hkl
      have hb1 : w.heap.size ≤ wr.heap.size := HB.out.size
      by_cases hlt' : k < n'
      · have hkl' : k < qs.length := by rw [HLY.out]; exact hlt'
        have e1 := drop_at ps k hkl
        have e2 := drop_at qs k hkl'
        have HR2 : Hid (R = if cmpP ps[k] qs[k] ≠ 0 then cmpP ps[k] qs[k] else cmpL (ps.drop (k + 1)) (qs.drop (k + 1))) := Lib.hid (by rw [HR.out, e1, e2, cmpL_cons])
        clear e1 e2 HR hc
        have ba1 : ∀ o : Obj, Below wr.heap.size wr (wr.alloc o) := fun o => (Below.refl _ _).alloc (Nat.le_refl _) o
        have HBA1 : Hid (∀ o : Obj, Below w.heap.size w (wr.alloc o)) := Lib.hid fun o => HB.out.trans ((ba1 o).mono hb1)
        obtain ⟨bq, offq, rfl, hcq⟩ := (HY.out.below (HBA1.out (.cells #[.bool ps[k].isText, .int .i64 ps[k].num, .string ⟨ps[k].text.toArray⟩] 40))).ex (by omega)
        obtain ⟨q0, q1, q2⟩ := hcq k hkl'
        have CP := Lib.hid (fun w => comp1_any ps[k] qs[k] w)
        clear hcq ba1
        unfold partV at CP
        generalize cmpP ps[k] qs[k] = C at *
        generalize ps[k] = p at *
        generalize qs[k] = q at *
        obtain ⟨pb, pn, pt⟩ := p
        obtain ⟨qb, qn, qt⟩ := q
        dsimp only at *
        go_wp2_with fail
        refine (CP.out _).mono ?_
        rintro e w5 ⟨rfl, hb5⟩
        have HB5 : Hid (Below w.heap.size w w5) := Lib.hid ((((HB.out.alloc hb1 _).alloc (by simp; omega) _)).trans (hb5.mono (by simp; omega)))
        clear hb5 CP HBA1 HB p0 p1 p2 q0 q1 q2
        by_cases hC : C = 0
        · subst hC
          have HR3 : Hid (R = cmpL (ps.drop (k + 1)) (qs.drop (k + 1))) := Lib.hid (by rw [HR2.out, if_neg (by simp)])
          clear HR2
          go_wp2
          go_roundw
          case rel => exact ⟨k + 1, by omega, by omega, by go_num, HR3, HB5⟩
          case measure => (try simp [intOf]) <;> (try omega)
        · obtain rfl : R = C := by rw [HR2.out, if_pos hC]
          clear HR2
          go_wp2
          go_ret
          exact ⟨rfl, HB5.out⟩
      · obtain rfl : R = 1 := by
          have e3 : qs.drop k = [] := List.drop_of_length_le (by rw [HLY.out]; omega)
          rw [HR.out, drop_at ps k hkl, e3]
          rfl
        obtain rfl : k = n' := by omega
        clear HR hc
        generalize ps[k] = p at *
        obtain ⟨pb, pn, pt⟩ := p
        dsimp only at *
        go_wp2
        go_ret
        exact ⟨rfl, HB.out.alloc hb1 _⟩
    · obtain rfl : k = n := by omega
      by_cases hlt' : k < n'
      · obtain rfl : R = -1 := by
          have e3 : ps.drop k = [] := List.drop_of_length_le (by rw [HLX.out]; omega)
          rw [HR.out, e3, drop_at qs k (by rw [HLY.out]; exact hlt')]
          rfl
        clear HR
        go_wp2
        go_ret
        exact ⟨rfl, HB.out⟩
      · obtain rfl : R = 0 := by
          have e3 : ps.drop k = [] := List.drop_of_length_le (by rw [HLX.out]; omega)
          have e4 : qs.drop k = [] := List.drop_of_length_le (by rw [HLY.out]; omega)
          rw [HR.out, e3, e4]
          rfl
        clear HR
        go_wp2
        go_ret
        exact ⟨rfl, HB.out⟩
theorem Compare_any (A : Option Addr) (n c : Nat) (ps : List PartV) (A' : Option Addr) (n' c' : Nat) (qs : List PartV) (w : World) (h : RdPt w A n ps) (h' : RdPt w A' n' qs) (hn : n ≤ 10000000000000) (hn' : n' ≤ 10000000000000) :
    Calls Tryd.prog 19 #[.slice A n c, .slice A' n' c'] w fun e w' => e = .returned (.int .i64 (cmpL ps qs)) ∧ Below w.heap.size w w' := by
  have CF := Lib.hid (compF_any A n c ps A' n' c' qs w h h' hn hn')
  clear h h'
  go_enter Tryd.func19, Tryd.ntmps19
  go_wp2_with fail
  refine CF.out.mono ?_
  rintro e w2 ⟨rfl, hb⟩
  go_wp2
  go_ret
  exact ⟨rfl, hb⟩
set_option maxHeartbeats 4000000 in
theorem rCompare_any (A : Option Addr) (n c : Nat) (ps : List PartV) (A' : Option Addr) (n' c' : Nat) (qs : List PartV) (w : World) (h : RdPt w A n ps) (h' : RdPt w A' n' qs) (hn : n ≤ 10000000000000) (hn' : n' ≤ 10000000000000) (hl : ∀ p ∈ ps, p.text.length ≤ 9223372036854775807) (hl' : ∀ p ∈ qs, p.text.length ≤ 9223372036854775807) :
    Calls Tryd.prog 20 #[.slice A n c, .slice A' n' c'] w fun e w' => e = .returned (.int .i64 (cmpL ps qs)) ∧ Dr w w' := by
  have HX := Lib.hid h
  have HY := Lib.hid h'
  have HLX : Hid (ps.length = n) := Lib.hid h.len
  have HLY : Hid (qs.length = n') := Lib.hid h'.len
  have HTX := Lib.hid hl
  have HTY := Lib.hid hl'
  have HR : Hid (cmpL ps qs = cmpL (ps.drop 0) (qs.drop 0)) := Lib.hid rfl
  clear h h' hl hl'
  generalize cmpL ps qs = R at HR ⊢
  go_enter Tryd.func20, Tryd.ntmps20
  go_wp2_with fail
  go_loopw [5] (fun t wr => ∃ k : Nat, k ≤ n ∧ k ≤ n' ∧ t = .int .i64 k ∧ Hid (R = cmpL (ps.drop k) (qs.drop k)) ∧ Hid (Dr w wr)) (fun t _ => n - (intOf t).toNat)
  case atStart => exact ⟨0, by omega, by omega, rfl, HR, Lib.hid (Dr.refl _)⟩
  case round =>
    clear HR
    obtain ⟨k, hk, hk', rfl, HR, HB⟩ := hrel
    rename_i wr
    by_cases hlt : k < n
    · have hkl : k < ps.length := by rw [HLX.out]; exact hlt
      by_cases hlt' : k < n'
      · obtain ⟨b, off, rfl, hc⟩ := (HX.out.below HB.out.below).ex (by omega)
        obtain ⟨p0, p1, p2⟩ := hc k hkl
        have hkl' : k < qs.length := by rw [HLY.out]; exact hlt'
        have e1 := drop_at ps k hkl
        have e2 := drop_at qs k hkl'
        have HR2 : Hid (R = if cmpP ps[k] qs[k] ≠ 0 then cmpP ps[k] qs[k] else cmpL (ps.drop (k + 1)) (qs.drop (k + 1))) := Lib.hid (by rw [HR.out, e1, e2, cmpL_cons])
        obtain ⟨bq, offq, rfl, hcq⟩ := (HY.out.below HB.out.below).ex (by omega)
        obtain ⟨q0, q1, q2⟩ := hcq k hkl'
        have HTP := Lib.hid (HTX.out _ (List.getElem_mem hkl))
        have HTQ := Lib.hid (HTY.out _ (List.getElem_mem hkl'))
        clear hcq e1 e2 HR hc
        generalize ps[k] = p at *
        generalize qs[k] = q at *
        obtain ⟨pb, pn, pt⟩ := p
        obtain ⟨qb, qn, qt⟩ := q
        unfold cmpP at HR2
        dsimp only at *
        rcases pb with _ | _ <;> rcases qb with _ | _
        · simp only [Bool.false_eq_true, if_false] at HR2
          rcases Int.lt_trichotomy pn qn with hpq | hpq | hpq
          · obtain rfl : R = -1 := by rw [HR2.out, if_pos hpq]; rfl
            clear HR2
            go_wp2_with fail
            go_quiet (fail)
            go_wp2_with fail
            go_quiet (fail)
            go_wp2
            go_ret
            exact ⟨rfl, HB.out.more _⟩
          · subst hpq
            have HR3 : Hid (R = cmpL (ps.drop (k + 1)) (qs.drop (k + 1))) := Lib.hid (by rw [HR2.out]; simp)
            clear HR2
            go_wp2_with fail
            go_quiet (fail)
            go_wp2_with fail
            go_quiet (fail)
            go_wp2_with fail
            go_quiet (fail)
            go_wp2
            go_roundw
            case rel => exact ⟨k + 1, by omega, by omega, by go_num, HR3, Lib.hid (HB.out.more _)⟩
            case measure => (try simp [intOf]) <;> (try omega)
          · have hpq2 : ¬ pn < qn := by omega
            obtain rfl : R = 1 := by rw [HR2.out, if_neg hpq2, if_pos hpq]; rfl
            clear HR2
            go_wp2_with fail
            go_quiet (fail)
            go_wp2_with fail
            go_quiet (fail)
            go_wp2_with fail
            go_quiet (fail)
            go_wp2
            go_ret
            exact ⟨rfl, HB.out.more _⟩
        · obtain rfl : R = -1 := by rw [HR2.out]; simp
          clear HR2
          go_wp2_with fail
          go_quiet (fail)
          go_wp2
          go_ret
          exact ⟨rfl, HB.out.more _⟩
        · obtain rfl : R = 1 := by rw [HR2.out]; simp
          clear HR2
          go_wp2_with fail
          go_quiet (fail)
          go_wp2
          go_ret
          exact ⟨rfl, HB.out.more _⟩
        · simp only [if_true] at HR2
          have LS := Lib.hid (fun w => Less_q ⟨pt.toArray⟩ ⟨qt.toArray⟩ w (by simpa [ByteArray.size] using HTP.out) (by simpa [ByteArray.size] using HTQ.out))
          have es : (⟨pt.toArray⟩ : ByteArray).data.toList = pt := by simp
          have et : (⟨qt.toArray⟩ : ByteArray).data.toList = qt := by simp
          simp only [es, et] at LS
          clear es et
          generalize lessL pt qt = C at *
          by_cases hC : C = 0
          · subst hC
            have HR3 : Hid (R = cmpL (ps.drop (k + 1)) (qs.drop (k + 1))) := Lib.hid (by rw [HR2.out, if_neg (by simp)])
            clear HR2
            go_wp2_with fail
            go_quiet (fail)
            have p02 : (wr.drewN nq).cell? ⟨b, off + k * 3, none⟩ = some (.bool true) := p0
            have p22 : (wr.drewN nq).cell? ⟨b, off + k * 3 + 2, none⟩ = some (.string ⟨pt.toArray⟩) := p2
            have q22 : (wr.drewN nq).cell? ⟨bq, offq + k * 3 + 2, none⟩ = some (.string ⟨qt.toArray⟩) := q2
            have HB2 := Lib.hid (HB.out.more nq)
            clear p0 p1 p2 q0 q1 q2 HB
            generalize wr.drewN nq = W1 at *
            go_wp2_with fail
            go_quiet (first | (go_at_call 18; refine Calls.quiet_of (LS.out _)))
            go_wp2
            go_roundw
            case rel => exact ⟨k + 1, by omega, by omega, by go_num, HR3, Lib.hid (HB2.out.more _)⟩
            case measure => (try simp [intOf]) <;> (try omega)
          · obtain rfl : R = C := by rw [HR2.out, if_pos hC]
            clear HR2
            go_wp2_with fail
            go_quiet (fail)
            have p02 : (wr.drewN nq).cell? ⟨b, off + k * 3, none⟩ = some (.bool true) := p0
            have p22 : (wr.drewN nq).cell? ⟨b, off + k * 3 + 2, none⟩ = some (.string ⟨pt.toArray⟩) := p2
            have q22 : (wr.drewN nq).cell? ⟨bq, offq + k * 3 + 2, none⟩ = some (.string ⟨qt.toArray⟩) := q2
            have HB2 := Lib.hid (HB.out.more nq)
            clear p0 p1 p2 q0 q1 q2 HB
            generalize wr.drewN nq = W1 at *
            go_wp2_with fail
            go_quiet (first | (go_at_call 18; refine Calls.quiet_of (LS.out _)))
            go_wp2
            go_ret
            exact ⟨rfl, HB2.out.more _⟩
      · obtain rfl : R = 1 := by
          have e3 : qs.drop k = [] := List.drop_of_length_le (by rw [HLY.out]; omega)
          rw [HR.out, drop_at ps k hkl, e3]
          rfl
        obtain rfl : k = n' := by omega
        clear HR
        go_wp2
        go_ret
        exact ⟨rfl, HB.out⟩
    · obtain rfl : k = n := by omega
      by_cases hlt' : k < n'
      · obtain rfl : R = -1 := by
          have e3 : ps.drop k = [] := List.drop_of_length_le (by rw [HLX.out]; omega)
          rw [HR.out, e3, drop_at qs k (by rw [HLY.out]; exact hlt')]
          rfl
        clear HR
        go_wp2
        go_ret
        exact ⟨rfl, HB.out⟩
      · obtain rfl : R = 0 := by
          have e3 : ps.drop k = [] := List.drop_of_length_le (by rw [HLX.out]; omega)
          have e4 : qs.drop k = [] := List.drop_of_length_le (by rw [HLY.out]; omega)
          rw [HR.out, e3, e4]
          rfl
        obtain rfl : k = n' := by omega
        clear HR
        go_wp2
        go_ret
        exact ⟨rfl, HB.out⟩
end Go.Proofs.YtbblpehehgeebaaDoor
