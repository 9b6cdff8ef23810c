/-
  The reference's Same on rows. No statement is proved here.
-/
import Derived.Laws.StructEq
import Derived.Test.YtbblpehehgeebaaDoorKeyM
namespace Go.Proofs.YtbblpehehgeebaaDoor
open Go.RowKit
set_option linter.unusedVariables false
set_option linter.unusedSimpArgs false

instance : DecidableEq PartV := fun p q =>
  if h : p.isText = q.isText ∧ p.num = q.num ∧ p.text = q.text then .isTrue (by cases p; cases q; simp_all) else .isFalse (fun e => h (by subst e; exact ⟨rfl, rfl, rfl⟩))
theorem neq_part (p q : PartV) (W : World) : (binOp .neq 40 (partV p) (partV q)).run Tryd.prog W = .ok (.bool (!(decide (p = q)))) W := by
  unfold partV
  go_simp
  obtain ⟨b, n, t⟩ := p
  obtain ⟨d, m, s⟩ := q
  dsimp only
  by_cases h1 : b = d
  · by_cases h2 : n = m
    · by_cases h3 : t = s
      · simp [h1, h2, h3]
      · simp [h1, h2, h3]
    · simp [h1, h2]
  · simp [h1]
set_option maxHeartbeats 2000000 in
theorem rSame_any (A : Option Addr) (n c : Nat) (ps : List PartV) (A' : Option Addr) (n' c' : Nat) (qs : List PartV) (w : World) (h : RdPt w A n ps) (h' : RdPt w A' n' qs) (hn : n ≤ 10000000000000) (hn' : n' ≤ 10000000000000) :
    Calls Tryd.prog 15 #[.slice A n c, .slice A' n' c'] w fun e w' => e = .returned (.bool (decide (ps = qs))) ∧ Dr w w' := by
  have HX := Lib.hid h
  have HY := Lib.hid h'
  have HLX : Hid (ps.length = n) := Lib.hid h.len
  have HLY : Hid (qs.length = n') := Lib.hid h'.len
  clear h h'
  by_cases hnn : n = n'
  · subst hnn
    obtain ⟨R, HR⟩ : ∃ R, Hid (decide (ps = qs) = R) := ⟨_, Lib.hid rfl⟩
    rw [HR.out]
    go_enter Tryd.func15, Tryd.ntmps15
    go_wp2_with fail
    go_loopw [13] (fun t wr => ∃ k : Nat, k ≤ n ∧ t = .int .i64 k ∧ Hid (ps.take k = qs.take k) ∧ Hid (Dr w wr)) (fun t _ => n - (intOf t).toNat)
    case atStart => exact ⟨0, by omega, rfl, Lib.hid (by simp), Lib.hid (Dr.refl _)⟩
    case round =>
      obtain ⟨k, hk, rfl, HP, HB⟩ := hrel
      rename_i wr
      by_cases hlt : k < n
      · have hkl : k < ps.length := by rw [HLX.out]; exact hlt
        have hkl' : k < qs.length := by rw [HLY.out]; exact hlt
        obtain ⟨b, off, rfl, hc⟩ := (HX.out.below HB.out.below).ex (by omega)
        obtain ⟨p0, p1, p2⟩ := hc k hkl
        obtain ⟨bq, offq, rfl, hcq⟩ := (HY.out.below HB.out.below).ex (by omega)
        obtain ⟨q0, q1, q2⟩ := hcq k hkl'
        have HN : Hid (ps[k] ≠ qs[k] → R = false) := Lib.hid fun h => by
          rw [← HR.out]
          refine decide_eq_false fun e => h ?_
          simp [e]
        have HT : Hid (ps[k] = qs[k] → ps.take (k + 1) = qs.take (k + 1)) := Lib.hid fun h => by
          rw [take_snoc' _ _ hkl, take_snoc' _ _ hkl', HP.out, h]
        have hne := neq_part ps[k] qs[k]
        clear hc hcq HP
        unfold partV at hne
        generalize ps[k] = p at *
        generalize qs[k] = q at *
        by_cases hpq : p = q
        · have HT2 := Lib.hid (HT.out hpq)
          rw [decide_eq_true hpq] at hne
          clear HN HT
          obtain ⟨pb, pn, pt⟩ := p
          obtain ⟨qb, qn, qt⟩ := q
          dsimp only at *
          clear hpq
          go_wp2_with fail
          go_quiet (fail)
          go_wp2
          go_roundw
          case rel => exact ⟨k + 1, by omega, by go_num, HT2, Lib.hid (HB.out.more _)⟩
          case measure => (try simp [intOf]) <;> (try omega)
        · obtain rfl := HN.out hpq
          rw [decide_eq_false hpq] at hne
          clear HN HT HR
          obtain ⟨pb, pn, pt⟩ := p
          obtain ⟨qb, qn, qt⟩ := q
          dsimp only at *
          clear hpq
          go_wp2_with fail
          go_quiet (fail)
          go_wp2
          go_ret
          exact ⟨rfl, HB.out.more _⟩
      · obtain rfl : k = n := by omega
        obtain rfl : R = true := by
          rw [← HR.out]
          have := HP.out
          rw [List.take_of_length_le (by rw [HLX.out]; exact Nat.le_refl _), List.take_of_length_le (by rw [HLY.out]; exact Nat.le_refl _)] at this
          exact decide_eq_true this
        clear HP HR
        go_wp2
        go_ret
        exact ⟨rfl, HB.out⟩
  · have e : ¬ ps = qs := fun e => hnn (by rw [← HLX.out, ← HLY.out, e])
    rw [decide_eq_false e]
    have hi : ¬ (n : Int) = (n' : Int) := by omega
    clear e HX HY
    go_enter Tryd.func15, Tryd.ntmps15
    go_wp2
    go_ret
    exact ⟨rfl, Dr.refl _⟩
end Go.Proofs.YtbblpehehgeebaaDoor
