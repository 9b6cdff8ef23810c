/-
  The reference's Same on pairs. No statement is proved here.
-/
import Derived.Deep.DeepCutAuto
import Derived.BigQuiet
import Derived.Test.YthaciglechijkaaBlkR
namespace Go.Proofs.Ythaciglechijkaa
open Go.RowKit
set_option linter.unusedVariables false

set_option maxHeartbeats 4000000 in
theorem rSame_any (A : Option Addr) (n c : Nat) (ps : List PairV) (A' : Option Addr) (n' c' : Nat) (qs : List PairV) (w : World) (h : RdQ w A n ps) (h' : RdQ w A' n' qs) (hn : n ≤ 10000000000000) (hn' : n' ≤ 10000000000000) :
    Calls Try.prog 16 #[.slice A n c, .slice A' n' c'] w fun e w' => e = .returned (.bool (decide (ps = qs))) ∧ Dr w w' := by
  have HX := Lib.hid h
  have HY := Lib.hid h'
  have HLX : Hid (ps.length = n) := Lib.hid h.len
  have HLY : Hid (qs.length = n') := Lib.hid h'.len
  clear h h'
  by_cases hnn : n = n'
  · subst hnn
    obtain ⟨R, HR⟩ : ∃ R, Hid (decide (ps = qs) = R) := ⟨_, Lib.hid rfl⟩
    rw [HR.out]
    go_enter Try.func16, Try.ntmps16
    go_wp2_with fail
    go_loopw [13] (fun t wr => ∃ k : Nat, k ≤ n ∧ t = .int .i64 k ∧ Hid (ps.take k = qs.take k) ∧ Hid (Dr w wr)) (fun t _ => n - (intOf t).toNat)
    case atStart => exact ⟨0, by omega, rfl, Lib.hid (by simp), Lib.hid (Dr.refl _)⟩
    case round =>
      obtain ⟨k, hk, rfl, HP, HB⟩ := hrel
      rename_i wr
      by_cases hlt : k < n
      · have hkl : k < ps.length := by rw [HLX.out]; exact hlt
        have hkl' : k < qs.length := by rw [HLY.out]; exact hlt
        obtain ⟨b, off, rfl, hc⟩ := (HX.out.below HB.out.below).ex (by omega)
        obtain ⟨Ak, mk, ck, Av, mv, cv, p0, p1, r0, r1, _, _⟩ := hc k hkl
        obtain ⟨bq, offq, rfl, hcq⟩ := (HY.out.below HB.out.below).ex (by omega)
        obtain ⟨Bk, nk, dk, Bv, nv, dv, q0, q1, s0, s1, _, _⟩ := hcq k hkl'
        have HN : Hid (ps[k] ≠ qs[k] → R = false) := Lib.hid fun h => by
          rw [← HR.out]
          refine decide_eq_false fun e => h ?_
          simp [e]
        have HT : Hid (ps[k] = qs[k] → ps.take (k + 1) = qs.take (k + 1)) := Lib.hid fun h => by
          rw [take_snoc' _ _ hkl, take_snoc' _ _ hkl', HP.out, h]
        clear hc hcq HP
        generalize ps[k] = p at *
        generalize qs[k] = q at *
        obtain ⟨pk, pv⟩ := p
        obtain ⟨qk, qv⟩ := q
        dsimp only at *
        have k1 := fun m => (r0.drewN m).conv (P := Try.prog) (src := 24) (dst := 9) Try.underlying24 Try.underlying5 Try.underlying9 ck
        have k2 := fun m => (s0.drewN m).conv (P := Try.prog) (src := 24) (dst := 9) Try.underlying24 Try.underlying5 Try.underlying9 dk
        have k3 := fun m => (r1.drewN m).conv (P := Try.prog) (src := 24) (dst := 9) Try.underlying24 Try.underlying5 Try.underlying9 cv
        have k4 := fun m => (s1.drewN m).conv (P := Try.prog) (src := 24) (dst := 9) Try.underlying24 Try.underlying5 Try.underlying9 dv
        clear r0 r1 s0 s1
        by_cases hk1 : pk = qk
        · subst hk1
          by_cases hv1 : pv = qv
          · subst hv1
            have HT2 := Lib.hid (HT.out rfl)
            clear HN HT
            go_wp2_with fail
            go_quiet (fail)
            go_wp2
            go_roundw
            case rel => exact ⟨k + 1, by omega, by go_num, HT2, Lib.hid (HB.out.more _)⟩
            case measure => (try simp [intOf]) <;> (try omega)
          · obtain rfl := HN.out (fun e => hv1 (by injection e))
            have hd : decide (pv = qv) = false := decide_eq_false hv1
            have hb : (pv == qv) = false := by rw [beq_eq_false_iff_ne]; exact hv1
            clear HN HT HR
            go_wp2_with fail
            go_quiet (fail)
            go_wp2
            go_ret
            exact ⟨rfl, HB.out.more _⟩
        · obtain rfl := HN.out (fun e => hk1 (by injection e))
          have hd : decide (pk = qk) = false := decide_eq_false hk1
          have hb : (pk == qk) = false := by rw [beq_eq_false_iff_ne]; exact hk1
          clear HN HT HR
          go_wp2_with fail
          go_quiet (fail)
          go_wp2
          go_ret
          exact ⟨rfl, HB.out.more _⟩
      · have hD : R = true := by rw [← HR.out]; exact decide_eq_true (by have := HP.out; rw [List.take_of_length_le (by rw [HLX.out]; omega), List.take_of_length_le (by rw [HLY.out]; omega)] at this; exact this)
        subst hD
        go_wp2
        go_ret
        exact ⟨rfl, HB.out⟩
  · have hne : decide (ps = qs) = false := decide_eq_false fun e => hnn (by have h1 := HLX.out; have h2 := HLY.out; rw [e] at h1; omega)
    rw [hne]
    go_enter Try.func16, Try.ntmps16
    go_wp2
    go_ret
    exact ⟨rfl, Dr.refl _⟩
end Go.Proofs.Ythaciglechijkaa
