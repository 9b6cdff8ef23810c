/-
  IndexFunc over postings. No statement is proved here.
-/
import Derived.Test.YtpmbbhefcejjlaaLedY
namespace Go.Proofs.Ytpmbbhefcejjlaa
open Go.RowKit
set_option linter.unusedVariables false

/-- Where the first posting of another loan stands. -/
def FirstBad (ps : List PV) (L : ByteArray) (r : Int) : Prop :=
  (r = -1 ∧ ∀ p ∈ ps, p.loan = L) ∨ ∃ (k : Nat) (hk : k < ps.length), r = (k : Int) ∧ ps[k].loan ≠ L ∧ ∀ i (hi : i < ps.length), i < k → ps[i].loan = L
set_option maxRecDepth 100000 in
set_option maxHeartbeats 2000000 in
theorem Index_any (A : Option Addr) (n c b : Nat) (ps : List PV) (L : ByteArray) (w : World) (h : RdP w A n ps) (hn : n ≤ 900000) (hb : w.cell? ⟨b, 0, none⟩ = some (.string L)) :
    Calls Try.prog 43 #[.slice A n c, .func (.func 34) #[] #[.pointer (some ⟨b, 0, none⟩)]] w fun e w' => (∃ r : Int, e = .returned (.int .i64 r) ∧ FirstBad ps L r) ∧ Below w.heap.size w w' := by
  have HX := Lib.hid h
  have HN : Hid (ps.length = n) := Lib.hid h.len
  have hbw := World.block_lt_of_cell? w ⟨b, 0, none⟩ hb
  have HD := Lib.hid (fun pn pd s A m c W (hW : Below w.heap.size w W) => del_any pn pd s L A m c b W ((hW.cell (p := ⟨b, 0, none⟩) hbw).trans hb))
  clear h hb hbw
  go_enter Try.func43, Try.ntmps43
  go_wp2_with fail
  go_loopw [8] (fun t wr => ∃ k : Nat, k ≤ n ∧ t = .int .i64 k ∧ Hid (∀ i (hi : i < ps.length), i < k → ps[i].loan = L) ∧ Hid (Below w.heap.size w wr)) (fun t _ => n - (intOf t).toNat)
  case atStart => exact ⟨0, Nat.zero_le _, rfl, Lib.hid (fun i _ h => by omega), Lib.hid (Below.refl _ _)⟩
  case round =>
    obtain ⟨k, hk, rfl, HP, HB⟩ := hrel
    obtain ⟨wa, rfl⟩ : ∃ x, x = wr := ⟨_, rfl⟩
    by_cases hlt : k < n
    · have hkl : k < ps.length := by rw [HN.out]; exact hlt
      obtain ⟨b0, off, rfl, hc⟩ := (HX.out.below HB.out).ex (by omega)
      obtain ⟨Al, ml, cl, p0, p1, p2, p3, _, _⟩ := hc k hkl
      have HS : Hid (ps[k].loan = L → ∀ i (hi : i < ps.length), i < k + 1 → ps[i].loan = L) := Lib.hid fun h i hi hlt => by
        by_cases e : i = k
        · subst e; exact h
        · exact HP.out i hi (by omega)
      have HF : Hid (ps[k].loan ≠ L → FirstBad ps L (k : Int)) := Lib.hid fun h => .inr ⟨k, hkl, rfl, h, HP.out⟩
      clear hc
      generalize ps[k] = p at *
      go_wp2_with fail
      refine (HD.out _ _ _ _ _ _ wa HB.out).mono ?_
      rintro e w1 ⟨rfl, hb1⟩
      have HB1 := Lib.hid (HB.out.trans (hb1.mono HB.out.size))
      clear hb1 p0 p1 p2 p3
      by_cases hL : p.loan = L
      · have hd : decide (p.loan ≠ L) = false := decide_eq_false (fun h => h hL)
        have HS2 := Lib.hid (HS.out hL)
        rw [hd]
        clear HS HF hd hL
        go_wp2
        go_roundw
        case rel => exact ⟨k + 1, by omega, by go_num, HS2, HB1⟩
        case measure => (try simp [intOf]) <;> (try omega)
      · have hd : decide (p.loan ≠ L) = true := decide_eq_true hL
        have HF2 := Lib.hid (HF.out hL)
        rw [hd]
        clear HS HF hd hL
        go_wp2
        go_ret
        exact ⟨⟨_, rfl, HF2.out⟩, HB1.out⟩
    · have HA : Hid (∀ p ∈ ps, p.loan = L) := Lib.hid fun p hp => by
        obtain ⟨i, hi, rfl⟩ := List.getElem_of_mem hp
        exact HP.out i hi (by rw [HN.out] at hi; omega)
      go_wp2
      go_ret
      exact ⟨⟨_, rfl, .inl ⟨rfl, HA.out⟩⟩, HB.out⟩
end Go.Proofs.Ytpmbbhefcejjlaa
