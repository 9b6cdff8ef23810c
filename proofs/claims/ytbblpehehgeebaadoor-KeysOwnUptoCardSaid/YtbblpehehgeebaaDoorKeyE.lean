/-
  Slices of parts, keys.fits, keys.put. No statement is proved here.
-/
import Derived.Test.YtbblpehehgeebaaDoorKeyD
namespace Go.Proofs.YtbblpehehgeebaaDoor
open Go.RowKit
set_option linter.unusedVariables false

/-- A slice of parts. -/
structure RdPt (w : World) (A : Option Addr) (n : Nat) (ps : List PartV) : Prop where
  len : ps.length = n
  ex : 0 < n → ∃ b off, A = some ⟨b, off, none⟩ ∧ ∀ j (hj : j < ps.length), w.cell? ⟨b, off + j * 3, none⟩ = some (.bool ps[j].isText) ∧ w.cell? ⟨b, off + j * 3 + 1, none⟩ = some (.int .i64 ps[j].num) ∧ w.cell? ⟨b, off + j * 3 + 2, none⟩ = some (.string ⟨ps[j].text.toArray⟩)
theorem RdPt.below {w w' : World} {A : Option Addr} {n : Nat} {ps : List PartV} (h : RdPt w A n ps) (hb : Below w.heap.size w w') : RdPt w' A n ps := by
  refine ⟨h.len, fun hn => ?_⟩
  obtain ⟨b, off, e, hc⟩ := h.ex hn
  have lift : ∀ q u, w.cell? ⟨b, q, none⟩ = some u → w'.cell? ⟨b, q, none⟩ = some u := fun q u hu =>
    (hb.cell (p := ⟨b, q, none⟩) (World.block_lt_of_cell? w ⟨b, q, none⟩ hu)).trans hu
  exact ⟨b, off, e, fun j hj => ⟨lift _ _ (hc j hj).1, lift _ _ (hc j hj).2.1, lift _ _ (hc j hj).2.2⟩⟩
set_option maxHeartbeats 1000000 in
theorem long_any (p : PartV) (w : World) (hl : p.text.length ≤ 9223372036854775807) :
    Calls Tryd.prog 34 #[partV p] w fun e w' => e = .returned (.bool p.long) ∧ Below w.heap.size w w' := by
  obtain ⟨b, n, t⟩ := p
  have hs : ByteArray.size ⟨t.toArray⟩ = t.length := by simp [ByteArray.size]
  unfold partV PartV.long
  dsimp only at *
  rcases b with _ | _
  · go_enter Tryd.func34, Tryd.ntmps34
    go_wp2
    go_ret
    exact ⟨rfl, (Below.refl _ _).alloc (Nat.le_refl _) _⟩
  · go_enter Tryd.func34, Tryd.ntmps34
    go_wp2
    go_ret
    refine ⟨ret_bool ?_, (Below.refl _ _).alloc (Nat.le_refl _) _⟩
    simp
    omega
set_option maxHeartbeats 1000000 in
theorem index_any (A : Option Addr) (n c : Nat) (ps : List PartV) (w : World) (h : RdPt w A n ps) (hn : n ≤ 10000000000000) (hl : ∀ p ∈ ps, p.text.length ≤ 9223372036854775807) :
    Calls Tryd.prog 40 #[.slice A n c, .func (.func 34) #[] #[]] w fun e w' => ∃ i : Int, e = .returned (.int .i64 i) ∧ -1 ≤ i ∧ (0 ≤ i ↔ ps.any PartV.long = true) ∧ Below w.heap.size w w' := by
  have HX := Lib.hid h
  have HLL := Lib.hid hl
  have HN : Hid (ps.length = n) := Lib.hid h.len
  clear h hl
  go_enter Tryd.func40, Tryd.ntmps40
  go_wp2_with fail
  go_loopw [8] (fun t wr => ∃ k : Nat, k ≤ n ∧ t = .int .i64 k ∧ Hid (∀ p ∈ ps.take k, p.long = false) ∧ Hid (Below w.heap.size w wr)) (fun t _ => n - (intOf t).toNat)
  case atStart => exact ⟨0, by omega, rfl, Lib.hid (by simp), Lib.hid (Below.refl _ _)⟩
  case round =>
    obtain ⟨k, hk, rfl, HP, HB⟩ := hrel
    by_cases hlt : k < n
    · have hkl : k < ps.length := by rw [HN.out]; exact hlt
      obtain ⟨b, off, rfl, hc⟩ := (HX.out.below HB.out).ex (by omega)
      obtain ⟨c0, c1, c2⟩ := hc k hkl
      have HC := Lib.hid (fun w => long_any ps[k] w (HLL.out _ (List.getElem_mem hkl)))
      have HM := Lib.hid (List.getElem_mem hkl)
      have HT : Hid (ps[k].long = false → ∀ p ∈ ps.take (k + 1), p.long = false) := Lib.hid fun h p hp => by
        rw [take_snoc' _ _ hkl] at hp
        rcases List.mem_append.1 hp with h1 | h1
        · exact HP.out p h1
        · simp at h1; rw [h1]; exact h
      have HA : Hid (ps[k].long = true → ps.any PartV.long = true) := Lib.hid fun h => List.any_eq_true.2 ⟨_, HM.out, h⟩
      clear hc HM
      unfold partV at HC
      generalize ps[k].long = L at *
      generalize ps[k] = q at *
      obtain ⟨qb, qn, qt⟩ := q
      dsimp only at *
      go_wp2_with fail
      refine (HC.out _).mono ?_
      rintro e w2 ⟨rfl, hb⟩
      have HB2 := Lib.hid (HB.out.trans (hb.mono HB.out.size))
      clear hb HB c0 c1 c2 HC
      rcases L with _ | _
      · have HT2 := Lib.hid (HT.out rfl)
        clear HT HA HP
        go_wp2
        go_roundw
        case rel => exact ⟨k + 1, by omega, by go_num, HT2, HB2⟩
        case measure => (try simp [intOf]) <;> (try omega)
      · have HA2 := Lib.hid (HA.out rfl)
        clear HT HA HP
        go_wp2
        go_ret
        exact ⟨k, rfl, by omega, ⟨fun _ => HA2.out, fun _ => by omega⟩, HB2.out⟩
    · obtain rfl : k = n := by omega
      have HA : Hid (ps.any PartV.long = false) := Lib.hid (by
        have := HP.out
        rw [List.take_of_length_le (by rw [HN.out]; exact Nat.le_refl _)] at this
        rw [List.any_eq_false]
        intro x hx
        rw [this x hx]
        simp)
      clear HP
      go_wp2
      go_ret
      exact ⟨-1, rfl, by omega, ⟨fun h => by omega, fun h => by rw [HA.out] at h; cases h⟩, HB.out⟩
set_option maxHeartbeats 1000000 in
theorem fits_any (A : Option Addr) (n c : Nat) (ps : List PartV) (w : World) (h : RdPt w A n ps) (hn : n ≤ 10000000000000) (hl : ∀ p ∈ ps, p.text.length ≤ 9223372036854775807) :
    Calls Tryd.prog 21 #[.slice A n c] w fun e w' => e = .returned (.int .i64 (if 8 < ps.length ∨ ps.any PartV.long = true then 3 else 0)) ∧ Below w.heap.size w w' := by
  have hlen := h.len
  have CF : Hid (∀ w, RdPt w A n ps → Calls Tryd.prog 33 #[.slice A n c, .func (.func 34) #[] #[]] w fun e w' => e = .returned (.bool (ps.any PartV.long)) ∧ Below w.heap.size w w') := Lib.hid fun w hr => by
    have IX := Lib.hid (index_any A n c ps w hr hn hl)
    generalize ps.any PartV.long = L at *
    go_enter Tryd.func33, Tryd.ntmps33
    go_wp2_with fail
    refine IX.out.mono ?_
    rintro e w2 ⟨i, rfl, hi, hiff, hb⟩
    go_wp2
    go_ret
    have hd : L = decide (0 ≤ i) := by
      rw [Bool.eq_iff_iff, decide_eq_true_eq]
      exact hiff.symm
    exact ⟨ret_bool (by first | rfl | exact hd | exact hd.symm), hb⟩
  have CFw := Lib.hid (CF.out w h)
  clear CF h
  rw [hlen]
  by_cases h8 : 8 < n
  · rw [if_pos (.inl h8)]
    go_enter Tryd.func21, Tryd.ntmps21
    go_wp2
    go_ret
    exact ⟨rfl, Below.refl _ _⟩
  · cases hL : ps.any PartV.long
    · rw [if_neg (by simp; omega)]
      rw [hL] at CFw
      clear hL
      go_enter Tryd.func21, Tryd.ntmps21
      go_wp2_with fail
      refine CFw.out.mono ?_
      rintro e w2 ⟨rfl, hb⟩
      go_wp2
      go_ret
      exact ⟨rfl, hb⟩
    · rw [if_pos (.inr rfl)]
      rw [hL] at CFw
      clear hL
      go_enter Tryd.func21, Tryd.ntmps21
      go_wp2_with fail
      refine CFw.out.mono ?_
      rintro e w2 ⟨rfl, hb⟩
      go_wp2
      go_ret
      exact ⟨rfl, hb⟩
end Go.Proofs.YtbblpehehgeebaaDoor
