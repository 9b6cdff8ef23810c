/-
  The walk of KeysNext.
-/
import Derived.Test.YtbblpehehgeebaaDoorKeyK
namespace Go.Proofs.YtbblpehehgeebaaDoor
open Go.RowKit
set_option linter.unusedVariables false

theorem conv_all {w : World} {A : Option Addr} {n : Nat} {xs : List UInt8} (h : RdB w A n xs) (c : Nat) : ∀ W, Below w.heap.size w W → (convert 24 9 (.slice A n c)).run Tryd.prog W = .ok (.string ⟨xs.toArray⟩) W := fun W hW =>
  (h.below hW).conv (P := Tryd.prog) (src := 24) (dst := 9) Tryd.underlying24 Tryd.underlying5 Tryd.underlying9 c
theorem prefix_take (xs ys : List UInt8) (h : xs.length ≤ ys.length) : (xs.isPrefixOf ys) = decide (ys.take xs.length = xs) := by
  rw [Bool.eq_iff_iff, List.isPrefixOf_iff_prefix, decide_eq_true_eq, List.prefix_iff_eq_take]
  exact ⟨fun h => h.symm, fun h => h.symm⟩
theorem prefix_len (xs ys : List UInt8) (h : ys.length < xs.length) : (xs.isPrefixOf ys) = false := by
  rcases hb : xs.isPrefixOf ys with _ | _
  · rfl
  · rw [List.isPrefixOf_iff_prefix] at hb
    have := hb.length_le
    omega
theorem nextL_le (l : List UInt8) : (nextL l).length ≤ l.length := by
  induction l with
  | nil => simp [nextL]
  | cons c l ih =>
    unfold nextL
    split
    · simp; exact ih
    · split <;> simp
set_option maxHeartbeats 2000000 in
theorem KeysNext_walk (A : Option Addr) (n c : Nat) (A' : Option Addr) (n' c' : Nat) (w : World) (hm : MaxLen w) (xs : List UInt8) (h : RdB w A n xs) (hn : n ≤ c) (hc : c ≤ 140737488351232) (ys : List UInt8) (h' : RdB w A' n' ys) (hn' : n' ≤ c') (hc' : c' ≤ 140737488351232) :
    Calls Tryd.prog 5 #[.slice A n c, .slice A' n' c'] w fun e w' => e = .returned (.bool true) ∧ Below w.heap.size w w' := by
  have WK := Lib.hid (wakes_any w hm)
  have HX := Lib.hid h
  have HY := Lib.hid h'
  have hl := h.len
  have hl' := h'.len
  have HL := Lib.hid hl
  have HL' := Lib.hid hl'
  clear hm h h' hl hl'
  go_enter Tryd.func5, Tryd.ntmps5
  go_wp2_with fail
  refine WK.out.mono ?_
  rintro e w1 ⟨rfl, hb1⟩
  have HB1 := Lib.hid hb1
  clear hb1 WK
  go_wp2_with fail
  refine (own_any A n c w1 xs (HX.out.below HB1.out) (by omega)).mono ?_
  rintro e w2 ⟨vo, rfl, hvo, hb2⟩
  have HB2 := Lib.hid (HB1.out.trans (hb2.mono HB1.out.size))
  obtain ⟨Ao, mo, co, rfl, hmo, hmoc, hco, hro, hao⟩ := hvo.form
  have HRO := Lib.hid hro
  have HAO := Lib.hid hao
  have HMO := Lib.hid hmo
  clear hvo hb2 hro hao hmo
  go_wp2_with fail
  refine (Next_any Ao mo co w2 xs HRO.out (by have h1 := HMO.out.out; have h2 := HL.out; omega) hmoc (fun a ha => by obtain ⟨g, e, _, h2⟩ := HAO.out a ha; rw [e]; exact h2)).mono ?_
  rintro e w3 ⟨vn, rfl, hvn, hb3⟩
  have HB3 := Lib.hid (HB2.out.trans (hb3.mono HB2.out.size))
  obtain ⟨An, mn, cn, rfl, hmn, hmnc, hcn, hrn, _⟩ := hvn.form
  have HRN := Lib.hid hrn
  have HMN := Lib.hid hmn
  clear hvn hb3 hrn hmn HRO HAO HMO
  go_wp2_with fail
  refine (refNext_any A n c w3 xs (HX.out.below HB3.out) (by omega) hn).mono ?_
  rintro e w4 ⟨vr, rfl, hvr, hb4⟩
  have HB4 := Lib.hid (HB3.out.trans (hb4.mono HB3.out.size))
  have hrn4 := HRN.out.below hb4
  obtain ⟨Ar, mr, cr, rfl, _, _, _, hrr, _⟩ := hvr.form
  have SM := Lib.hid (same_any An mn cn (nextL xs) Ar mr cr (nextL xs) w4 hrn4 hrr)
  rw [show decide (nextL xs = nextL xs) = true from decide_eq_true rfl] at SM
  have HRN4 := Lib.hid hrn4
  clear hvr hb4 hrr HRN hrn4
  go_wp2_with fail
  refine SM.out.mono ?_
  rintro e w5 ⟨rfl, rfl⟩
  have hxs := Lib.hid (HX.out.below HB4.out)
  have hys := Lib.hid (HY.out.below HB4.out)
  have kx := conv_all hxs.out c w4 (Below.refl _ _)
  have ky := conv_all hys.out c' w4 (Below.refl _ _)
  have sx : ByteArray.size ⟨xs.toArray⟩ = xs.length := by simp [ByteArray.size]
  have sy : ByteArray.size ⟨ys.toArray⟩ = ys.length := by simp [ByteArray.size]
  clear SM
  by_cases hN : nextL xs = []
  · have hm0 : mn = 0 := by have := HMN.out; rw [hN] at this; simpa using this.symm
    subst hm0
    have hlx : xs.length ≤ 140737488351232 := by have := HL.out; omega
    have hly : ys.length ≤ 140737488351232 := by have := HL'.out; omega
    go_wp2
    go_ret
    exact ⟨rfl, HB4.out⟩
  · have hab := next_above xs ys hN
    have hnl : (nextL xs).length ≤ 140737488351232 := by have h1 := HMN.out.out; have h2 := HB4.out; have h3 := nextL_le xs; have h4 := HL.out; omega
    have LN := Lib.hid (fun w => Less_any ⟨ys.toArray⟩ ⟨(nextL xs).toArray⟩ w (by rw [sy]; have := HL'.out; omega) (by simp [ByteArray.size]; omega))
    have LB := Lib.hid (fun w => Less_any ⟨ys.toArray⟩ ⟨xs.toArray⟩ w (by rw [sy]; have := HL'.out; omega) (by rw [sx]; have := HL.out; omega))
    obtain ⟨wi, hwi⟩ : ∃ wi, wi = (⟨xs.toArray⟩ : ByteArray) ++ ⟨ys.toArray⟩ := ⟨_, rfl⟩
    have hwd : wi.data.toList = xs ++ ys := by rw [hwi]; simp
    have hws : wi.size ≤ 281474976702464 := by rw [hwi]; simp [ByteArray.size]; have := HL.out; have := HL'.out; omega
    have LW := Lib.hid (fun w => Less_any wi ⟨(nextL xs).toArray⟩ w (by omega) (by simp [ByteArray.size]; omega))
    rw [hwd, show (⟨(nextL xs).toArray⟩ : ByteArray).data.toList = nextL xs by simp, hab] at LW
    rw [show (⟨(nextL xs).toArray⟩ : ByteArray).data.toList = nextL xs by simp, show (⟨ys.toArray⟩ : ByteArray).data.toList = ys by simp] at LN
    rw [show (⟨xs.toArray⟩ : ByteArray).data.toList = xs by simp, show (⟨ys.toArray⟩ : ByteArray).data.toList = ys by simp] at LB
    have HWI := Lib.hid hwi
    clear hab hwd hwi
    have hbt := next_between xs ys hN
    have hmp : 0 < mn := by
      rcases Nat.eq_zero_or_pos mn with h0 | h0
      · have := HMN.out; rw [h0] at this; exact absurd (List.eq_nil_of_length_eq_zero this) hN
      · exact h0
    have hlx : xs.length ≤ 140737488351232 := by have := HL.out; omega
    have hly : ys.length ≤ 140737488351232 := by have := HL'.out; omega
    go_wp2_with fail
    rcases Nat.lt_or_ge n' n with hlt | hge
    · have hpf := prefix_len xs ys (by rw [HL.out, HL'.out]; exact hlt)
      rw [hpf] at hbt
      have hgi : ¬ ((n : Int) ≤ (n' : Int)) := by omega
      have hgd : decide ((n : Int) ≤ (n' : Int)) = false := by simpa using hgi
      clear kx ky
      go_quiet (fail)
      have hbt := hbt.resolve_left (by simp)
      have hb6 : Below w4.heap.size w4 (w4.drewN nq) := below_drewN (Below.refl _ _) nq
      have HB6 := Lib.hid (HB4.out.trans (hb6.mono HB4.out.size))
      have hx6 := Lib.hid (hxs.out.below hb6)
      have hy6 := Lib.hid (hys.out.below hb6)
      have hn6 := Lib.hid (HRN4.out.below hb6)
      generalize w4.drewN nq = w6 at *
      clear hb6 hxs hys HRN4
      have kn := conv_all hn6.out cn w6 (Below.refl _ _)
      have ky := conv_all hy6.out c' w6 (Below.refl _ _)
      go_wp2_with fail
      refine (LN.out _).mono ?_
      rintro e w7 ⟨rfl, hb7⟩
      have HB7 := Lib.hid (HB6.out.trans (hb7.mono HB6.out.size))
      have hx7 := Lib.hid (hx6.out.below hb7)
      have hy7 := Lib.hid (hy6.out.below hb7)
      have hn7 := Lib.hid (hn6.out.below hb7)
      clear hb7 hx6 hy6 hn6 kn ky LN
      have kn := conv_all hn7.out cn w7 (Below.refl _ _)
      go_wp2_with fail
      rw [← HWI.out]
      refine (LW.out _).mono ?_
      rintro e w8 ⟨rfl, hb8⟩
      have HB8 := Lib.hid (HB7.out.trans (hb8.mono HB7.out.size))
      have hx8 := Lib.hid (hx7.out.below hb8)
      have hy8 := Lib.hid (hy7.out.below hb8)
      clear hb8 hx7 hy7 hn7 kn LW
      have kx := conv_all hx8.out c w8 (Below.refl _ _)
      have ky := conv_all hy8.out c' w8 (Below.refl _ _)
      go_wp2_with fail
      refine (LB.out _).mono ?_
      rintro e w9 ⟨rfl, hb9⟩
      have HB9 := Lib.hid (HB8.out.trans (hb9.mono HB8.out.size))
      clear hb9 kx ky LB
      rcases hbt with hbt | hbt
      · rw [hbt]
        go_wp2
        all_goals go_ret
        all_goals exact ⟨by simp, HB9.out⟩
      · go_wp2
        all_goals go_ret
        all_goals exact ⟨by simp, HB9.out⟩
    · have hpf := prefix_take xs ys (by rw [HL.out, HL'.out]; exact hge)
      rw [hpf, HL.out] at hbt
      obtain ⟨At, hcut, hrt⟩ := cut_h hys.out c' hn' n hge (n : Int) rfl
      have kt := fun k => conv_all hrt c' (w4.drewN k) (below_drewN (Below.refl _ _) k)
      have kx' := fun k => conv_all hxs.out c (w4.drewN k) (below_drewN (Below.refl _ _) k)
      have hgi : ((n : Int) ≤ (n' : Int)) := by omega
      have hgd : decide ((n : Int) ≤ (n' : Int)) = true := by simpa using hgi
      clear kx ky
      go_quiet (fail)
      have hb6 : Below w4.heap.size w4 (w4.drewN nq) := below_drewN (Below.refl _ _) nq
      have HB6 := Lib.hid (HB4.out.trans (hb6.mono HB4.out.size))
      have hx6 := Lib.hid (hxs.out.below hb6)
      have hy6 := Lib.hid (hys.out.below hb6)
      have hn6 := Lib.hid (HRN4.out.below hb6)
      generalize w4.drewN nq = w6 at *
      clear hb6 hxs hys HRN4
      have kn := conv_all hn6.out cn w6 (Below.refl _ _)
      have ky := conv_all hy6.out c' w6 (Below.refl _ _)
      go_wp2_with fail
      refine (LN.out _).mono ?_
      rintro e w7 ⟨rfl, hb7⟩
      have HB7 := Lib.hid (HB6.out.trans (hb7.mono HB6.out.size))
      have hx7 := Lib.hid (hx6.out.below hb7)
      have hy7 := Lib.hid (hy6.out.below hb7)
      have hn7 := Lib.hid (hn6.out.below hb7)
      clear hb7 hx6 hy6 hn6 kn ky LN
      have kn := conv_all hn7.out cn w7 (Below.refl _ _)
      go_wp2_with fail
      rw [← HWI.out]
      refine (LW.out _).mono ?_
      rintro e w8 ⟨rfl, hb8⟩
      have HB8 := Lib.hid (HB7.out.trans (hb8.mono HB7.out.size))
      have hx8 := Lib.hid (hx7.out.below hb8)
      have hy8 := Lib.hid (hy7.out.below hb8)
      clear hb8 hx7 hy7 hn7 kn LW
      have kx := conv_all hx8.out c w8 (Below.refl _ _)
      have ky := conv_all hy8.out c' w8 (Below.refl _ _)
      by_cases hin : List.take n ys = xs
      · have hin' : (List.take n ys == xs) = true := by rw [hin]; simp
        rw [hin']
        clear hbt hin hin'
        go_wp2
        go_ret
        exact ⟨by simp, HB8.out⟩
      · have hin' : (List.take n ys == xs) = false := by simpa using hin
        have hbt := hbt.resolve_left (by simpa using hin)
        rw [hin']
        clear hin hin'
        go_wp2_with fail
        refine (LB.out _).mono ?_
        rintro e w9 ⟨rfl, hb9⟩
        have HB9 := Lib.hid (HB8.out.trans (hb9.mono HB8.out.size))
        clear hb9 kx ky LB
        rcases hbt with hbt | hbt
        · rw [hbt]
          go_wp2
          all_goals go_ret
          all_goals exact ⟨by simp, HB9.out⟩
        · go_wp2
          all_goals go_ret
          all_goals exact ⟨by simp, HB9.out⟩
end Go.Proofs.YtbblpehehgeebaaDoor
