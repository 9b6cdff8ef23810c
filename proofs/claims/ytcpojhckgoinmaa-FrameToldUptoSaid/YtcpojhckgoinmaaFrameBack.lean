/-
  The walk of FrameBack.
-/
import Derived.Test.YtcpojhckgoinmaaFrameH
import Derived.Test.YtcpojhckgoinmaaFrameI
namespace Go.Proofs.Ytcpojhckgoinmaa
open Go.RowKit
set_option linter.unusedVariables false

theorem flat_len (ps : List (List UInt8)) : (flat ps).length = 8 * ps.length + (ps.map List.length).sum := by
  induction ps with
  | nil => rfl
  | cons p ps ih =>
    have e : flat (p :: ps) = frameOf p ++ flat ps := by simp [flat]
    rw [e, List.length_append, frameOf_len, ih]
    simp
    omega
theorem le_sum (ps : List (List UInt8)) (j : Nat) (hj : j < ps.length) : ps[j].length ≤ (ps.map List.length).sum := by
  induction ps generalizing j with
  | nil => simp at hj
  | cons p ps ih =>
    cases j with
    | zero => simp
    | succ j =>
      have := ih j (by simpa using hj)
      simp
      omega
theorem sum_take (ps : List (List UInt8)) (j : Nat) : ((ps.take j).map List.length).sum ≤ (ps.map List.length).sum := by
  induction ps generalizing j with
  | nil => simp
  | cons p ps ih =>
    cases j with
    | zero => simp
    | succ j =>
      have := ih j
      rw [List.take_succ_cons, List.map_cons, List.map_cons, List.sum_cons, List.sum_cons]
      omega
theorem flat_step (ps : List (List UInt8)) (j : Nat) (hj : j < ps.length) : flat (ps.take (j + 1)) = flat (ps.take j) ++ frameOf ps[j] := by
  rw [take_snoc' ps j hj, flat_snoc]
theorem flat_take_le (ps : List (List UInt8)) (j : Nat) (hj : j ≤ ps.length) : (flat (ps.take j)).length ≤ 8 * ps.length + (ps.map List.length).sum := by
  have h1 := flat_len (ps.take j)
  have h2 := sum_take ps j
  rw [List.length_take] at h1
  omega
set_option maxRecDepth 100000 in
set_option maxHeartbeats 4000000 in
theorem FrameBack_walk (A : Option Addr) (n c : Nat) (A' : Option Addr) (n' c' : Nat) (w : World) (ps : List (List UInt8)) (h : RdP w A n ps) (hn : n ≤ c) (hl : n ≤ 1048576) (ht : (ps.map List.length).sum ≤ 1048576) (xs : List UInt8) (h' : RdB w A' n' xs) (hn' : n' ≤ c') (hc' : c' ≤ 1048576) :
    Calls Try.prog 6 #[.slice A n c, .slice A' n' c'] w fun e w' => e = .returned (.bool true) ∧ Below w.heap.size w w' := by
  have HL := Lib.hid h.1
  have HX := Lib.hid h
  have HP : Hid (∀ p ∈ ps, p.length ≤ 2097152) := Lib.hid (fun p hp => by
    obtain ⟨j, hj, rfl⟩ := List.getElem_of_mem hp
    have := le_sum ps j hj
    omega)
  have HJ : Hid (∀ j (hj : j < ps.length), ps[j].length ≤ 1048576) := Lib.hid (fun j hj => by have := le_sum ps j hj; omega)
  have HT : Hid (∀ j, j ≤ ps.length → (flat (ps.take j)).length ≤ 9437184) := Lib.hid (fun j hj => by
    have := flat_take_le ps j hj
    have := h.1
    omega)
  have HS := Lib.hid (flat_step ps)
  have HA := Lib.hid (all_flat ps HP.out)
  have HB := Lib.hid (fun h1 h7 => all_torn ps xs HP.out h1 h7)
  have HW := Lib.hid wakes_any
  have HX' := Lib.hid h'
  have HL' := Lib.hid h'.len
  clear h ht h'
  go_enter Try.func6, Try.ntmps6
  go_wp2_with fail
  refine (HW.out w).mono ?_
  rintro e w1 ⟨rfl, hb1⟩
  go_wp2_with fail
  go_loopw [5, 16] (fun b i wr => ∃ j : Nat, j ≤ n ∧ i = .int .i64 j ∧ OwnB wr w.heap.size b (flat (ps.take j)) ∧ Below w.heap.size w wr) (fun _ i _ => n - (intOf i).toNat)
  case atStart => exact ⟨0, by omega, rfl, by simpa [flat] using OwnB.nil _ _, hb1⟩
  case round =>
    obtain ⟨j, hj, rfl, hp, hb⟩ := hrel
    by_cases hlt : j < n
    · have h1 : j < ps.length := by rw [HL.out]; exact hlt
      obtain ⟨g1, o1, A1, m1, c1, rfl, x1, r1, _⟩ := (HX.out.below hb).2 j h1
      have hm1 : m1 ≤ 1048576 := by have := r1.len; have := HJ.out j h1; omega
      have HS1 := Lib.hid (HS.out j h1)
      have HT1 := Lib.hid (HT.out j (by omega))
      have HT2 := Lib.hid (HT.out (j + 1) (by omega))
      generalize ps[j] = x at *
      clear h1
      go_wp2_with fail
      refine (own_any A1 m1 c1 wr _ r1 (by omega)).mono ?_
      rintro e w2 ⟨v2, rfl, hv2, hb2⟩
      obtain ⟨A2, m2, c2, rfl, hm2, hmc2, _, hr2, _⟩ := hv2.form
      have hm2' : m2 ≤ 1048576 := by have := hm2.out; have := r1.len; omega
      have hb02 := hb.trans (hb2.mono hb.size)
      go_wp2_with fail
      refine (Put_ok A2 m2 c2 w2 _ hr2 (by omega)).mono ?_
      rintro e w3 ⟨v3, rfl, hv3, hb3⟩
      have hb03 := hb02.trans (hb3.mono hb02.size)
      have hbe : Below wr.heap.size wr w3 := hb2.trans (hb3.mono hb2.size)
      obtain ⟨A3, m3, c3, rfl, hm3, hmc3, _, hr3, _⟩ := hv3.form
      have hm3' : m3 ≤ 1048584 := by have h1 := hm3.out; have h2 := hm2.out; rw [frameOf_len] at h1; omega
      have hpp := hp.below hbe
      go_wp2_with (at_builtin; refine app_u8 rfl _ _ rfl w.heap.size _ _ rfl hpp _ m3 c3 _ rfl hr3 ?c1 ?c2 ?_)
      case c1 => have := HT1.out; omega
      case c2 => exact hb03.size
      intro v4 w4 hv4 hb4 _
      rw [← HS1.out] at hv4
      go_wp2
      case roundEnd =>
        go_roundw
        case rel => exact ⟨j + 1, by omega, by go_num, hv4, hb03.trans hb4⟩
        case measure => simp [intOf]; omega
      all_goals (exfalso; simp_all; done)
    · have hjn : ps.take j = ps := List.take_of_length_le (by rw [HL.out]; omega)
      have HTn := Lib.hid (HT.out j (by rw [HL.out]; exact hj))
      rw [hjn] at hp HTn
      generalize flat ps = F at *
      obtain ⟨A1, m1, c1, rfl, hm1, hmc1, _, hr1, _⟩ := hp.form
      have hm1' : m1 ≤ 9437184 := by have := hm1.out; have := HTn.out; omega
      clear hjn
      go_wp2_with fail
      refine (own_any A1 m1 c1 wr _ hr1 (by omega)).mono ?_
      rintro e w2 ⟨v2, rfl, hv2, hb2⟩
      obtain ⟨A2, m2, c2, rfl, hm2, hmc2, _, hr2, _⟩ := hv2.form
      have hm2' : m2 ≤ 1000000000 := by have h1 := hm2.out; have h2 := hm1.out; rw [← h1, h2]; exact Nat.le_trans hm1' (by decide)
      have hb02 := hb.trans (hb2.mono hb.size)
      go_wp2_with fail
      refine (All_any A2 m2 c2 w2 _ hr2 hm2' hmc2).mono ?_
      rintro e w3 ⟨v3, rfl, hv3, hb3⟩
      rw [HA.out] at hv3 ⊢
      dsimp only at *
      have hb03 := hb02.trans (hb3.mono hb02.size)
      obtain ⟨A3, c3, rfl, _⟩ := hv3.len
      rw [show F.length = m1 from hm1.out]
      go_wp2_with fail
      refine (SameR_any A3 A _ n c3 c ps ps w3 hv3.rd (HX.out.below hb03) (by have := HL.out; omega) (by have := HL.out; omega)).mono ?_
      rintro e w4 ⟨rfl, hb4⟩
      rw [show decide (ps = ps) = true from decide_eq_true rfl]
      have hb04 := hb03.trans (hb4.mono hb03.size)
      by_cases hb1' : n' < 1
      · go_wp2
        go_ret
        exact ⟨rfl, hb04⟩
      by_cases hb7 : 7 < n'
      · go_wp2
        go_ret
        exact ⟨rfl, hb04⟩
      have HB1 := Lib.hid (HB.out (by have := HL'.out; omega) (by have := HL'.out; omega))
      have hr1' := hr1.below (hb2.trans ((hb3.trans (hb4.mono hb3.size)).mono hb2.size))
      go_wp2_with fail
      refine (own_any A1 m1 c1 w4 _ hr1' (by omega)).mono ?_
      rintro e w5 ⟨v5, rfl, hv5, hb5⟩
      have hb05 := hb04.trans (hb5.mono hb04.size)
      go_wp2_with (at_builtin; refine app_u8 rfl _ _ rfl w4.heap.size _ _ rfl hv5 _ n' c' _ rfl (HX'.out.below hb05) ?c3 ?c4 ?_)
      case c3 => have := HTn.out; omega
      case c4 => exact hb5.size
      intro v6 w6 hv6 hb6 _
      have hb06 := hb05.trans (hb6.mono hb04.size)
      obtain ⟨A6, m6, c6, rfl, hm6, hmc6, _, hr6, _⟩ := hv6.form
      have hm6' : m6 ≤ 1000000000 := by
        have h1 := hm6.out
        have h2 := hm1.out
        have h3 := HL'.out
        rw [← h1, List.length_append, h2, h3]
        exact Nat.le_trans (Nat.add_le_add hm1' (Nat.le_of_not_lt hb7)) (by decide)
      go_wp2_with fail
      refine (All_any A6 m6 c6 w6 _ hr6 hm6' hmc6).mono ?_
      rintro e w7 ⟨v7, rfl, hv7, hb7⟩
      rw [HB1.out] at hv7 ⊢
      dsimp only at *
      have hb07 := hb06.trans (hb7.mono hb06.size)
      obtain ⟨A7, c7, rfl, _⟩ := hv7.len
      rw [show F.length = m1 from hm1.out]
      go_wp2_with fail
      refine (SameR_any A7 A _ n c7 c ps ps w7 hv7.rd (HX.out.below hb07) (by have := HL.out; omega) (by have := HL.out; omega)).mono ?_
      rintro e w8 ⟨rfl, hb8⟩
      rw [show decide (ps = ps) = true from decide_eq_true rfl]
      go_wp2
      go_ret
      exact ⟨rfl, hb07.trans (hb8.mono hb07.size)⟩
end Go.Proofs.Ytcpojhckgoinmaa
