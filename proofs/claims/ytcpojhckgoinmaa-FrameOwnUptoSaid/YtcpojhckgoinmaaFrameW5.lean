import Derived.Test.YtcpojhckgoinmaaFrameW4
namespace Go.Proofs.Ytcpojhckgoinmaa
open Go.RowKit
set_option linter.unusedVariables false

set_option maxHeartbeats 400000 in
theorem refRead_range (A : Option Addr) (n c : Nat) (p : Int) (w : World) (xs : List UInt8) (h : RdB w A n xs) (hm : n ≤ 140737488355328) (hp : p < 0 ∨ (n : Int) < p) :
    Calls Try.prog 17 #[.slice A n c, .int .i64 p] w (Reads w (rd xs p)) := by
  have e : rd xs p = ([], 0, 2) := by unfold rd; rw [h.len, if_pos hp]
  rw [e]
  have R := Lib.hid (Reads.fails (w := w) (p := 2) (Below.refl _ _))
  rcases hp with hp | hp
  · go_enter Try.func17, Try.ntmps17
    go_wp2
    go_ret3
    exact R.out
  · have hp0 : ¬ p < 0 := by omega
    go_enter Try.func17, Try.ntmps17
    go_wp2
    go_ret3
    exact R.out

set_option maxHeartbeats 400000 in
theorem refRead_none (A : Option Addr) (n c : Nat) (w : World) (xs : List UInt8) (h : RdB w A n xs) (hm : n ≤ 140737488355328) (hc : n ≤ c) :
    Calls Try.prog 17 #[.slice A n c, .int .i64 n] w (Reads w (rd xs n)) := by
  have e : rd xs n = ([], 0, 12) := by unfold rd; rw [h.len, if_neg (by omega), Int.toNat_natCast, List.drop_of_length_le (by rw [h.len]; omega)]; rfl
  rw [e]
  have R := Lib.hid (Reads.fails (w := w) (p := 12) (Below.refl _ _))
  go_enter Try.func17, Try.ntmps17
  go_wp2
  go_ret3
  exact R.out

set_option maxHeartbeats 400000 in
theorem refRead_torn (A : Option Addr) (n c k : Nat) (w : World) (xs : List UInt8) (h : RdB w A n xs) (hm : n ≤ 140737488355328) (hc : n ≤ c) (hk : k < n) (hk8 : n < k + 8) :
    Calls Try.prog 17 #[.slice A n c, .int .i64 k] w (Reads w (rd xs k)) := by
  have e : rd xs k = ([], 0, 10) := by
    have := h.len
    unfold rd; rw [h.len, if_neg (by omega), Int.toNat_natCast]; exact rdAt_torn _ _ (by rw [List.length_drop]; omega) (by rw [List.length_drop]; omega)
  rw [e]
  have R := Lib.hid (Reads.fails (w := w) (p := 10) (Below.refl _ _))
  have hne : ((k : Int) == (n : Int)) = false := by rw [beq_eq_false_iff_ne]; omega
  go_enter Try.func17, Try.ntmps17
  go_wp2
  go_ret3
  exact R.out

set_option maxHeartbeats 4000000 in
theorem refRead_long (b off n c k : Nat) (w : World) (xs : List UInt8) (h : RdB w (some ⟨b, off, none⟩) n xs) (hm : n ≤ 140737488355328) (hc : n ≤ c) (hk8 : k + 8 ≤ n)
    (x0 x1 x2 x3 y0 y1 y2 y3 : UInt8) (rest : List UInt8) (hx : xs.drop k = x0 :: x1 :: x2 :: x3 :: y0 :: y1 :: y2 :: y3 :: rest) :
    Calls Try.prog 17 #[.slice (some ⟨b, off, none⟩) n c, .int .i64 k] w (Reads w (rd xs k)) := by
  have e : rd xs k = rdAt (x0 :: x1 :: x2 :: x3 :: y0 :: y1 :: y2 :: y3 :: rest) k := by
    unfold rd; rw [h.len, if_neg (by omega), Int.toNat_natCast, hx]
  have hrl : rest.length + 8 + k = n := by have := congrArg List.length hx; have := h.len; simp at *; omega
  have HE := Lib.hid e
  have HX := Lib.hid hx
  have hr := h.sub k (n - k) (by omega)
  rw [List.take_of_length_le (by rw [List.length_drop, h.len]; omega), hx] at hr
  clear e hx
  have hq := num4_lt x0 x1 x2 x3
  have hb0 := Below.refl w.heap.size w
  have hne : ((k : Int) == (n : Int)) = false := by rw [beq_eq_false_iff_ne]; omega
  have hlt : ¬ ((n : Int) - k) < 8 := by omega
  by_cases hbig : 2097152 < num4 x0 x1 x2 x3
  · go_enter Try.func17, Try.ntmps17
    go_wp2_with (go_at_call 26; refine (number_any _ _ _ _ _ x0 x1 x2 x3 _ hr (by omega)).mono ?_; rintro e w1 ⟨rfl, k1, rfl⟩)
    go_ret3
    rw [HE.out, rdAt, if_pos hbig]
    exact Reads.fails (below_drewN hb0 _)
  · by_cases hshort : rest.length < num4 x0 x1 x2 x3
    · have hsh : (n : Int) - k - 8 < (num4 x0 x1 x2 x3 : Int) := by omega
      go_enter Try.func17, Try.ntmps17
      go_wp2_with (go_at_call 26; refine (number_any _ _ _ _ _ x0 x1 x2 x3 _ hr (by omega)).mono ?_; rintro e w1 ⟨rfl, k1, rfl⟩)
      go_ret3
      rw [HE.out, rdAt, if_neg hbig, if_pos hshort]
      exact Reads.fails (below_drewN hb0 _)
    · have hsh : ¬ (n : Int) - k - 8 < (num4 x0 x1 x2 x3 : Int) := by omega
      have hr4 := hr.sub 4 (n - k - 4) (by omega)
      have hh := hr.sub 0 4 (by omega)
      have hp := hr.sub 8 (num4 x0 x1 x2 x3) (by omega)
      rw [List.take_of_length_le (by rw [List.length_drop]; simp only [List.length_cons]; omega)] at hr4
      simp only [List.drop_succ_cons, List.drop_zero, List.take_succ_cons, List.take_zero, Nat.add_zero] at hr4 hh hp
      go_enter Try.func17, Try.ntmps17
      go_upto_region 13 with (go_at_call 26; refine (number_any _ _ _ _ _ x0 x1 x2 x3 _ hr (by omega)).mono ?_; rintro e w1 ⟨rfl, k1, rfl⟩)
      go_cut [64] (fun t w' => t = .bool ((num4 y0 y1 y2 y3 : Int) != (crc (x0 :: x1 :: x2 :: x3 :: rest.take (num4 x0 x1 x2 x3)) : Nat)) ∧ Below w.heap.size w w')
      case first =>
        have hbk := below_drewN hb0 k1
        generalize w.drewN k1 = w1 at hbk ⊢
        have hi1 : IntKind.i64.wrap ((k : Int) + 4) = (k : Int) + 4 := by rw [IntKind.wrap_i64]; omega
        have hi2 : IntKind.i64.wrap ((k : Int) + 8) = (k : Int) + 8 := by rw [IntKind.wrap_i64]; omega
        obtain ⟨A1, s1, r1⟩ := cut_l h c hc (k + 4) (by omega) ((k : Int) + 4) (by omega)
        obtain ⟨A2, s2, r2⟩ := cut_lh h c hc k (k + 4) (by omega) (by omega) (k : Int) ((k : Int) + 4) rfl (by omega)
        obtain ⟨A3, s3, r3⟩ := cut_lh h c hc (k + 8) (k + 8 + num4 x0 x1 x2 x3) (by omega) (by omega) ((k : Int) + 8) ((k : Int) + 8 + (num4 x0 x1 x2 x3 : Int)) (by omega) (by omega)
        obtain ⟨b', o', rfl⟩ := r1.addr (by omega)
        rw [← List.drop_drop, HX.out] at r1 r3
        rw [HX.out] at r2
        simp only [List.drop_succ_cons, List.drop_zero, List.take_succ_cons, List.take_zero, Nat.add_sub_cancel_left] at r1 r2 r3 s2 s3
        have N := Lib.hid fun W (hW : Below w.heap.size w W) => number_any b' o' (n - (k + 4)) (c - (k + 4)) W y0 y1 y2 y3 rest (r1.below hW) (by omega)
        go_region_held3 (fun w' => Below w.heap.size w w') (repeat (first | assumption | apply below_drewN | apply Below.drew | apply below_alloc))
          (first
            | (go_at_call 26; refine (N.out _ (by assumption)).mono ?_; rintro e w2 ⟨rfl, k2, rfl⟩)
            | (refine step_app_u8 (by rfl) (.tmp 50) (.tmp 55) (by rfl) w.heap.size _ [] (by rfl) ?_ A2 4 (c - k) [x0, x1, x2, x3] (by rfl) (r2.below (by assumption)) (by simp) (Below.size (by assumption)) ?_
               · first | exact OwnB.empty _ (Below.size (by assumption)) | exact OwnB.drewN (OwnB.empty _ (Below.size (by assumption))) _
               intro v5 w5 hv5 hb5 hg5
               have hB5 : Below w.heap.size w w5 := Below.trans (by assumption) hb5)
            | (refine step_app_u8 (by rfl) (.tmp 56) (.tmp 61) (by rfl) w.heap.size _ [x0, x1, x2, x3] (by rfl) ?_ A3 (num4 x0 x1 x2 x3) (c - (k + 8)) (rest.take (num4 x0 x1 x2 x3)) (by rfl) (r3.below (by assumption)) (by simp; omega) (Below.size (by assumption)) ?_
               · first | exact hv5 | exact OwnB.drewN hv5 _
               intro v6 w6 hv6 hb6 hg6
               have hB6 : Below w.heap.size w w6 := Below.trans (by assumption) hb6
               obtain ⟨A9, m9, c9, rfl, hm9, _, _, hr9, _⟩ := hv6.form
               have hm9' : m9 ≤ 9223372036854775807 := by have := hm9.out; simp at this; omega)
            | (go_at_call 12; refine (refSum_any A9 m9 c9 _ _ (by first | exact hr9 | exact RdB.drewN hr9 _) hm9').mono ?_; rintro e w7 ⟨rfl, rfl⟩))
        all_goals go_wp2
        all_goals go_meet
        all_goals (case rel => exact ⟨rfl, by assumption⟩)
      case rest =>
        obtain ⟨rfl, hbc⟩ := hcut
        obtain ⟨A3, s3, r3⟩ := cut_lh h c hc (k + 8) (k + 8 + num4 x0 x1 x2 x3) (by omega) (by omega) ((k : Int) + 8) ((k : Int) + 8 + (num4 x0 x1 x2 x3 : Int)) (by omega) (by omega)
        rw [← List.drop_drop, HX.out] at r3
        simp only [List.drop_succ_cons, List.drop_zero, Nat.add_sub_cancel_left] at r3 s3
        by_cases hsum : num4 y0 y1 y2 y3 = crc (x0 :: x1 :: x2 :: x3 :: rest.take (num4 x0 x1 x2 x3))
        · have hs : ((num4 y0 y1 y2 y3 : Int) != (crc (x0 :: x1 :: x2 :: x3 :: rest.take (num4 x0 x1 x2 x3)) : Nat)) = false := by simp [hsum]
          have HS := Lib.hid hsum
          clear hsum
          go_wp2_with (at_builtin; refine app_u8 rfl _ _ rfl w.heap.size _ [] rfl (OwnB.empty wc hbc.size) A3 (num4 x0 x1 x2 x3) (c - (k + 8)) _ rfl ((r3.below hbc).alloc _) ?c1 ?c2 ?_)
          case c1 => simp; omega
          case c2 => simp; have := hbc.size; omega
          intro v4 w4 hv4 hb4 _
          go_wp2
          go_ret3
          rw [HE.out, rdAt, if_neg hbig, if_neg hshort, if_pos HS.out]
          exact ⟨v4, rfl, hv4, (below_alloc hbc _).trans hb4⟩
        · have hs : ((num4 y0 y1 y2 y3 : Int) != (crc (x0 :: x1 :: x2 :: x3 :: rest.take (num4 x0 x1 x2 x3)) : Nat)) = true := by rw [bne_iff_ne]; omega
          go_wp2
          go_ret3
          rw [HE.out, rdAt, if_neg hbig, if_neg hshort, if_neg hsum]
          exact Reads.fails hbc

/-! ### Every input -/
theorem Read_any (A : Option Addr) (n c : Nat) (p : Int) (w : World) (xs : List UInt8) (h : RdB w A n xs) (hm : n ≤ 140737488355328) (hc : n ≤ c) :
    Calls Try.prog 16 #[.slice A n c, .int .i64 p] w (Reads w (rd xs p)) := by
  by_cases hp : p < 0 ∨ (n : Int) < p
  · exact Read_range A n c p w xs h hm hp
  · obtain ⟨k, rfl⟩ := Int.eq_ofNat_of_zero_le (show 0 ≤ p by omega)
    by_cases hk : k = n
    · subst hk; exact Read_none A k c w xs h hm hc
    · by_cases h8 : n < k + 8
      · exact Read_torn A n c k w xs h hm hc (by omega) h8
      · obtain ⟨b, off, rfl⟩ := h.addr (by omega)
        obtain ⟨x0, x1, x2, x3, y0, y1, y2, y3, rest, hx⟩ := rd_eight (xs.drop k) (by rw [List.length_drop, h.len]; omega)
        exact Read_long b off n c k w xs h hm hc (by omega) x0 x1 x2 x3 y0 y1 y2 y3 rest hx
theorem refRead_any (A : Option Addr) (n c : Nat) (p : Int) (w : World) (xs : List UInt8) (h : RdB w A n xs) (hm : n ≤ 140737488355328) (hc : n ≤ c) :
    Calls Try.prog 17 #[.slice A n c, .int .i64 p] w (Reads w (rd xs p)) := by
  by_cases hp : p < 0 ∨ (n : Int) < p
  · exact refRead_range A n c p w xs h hm hp
  · obtain ⟨k, rfl⟩ := Int.eq_ofNat_of_zero_le (show 0 ≤ p by omega)
    by_cases hk : k = n
    · subst hk; exact refRead_none A k c w xs h hm hc
    · by_cases h8 : n < k + 8
      · exact refRead_torn A n c k w xs h hm hc (by omega) h8
      · obtain ⟨b, off, rfl⟩ := h.addr (by omega)
        obtain ⟨x0, x1, x2, x3, y0, y1, y2, y3, rest, hx⟩ := rd_eight (xs.drop k) (by rw [List.length_drop, h.len]; omega)
        exact refRead_long b off n c k w xs h hm hc (by omega) x0 x1 x2 x3 y0 y1 y2 y3 rest hx
end Go.Proofs.Ytcpojhckgoinmaa
