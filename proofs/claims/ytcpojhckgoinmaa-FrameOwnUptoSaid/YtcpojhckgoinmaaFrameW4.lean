import Derived.Test.YtcpojhckgoinmaaFrameW3
import Derived.Deep.RegionHeld3
import Derived.Deep.DeepCutAuto
namespace Go.Proofs.Ytcpojhckgoinmaa
open Go.RowKit
set_option linter.unusedVariables false

/-- What is read at a place: the payload, the place behind it, the error's number. -/
def rdAt (r : List UInt8) (p : Int) : List UInt8 × Int × Int :=
  match r with
  | [] => ([], 0, 12)
  | a :: b :: c :: d :: e :: f :: g :: h :: rest =>
    if 2097152 < num4 a b c d then ([], 0, 11)
    else if rest.length < num4 a b c d then ([], 0, 10)
    else if num4 e f g h = crc (a :: b :: c :: d :: rest.take (num4 a b c d)) then (rest.take (num4 a b c d), p + 8 + num4 a b c d, 0)
    else ([], 0, 11)
  | _ => ([], 0, 10)
def rd (xs : List UInt8) (p : Int) : List UInt8 × Int × Int :=
  if p < 0 ∨ (xs.length : Int) < p then ([], 0, 2) else rdAt (xs.drop p.toNat) p

/-- What a reader's call comes to. -/
def Reads (w : World) (r : List UInt8 × Int × Int) (e : Ending) (w' : World) : Prop :=
  ∃ v, e = .returned (.tuple #[v, .int .i64 r.2.1, .int .i64 r.2.2]) ∧ OwnB w' w.heap.size v r.1 ∧ Below w.heap.size w w'
theorem Reads.fails {w w' : World} {p : Int} (hb : Below w.heap.size w w') : Reads w ([], 0, p) (.returned (.tuple #[.slice none 0 0, .int .i64 0, .int .i64 p])) w' :=
  ⟨_, rfl, OwnB.nil _ _, hb⟩

theorem rd_eight (l : List UInt8) (h : 8 ≤ l.length) : ∃ a b c d e f g h rest, l = a :: b :: c :: d :: e :: f :: g :: h :: rest := by
  match l, h with
  | a :: b :: c :: d :: e :: f :: g :: h :: rest, _ => exact ⟨a, b, c, d, e, f, g, h, rest, rfl⟩

theorem get_below (b off n c : Nat) (w : World) (x0 x1 x2 x3 : UInt8) (ys : List UInt8) (h : RdB w (some ⟨b, off, none⟩) n (x0 :: x1 :: x2 :: x3 :: ys)) (hm : n ≤ 9223372036854775807) :
    Calls Try.prog 24 #[.slice (some ⟨b, off, none⟩) n c] w fun e w' => e = .returned (.int .u32 (num4 x0 x1 x2 x3 : Nat)) ∧ Below w.heap.size w w' :=
  (get_any b off n c w x0 x1 x2 x3 ys h hm).mono fun e w' ⟨he, k, hk⟩ => ⟨he, by subst hk; exact ⟨rfl, rfl, rfl, Nat.le_refl _, fun _ _ => rfl⟩⟩

set_option maxHeartbeats 400000 in
theorem Read_range (A : Option Addr) (n c : Nat) (p : Int) (w : World) (xs : List UInt8) (h : RdB w A n xs) (hm : n ≤ 140737488355328) (hp : p < 0 ∨ (n : Int) < p) :
    Calls Try.prog 16 #[.slice A n c, .int .i64 p] w (Reads w (rd xs p)) := by
  have e : rd xs p = ([], 0, 2) := by unfold rd; rw [h.len, if_pos hp]
  rw [e]
  have R := Lib.hid (Reads.fails (w := w) (p := 2) (Below.refl _ _))
  rcases hp with hp | hp
  · go_enter Try.func16, Try.ntmps16
    go_wp2
    go_ret3
    exact R.out
  · have hp0 : ¬ p < 0 := by omega
    go_enter Try.func16, Try.ntmps16
    go_wp2
    go_ret3
    exact R.out

set_option maxHeartbeats 400000 in
theorem Read_none (A : Option Addr) (n c : Nat) (w : World) (xs : List UInt8) (h : RdB w A n xs) (hm : n ≤ 140737488355328) (hc : n ≤ c) :
    Calls Try.prog 16 #[.slice A n c, .int .i64 n] w (Reads w (rd xs n)) := by
  have e : rd xs n = ([], 0, 12) := by unfold rd; rw [h.len, if_neg (by omega), Int.toNat_natCast, List.drop_of_length_le (by rw [h.len]; omega)]; rfl
  rw [e]
  have R := Lib.hid (Reads.fails (w := w) (p := 12) (Below.refl _ _))
  by_cases hcn : c = n
  all_goals
    go_enter Try.func16, Try.ntmps16
    go_wp2
    go_ret3
    exact R.out

theorem rdAt_torn (r : List UInt8) (p : Int) (h0 : 0 < r.length) (h8 : r.length < 8) : rdAt r p = ([], 0, 10) := by
  match r, h0, h8 with
  | [_], _, _ => rfl
  | [_, _], _, _ => rfl
  | [_, _, _], _, _ => rfl
  | [_, _, _, _], _, _ => rfl
  | [_, _, _, _, _], _, _ => rfl
  | [_, _, _, _, _, _], _, _ => rfl
  | [_, _, _, _, _, _, _], _, _ => rfl

set_option maxHeartbeats 400000 in
theorem Read_torn (A : Option Addr) (n c k : Nat) (w : World) (xs : List UInt8) (h : RdB w A n xs) (hm : n ≤ 140737488355328) (hc : n ≤ c) (hk : k < n) (hk8 : n < k + 8) :
    Calls Try.prog 16 #[.slice A n c, .int .i64 k] w (Reads w (rd xs k)) := by
  have e : rd xs k = ([], 0, 10) := by
    have := h.len
    unfold rd; rw [h.len, if_neg (by omega), Int.toNat_natCast]; exact rdAt_torn _ _ (by rw [List.length_drop]; omega) (by rw [List.length_drop]; omega)
  rw [e]
  have R := Lib.hid (Reads.fails (w := w) (p := 10) (Below.refl _ _))
  have hne : (((n - k : Nat) : Int) == 0) = false := by rw [beq_eq_false_iff_ne]; omega
  have hlt : ((n - k : Nat) : Int) < 8 := by omega
  go_enter Try.func16, Try.ntmps16
  go_wp2
  go_ret3
  exact R.out

set_option maxHeartbeats 4000000 in
theorem Read_long (b off n c k : Nat) (w : World) (xs : List UInt8) (h : RdB w (some ⟨b, off, none⟩) n xs) (hm : n ≤ 140737488355328) (hc : n ≤ c) (hk8 : k + 8 ≤ n)
    (x0 x1 x2 x3 y0 y1 y2 y3 : UInt8) (rest : List UInt8) (hx : xs.drop k = x0 :: x1 :: x2 :: x3 :: y0 :: y1 :: y2 :: y3 :: rest) :
    Calls Try.prog 16 #[.slice (some ⟨b, off, none⟩) n c, .int .i64 k] w (Reads w (rd xs k)) := by
  have e : rd xs k = rdAt (x0 :: x1 :: x2 :: x3 :: y0 :: y1 :: y2 :: y3 :: rest) k := by
    unfold rd; rw [h.len, if_neg (by omega), Int.toNat_natCast, hx]
  have hrl : rest.length + 8 + k = n := by have := congrArg List.length hx; have := h.len; simp at *; omega
  have HE := Lib.hid e
  have hr := h.sub k (n - k) (by omega)
  have HX := Lib.hid hx
  rw [List.take_of_length_le (by rw [List.length_drop, h.len]; omega), hx] at hr
  clear e hx
  have hq := num4_lt x0 x1 x2 x3
  have hb0 := Below.refl w.heap.size w
  have hne : (((n - k : Nat) : Int) == 0) = false := by rw [beq_eq_false_iff_ne]; omega
  have hlt : ¬ ((n - k : Nat) : Int) < 8 := by omega
  by_cases hbig : 2097152 < num4 x0 x1 x2 x3
  · go_enter Try.func16, Try.ntmps16
    go_wp2_with (go_at_call 24; refine (get_below _ _ _ _ _ x0 x1 x2 x3 _ hr (by omega)).mono ?_; rintro e w1 ⟨rfl, hb1⟩)
    go_ret3
    rw [HE.out, rdAt, if_pos hbig]
    exact Reads.fails hb1
  · by_cases hshort : rest.length < num4 x0 x1 x2 x3
    · have hsh : ((n - k : Nat) : Int) - 8 < (num4 x0 x1 x2 x3 : Int) := by omega
      go_enter Try.func16, Try.ntmps16
      go_wp2_with (go_at_call 24; refine (get_below _ _ _ _ _ x0 x1 x2 x3 _ hr (by omega)).mono ?_; rintro e w1 ⟨rfl, hb1⟩)
      go_ret3
      rw [HE.out, rdAt, if_neg hbig, if_pos hshort]
      exact Reads.fails hb1
    · have hsh : ¬ ((n - k : Nat) : Int) - 8 < (num4 x0 x1 x2 x3 : Int) := by omega
      obtain ⟨A3, s3, r3⟩ := cut_lh hr (c - k) (by omega) 8 (8 + num4 x0 x1 x2 x3) (by omega) (by omega) 8 (8 + (num4 x0 x1 x2 x3 : Int)) (by omega) (by omega)
      obtain ⟨A2, s2, r2⟩ := cut_h hr (c - k) (by omega) 4 (by omega) 4 (by omega)
      have hr4 := hr.sub 4 (n - k - 4) (by omega)
      have s1 : ∀ W, (Instr.slice 22 (.slice (some ⟨b, off + k, none⟩) (n - k) (c - k)) (some (.int .i64 4)) none none).run Try.prog W = .ok (.slice (some ⟨b, off + k + 4, none⟩) (n - k - 4) (c - k - 4)) W := fun W => by
        rw [run_slice_l W 22 _ _ _ elemUnd .i64 4 (by omega) (by omega), elemSize]
        simp [Result.andThen, sliced, add_plain, show ¬ c - k = 4 by omega]
      rw [List.take_of_length_le (by rw [List.length_drop]; simp only [List.length_cons]; omega)] at hr4
      simp only [List.drop_succ_cons, List.drop_zero, List.take_succ_cons, List.take_zero, Nat.add_sub_cancel_left] at hr4 r2 r3 s3
      have N := Lib.hid fun W (hW : Below w.heap.size w W) => get_any b (off + k + 4) (n - k - 4) (c - k - 4) W y0 y1 y2 y3 rest (hr4.below hW) (by omega)
      have S := Lib.hid fun W g (hW : Below w.heap.size w W) (hg : W.heap[g]? = some (.cells #[.slice A2 4 (c - k), .slice A3 (num4 x0 x1 x2 x3) (c - k - 8)] 22 (0, 0))) => (sum_at W g A2 4 (c - k) [x0, x1, x2, x3] A3 (num4 x0 x1 x2 x3) (c - k - 8) (rest.take (num4 x0 x1 x2 x3)) hg (r2.below hW) (r3.below hW) (by omega) (by omega)).mono fun e w' ⟨he, hb⟩ => (⟨he, hW.trans (hb.mono hW.size)⟩ : _ ∧ Below w.heap.size w w')
      go_enter Try.func16, Try.ntmps16
      go_upto_region 14 with (go_at_call 24; refine (get_below _ _ _ _ _ x0 x1 x2 x3 _ hr (by omega)).mono ?_; rintro e w1 ⟨rfl, hb1⟩)
      go_cut [54] (fun t w' => t = .bool ((num4 y0 y1 y2 y3 : Int) != (crc (x0 :: x1 :: x2 :: x3 :: rest.take (num4 x0 x1 x2 x3)) : Nat)) ∧ Below w.heap.size w w')
      case first =>
        go_region_held3 (fun w' => Below w.heap.size w w') (repeat (first | assumption | apply below_drewN | apply Below.drew | apply below_alloc)) (first | (go_at_call 24; refine (N.out _ (by assumption)).mono ?_; rintro e w2 ⟨rfl, k2, rfl⟩) | (go_at_call 21; refine (S.out _ _ (by assumption) (by first | exact heap_alloc_new _ _ | exact heap_alloc_drewN _ _ _)).mono ?_; rintro e w3 ⟨rfl, hb3⟩))
        all_goals go_wp2
        all_goals go_meet
        all_goals (case rel => exact ⟨rfl, by assumption⟩)
      case rest =>
        obtain ⟨rfl, hbc⟩ := hcut
        by_cases hsum : num4 y0 y1 y2 y3 = crc (x0 :: x1 :: x2 :: x3 :: rest.take (num4 x0 x1 x2 x3))
        · have hs : ((num4 y0 y1 y2 y3 : Int) != (crc (x0 :: x1 :: x2 :: x3 :: rest.take (num4 x0 x1 x2 x3)) : Nat)) = false := by simp [hsum]
          have HS := Lib.hid hsum
          clear hsum
          go_wp2_with (go_at_call 25; refine (clone_any _ _ _ wc _ (r3.below hbc) (by omega)).mono ?_; rintro e w4 ⟨v4, rfl, hv4, hb4⟩)
          go_ret3
          rw [HE.out, rdAt, if_neg hbig, if_neg hshort, if_pos HS.out]
          exact ⟨v4, rfl, hv4.mono hbc.size, hbc.trans (hb4.mono hbc.size)⟩
        · have hs : ((num4 y0 y1 y2 y3 : Int) != (crc (x0 :: x1 :: x2 :: x3 :: rest.take (num4 x0 x1 x2 x3)) : Nat)) = true := by rw [bne_iff_ne]; omega
          go_wp2
          go_ret3
          rw [HE.out, rdAt, if_neg hbig, if_neg hshort, if_neg hsum]
          exact Reads.fails hbc
end Go.Proofs.Ytcpojhckgoinmaa
