import Derived.Test.YtcpojhckgoinmaaFrameW2
namespace Go.Proofs.Ytcpojhckgoinmaa
open Go.RowKit
set_option linter.unusedVariables false
/-- What a payload is wrapped to. -/
def frameOf (p : List UInt8) : List UInt8 := le4 p.length ++ le4 (crc (le4 p.length ++ p)) ++ p

theorem Rd2 {w : World} {A : Option Addr} {n c : Nat} {A' : Option Addr} {n' c' : Nat} : True := trivial

set_option maxHeartbeats 400000 in
theorem Put_long (A : Option Addr) (n c : Nat) (w : World) (hn : 2097152 < n) (hm : n ≤ 9223372036854775807) :
    Calls Try.prog 13 #[.slice A n c] w fun e w' => e = .returned (.tuple #[.slice none 0 0, .int .i64 3]) ∧ w = w' := by
  go_enter Try.func13, Try.ntmps13
  go_wp2
  go_ret2
  exact ⟨rfl, rfl⟩

/-- The sum of two pieces, laid side by side. -/
theorem sum_at (w : World) (g : Nat) (A : Option Addr) (n c : Nat) (xs : List UInt8) (A' : Option Addr) (n' c' : Nat) (ys : List UInt8) (hg : w.heap[g]? = some (.cells #[.slice A n c, .slice A' n' c'] 22 (0, 0)))
    (h : RdB w A n xs) (h' : RdB w A' n' ys) (hn : n ≤ 9223372036854775807) (hn' : n' ≤ 9223372036854775807) :
    Calls Try.prog 21 #[.slice (some ⟨g, 0, none⟩) 2 2] w fun e w' => e = .returned (.int .u32 (crc (xs ++ ys) : Nat)) ∧ Below w.heap.size w w' := by
  refine (sum_any w g 2 2 [⟨A, n, c, xs⟩, ⟨A', n', c', ys⟩] rfl (by omega) (fun k hk => ?_) (fun k hk => ?_) (fun k hk => ?_)).mono fun e w' ⟨he, hb⟩ => ⟨?_, hb⟩
  · rw [cell_of_row _ _ _ _ _ _ hg]
    match k, hk with
    | 0, _ => rfl
    | 1, _ => rfl
  · match k, hk with
    | 0, _ => exact h
    | 1, _ => exact h'
  · match k, hk with
    | 0, _ => exact hn
    | 1, _ => exact hn'
  · rw [he]; simp
theorem sum_two (w : World) (A : Option Addr) (n c : Nat) (xs : List UInt8) (A' : Option Addr) (n' c' : Nat) (ys : List UInt8) (h : RdB w A n xs) (h' : RdB w A' n' ys) (hn : n ≤ 9223372036854775807) (hn' : n' ≤ 9223372036854775807) :
    Calls Try.prog 21 #[.slice (some ⟨w.heap.size, 0, none⟩) 2 2] (w.alloc (.cells #[.slice A n c, .slice A' n' c'] 22)) fun e w' => e = .returned (.int .u32 (crc (xs ++ ys) : Nat)) ∧ Below w.heap.size w w' :=
  (sum_at _ w.heap.size A n c xs A' n' c' ys (heap_alloc_new w _) (h.alloc _) (h'.alloc _) hn hn').mono fun e w' ⟨he, hb⟩ => ⟨he, ((Below.refl _ _).alloc (Nat.le_refl _) _).trans (hb.mono (by simp))⟩

set_option maxHeartbeats 400000 in
theorem Put_ok (A : Option Addr) (n c : Nat) (w : World) (xs : List UInt8) (h : RdB w A n xs) (hn : n ≤ 2097152) :
    Calls Try.prog 13 #[.slice A n c] w fun e w' => ∃ v, e = .returned (.tuple #[v, .int .i64 0]) ∧ OwnB w' w.heap.size v (frameOf xs) ∧ Below w.heap.size w w' := by
  have hl := Lib.hid h.len
  go_enter Try.func13, Try.ntmps13
  go_wp2_with (at_make; refine make_u8 rfl _ _ rfl w.heap.size _ _ _ (8 + n) rfl rfl ?c1 ?c2 (Nat.le_refl _) ?_)
  case c1 => omega
  case c2 => omega
  intro v1 w1 hv1 hb1
  go_wp2_with fail
  refine (put_any v1 [] n w1 w.heap.size hv1 (by omega) (by simp) hb1.size).mono ?_
  rintro e w2 ⟨v2, rfl, hv2, hb2, hg2⟩
  rw [List.nil_append] at hv2
  obtain ⟨A2, m2, c2, rfl, hm2, _, _, hr2, _⟩ := hv2.form
  have hm2' : m2 ≤ 100 := by have := hm2.out; rw [le4_len] at this; omega
  have hb12 := hb1.trans hb2
  go_wp2_with fail
  refine (sum_two w2 A2 m2 c2 (le4 n) A n c xs hr2 (h.below hb12) (by omega) (by omega)).mono ?_
  rintro e w3 ⟨rfl, hb3⟩
  have hv3 := hv2.below hb3
  have hb13 := hb12.trans (hb3.mono hb12.size)
  go_wp2_with fail
  refine (put_any _ _ _ w3 w.heap.size hv3 (crc_lt _) (by simp [le4_len]) hb13.size).mono ?_
  rintro e w4 ⟨v4, rfl, hv4, hb4, hg4⟩
  have hb14 := hb13.trans hb4
  go_wp2_with (at_builtin; refine app_u8 rfl _ _ rfl w.heap.size v4 _ rfl hv4 A n c xs rfl (h.below hb14) ?c3 hb14.size ?_)
  case c3 => simp [le4_len]; omega
  intro v5 w5 hv5 hb5 _
  go_wp2
  go_ret2
  refine ⟨v5, rfl, ?_, hb14.trans hb5⟩
  have e : frameOf xs = le4 n ++ le4 (crc (le4 n ++ xs)) ++ xs := by unfold frameOf; rw [hl.out]
  rw [e]
  exact hv5

/-! ### The reference -/
set_option maxHeartbeats 400000 in
theorem refPut_long (A : Option Addr) (n c : Nat) (w : World) (hn : 2097152 < n) (hm : n ≤ 9223372036854775807) :
    Calls Try.prog 14 #[.slice A n c] w fun e w' => e = .returned (.tuple #[.slice none 0 0, .int .i64 3]) ∧ w = w' := by
  go_enter Try.func14, Try.ntmps14
  go_wp2
  go_ret2
  exact ⟨rfl, rfl⟩

set_option maxHeartbeats 400000 in
theorem refPut_ok (A : Option Addr) (n c : Nat) (w : World) (xs : List UInt8) (h : RdB w A n xs) (hn : n ≤ 2097152) :
    Calls Try.prog 14 #[.slice A n c] w fun e w' => ∃ v, e = .returned (.tuple #[v, .int .i64 0]) ∧ OwnB w' w.heap.size v (frameOf xs) ∧ Below w.heap.size w w' := by
  have hl := Lib.hid h.len
  go_enter Try.func14, Try.ntmps14
  go_wp2_with fail
  refine (four_any n w (by omega)).mono ?_
  rintro e w1 ⟨v1, rfl, hv1, hb1⟩
  obtain ⟨A1, m1, c1, rfl, hm1, _, _, hr1, _⟩ := hv1.form
  have hm1' : m1 ≤ 100 := by have := hm1.out; rw [le4_len] at this; omega
  go_wp2_with (at_builtin; refine app_u8 rfl _ _ rfl w1.heap.size _ [] rfl (OwnB.empty w1 (Nat.le_refl _)) A1 m1 c1 (le4 n) rfl (hr1.alloc _) ?c1 ?c2 ?_)
  case c1 => simp; omega
  case c2 => simp
  intro v2 w2 hv2 hb2 _
  have hb12 : Below w1.heap.size w1 w2 := ((Below.refl _ _).alloc (Nat.le_refl _) _).trans hb2
  have hb2' := hb1.trans (hb12.mono hb1.size)
  go_wp2_with (at_builtin; refine app_u8 rfl _ _ rfl w1.heap.size v2 (le4 n) rfl hv2 A n c xs rfl (h.below hb2') ?c3 hb12.size ?_)
  case c3 => simp [le4_len]; omega
  intro v3 w3 hv3 hb3 _
  have hb13 := hb12.trans hb3
  have hb3' := hb1.trans (hb13.mono hb1.size)
  obtain ⟨A3, m3, c3, rfl, hm3, _, _, hr3, _⟩ := hv3.form
  have hm3' : m3 ≤ 9223372036854775807 := by have := hm3.out; rw [List.length_append, le4_len, hl.out] at this; omega
  go_wp2_with fail
  refine (refSum_any A3 m3 c3 w3 _ hr3 hm3').mono ?_
  rintro e w' ⟨rfl, rfl⟩
  go_wp2_with fail
  refine (four_any (crc (le4 n ++ xs)) w3 (crc_lt _)).mono ?_
  rintro e w4 ⟨v4, rfl, hv4, hb4⟩
  obtain ⟨A4, m4, c4, rfl, hm4, _, _, hr4, _⟩ := hv4.form
  have hm4' : m4 ≤ 100 := by have := hm4.out; rw [le4_len] at this; omega
  have hb4' := hb3'.trans (hb4.mono hb3'.size)
  have hv1' := (hv1.below hb13).below hb4
  go_wp2_with (at_builtin; refine app_u8 rfl _ _ rfl w.heap.size _ (le4 n) rfl hv1' A4 m4 c4 _ rfl hr4 ?c5 hb4'.size ?_)
  case c5 => simp [le4_len]; omega
  intro v5 w5 hv5 hb5 _
  have hb5' := hb4'.trans hb5
  go_wp2_with (at_builtin; refine app_u8 rfl _ _ rfl w.heap.size v5 _ rfl hv5 A n c xs rfl (h.below hb5') ?c6 hb5'.size ?_)
  case c6 => simp [le4_len]; omega
  intro v6 w6 hv6 hb6 _
  go_wp2
  go_ret2
  refine ⟨v6, rfl, ?_, hb5'.trans hb6⟩
  have e : frameOf xs = le4 n ++ le4 (crc (le4 n ++ xs)) ++ xs := by unfold frameOf; rw [hl.out]
  rw [e]
  exact hv6
end Go.Proofs.Ytcpojhckgoinmaa
