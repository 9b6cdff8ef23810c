/-
  The walks of a day's text: digits, Text, two.
-/
import Derived.Test.YtdadhpfaompmnaaCivilW5
namespace Go.Proofs.Ytdadhpfaompmnaa
open Go.RowKit
set_option linter.unusedVariables false
set_option linter.unusedSimpArgs false

def dig (v : Nat) : UInt8 := UInt8.ofNat (48 + v % 10)
theorem dig_toNat (v : Nat) : (dig v).toNat = 48 + v % 10 := u8_ofNat _ (by omega)
theorem dig_cell (v : Nat) : #[.int .u8 (48 + (v : Int) % 10)] = (([dig v]).map bv).toArray := by
  simp only [List.map, bv, dig_toNat]
  rfl
/-- A number's last digits. -/
def digs : Nat → Nat → List UInt8
  | 0, _ => []
  | k + 1, v => digs k (v / 10) ++ [dig v]
theorem digs_length (k v : Nat) : (digs k v).length = k := by
  induction k generalizing v with
  | zero => rfl
  | succ k ih => simp [digs, ih]
def txt (y m d : Nat) : List UInt8 := digs 4 y ++ [45] ++ digs 2 m ++ [45] ++ digs 2 d
theorem txt_length (y m d : Nat) : (txt y m d).length = 10 := by simp [txt, digs_length]
theorem digs_four (y : Nat) : digs 2 (y / 100) ++ digs 2 (y % 100) = digs 4 y := by
  have e1 : dig (y % 100 / 10) = dig (y / 10) := by unfold dig; rw [show y % 100 / 10 % 10 = y / 10 % 10 by omega]
  have e2 : dig (y % 100) = dig y := by unfold dig; rw [show y % 100 % 10 = y % 10 by omega]
  have e3 : y / 10 / 10 = y / 100 := by omega
  simp only [digs, List.nil_append, e1, e2, e3]
  simp

set_option maxHeartbeats 2000000 in
theorem digits_any (k : Nat) : ∀ (v base : Nat) (w : World) (u : Value) (xs : List UInt8), v ≤ 9999 → k ≤ 3 → OwnB w base u xs → base ≤ w.heap.size → xs.length ≤ 100 →
    Calls Try.prog 26 #[u, .int .i64 v, .int .i64 (k + 1 : Nat)] w fun e w' => ∃ u', e = .returned u' ∧ OwnB w' base u' (xs ++ digs (k + 1) v) ∧ Below base w w' := by
  induction k with
  | zero =>
    intro v base w u xs hv _ hown hb hl
    obtain ⟨A, m, c, rfl, hm, hmc, _, hr, _⟩ := hown.form
    have hbyte := Lib.hid (dig_cell v)
    go_enter Try.func26, Try.ntmps26
    go_wp2_with (at_builtin; refine app_u8 rfl _ _ rfl base _ xs rfl (hown.alloc _) _ 1 1 _ rfl (RdB.lit w _ _ hbyte.out 1 rfl) ?c1 ?c2 ?_)
    case c1 => omega
    case c2 => exact Nat.le_trans hb (by simp)
    intro u' w' hv' hb' _
    go_wp2
    go_ret
    rw [show digs (0 + 1) v = [dig v] from rfl]
    exact ⟨u', rfl, hv', ((Below.refl _ _).alloc hb _).trans hb'⟩
  | succ k ih =>
    intro v base w u xs hv hk hown hb hl
    obtain ⟨A, m, c, rfl, hm, hmc, _, hr, _⟩ := hown.form
    have hbyte := Lib.hid (dig_cell v)
    have IH := Lib.hid (ih (v / 10) base w _ xs (by omega) (by omega) hown hb hl)
    have hdl := Lib.hid (digs_length (k + 1) (v / 10))
    have hds : Hid (digs (k + 1 + 1) v = digs (k + 1) (v / 10) ++ [dig v]) := Lib.hid rfl
    generalize digs (k + 1) (v / 10) = ds at IH hdl hds
    clear ih
    go_enter Try.func26, Try.ntmps26
    go_wp2_with fail
    refine IH.out.mono ?_
    rintro e w1 ⟨u1, rfl, hv1, hb1⟩
    have hl1 : (xs ++ ds).length + 1 ≤ 140737488355328 := by have := hdl.out; simp; omega
    go_wp2_with (at_builtin; refine app_u8 rfl _ _ rfl base _ (xs ++ ds) rfl (hv1.alloc _) _ 1 1 _ rfl (RdB.lit w1 _ _ hbyte.out 1 rfl) ?c1 ?c2 ?_)
    case c1 => exact hl1
    case c2 => exact Nat.le_trans hb (Nat.le_trans hb1.size (by simp))
    intro u' w' hv' hb' _
    go_wp2
    go_ret
    refine ⟨u', rfl, ?_, (hb1.alloc (Nat.le_trans hb hb1.size) _).trans hb'⟩
    rw [hds.out]
    first
      | exact hv'
      | (rw [← List.append_assoc]; exact hv')

set_option maxHeartbeats 2000000 in
theorem Text_out (d : Int) (w : World) (h : d < -719162 ∨ 2932896 < d) :
    Calls Try.prog 18 #[.int .i64 d] w fun e w' => e = .returned (.tuple #[.string ⟨#[]⟩, .int .i64 6]) ∧ Below w.heap.size w w' := by
  go_enter Try.func18, Try.ntmps18
  go_wp2_with fail
  refine (Split_out d w h).mono ?_
  rintro e w' ⟨rfl, rfl⟩
  go_wp2
  go_ret2
  exact ⟨rfl, Below.refl _ _⟩

/-- What a day's text is. -/
def Texts (d : Int) (e : Ending) : Prop := ∃ y m a : Nat, Valid y m a ∧ dayOf y m a = d ∧ e = .returned (.tuple #[.string ⟨(txt y m a).toArray⟩, .int .i64 0])

set_option maxHeartbeats 4000000 in
theorem Text_in (d : Int) (w : World) (h0 : -719162 ≤ d) (h1 : d ≤ 2932896) :
    Calls Try.prog 18 #[.int .i64 d] w fun e w' => Texts d e ∧ Below w.heap.size w w' := by
  go_enter Try.func18, Try.ntmps18
  go_wp2_with fail
  refine (Split_in d w h0 h1).mono ?_
  rintro e w' ⟨⟨y, m, a, rfl, hv, hd⟩, rfl⟩
  have HV := Lib.hid hv
  have HD := Lib.hid hd
  obtain ⟨v1, v2, v3, v4, v5, v6⟩ := hv
  have va : a ≤ 31 := Nat.le_trans v6 (dim_le y m).2
  clear hd v6
  have h4 := Lib.hid (digs_length 4 y)
  have h2 := Lib.hid (digs_length 2 m)
  have h2' := Lib.hid (digs_length 2 a)
  have D1 := Lib.hid (digits_any 3 y w.heap.size w _ [] (by omega) (by omega) (OwnB.nil w _) (Nat.le_refl _) (by simp))
  have D2 := Lib.hid fun w1 u xs (hu : OwnB w1 w.heap.size u xs) (hb : w.heap.size ≤ w1.heap.size) (hl : xs.length ≤ 100) => digits_any 1 m w.heap.size w1 u xs (by omega) (by omega) hu hb hl
  have D3 := Lib.hid fun w1 u xs (hu : OwnB w1 w.heap.size u xs) (hb : w.heap.size ≤ w1.heap.size) (hl : xs.length ≤ 100) => digits_any 1 a w.heap.size w1 u xs (by omega) (by omega) hu hb hl
  have HT : Hid (∀ xs, digs 4 y ++ [45] ++ digs 2 m ++ [45] ++ digs 2 a = xs → Texts d (.returned (.tuple #[.string ⟨xs.toArray⟩, .int .i64 0]))) := Lib.hid fun xs e => ⟨y, m, a, HV.out, HD.out, by rw [← e]; rfl⟩
  rw [List.nil_append] at D1
  generalize digs 4 y = p1 at h4 D1 HT
  generalize digs 2 m = p2 at h2 D2 HT
  generalize digs 2 a = p3 at h2' D3 HT
  go_wp2_with fail
  refine D1.out.mono ?_
  rintro e w1 ⟨u1, rfl, hv1, hb1⟩
  have hl1 : p1.length + 1 ≤ 140737488355328 := by have := h4.out; omega
  go_wp2_with (at_builtin; refine app_u8 rfl _ _ rfl w.heap.size _ p1 rfl (hv1.alloc _) _ 1 1 [45] rfl (RdB.lit w1 _ _ rfl 1 rfl) ?c1 ?c2 ?_)
  case c1 => exact hl1
  case c2 => exact Nat.le_trans hb1.size (by simp)
  intro u2 w2 hv2 hb2 _
  have hb02 := (hb1.alloc hb1.size _).trans hb2
  have hl2 : (p1 ++ [45]).length ≤ 100 := by have := h4.out; simp; omega
  go_wp2_with fail
  refine (D2.out w2 u2 (p1 ++ [45]) (by simpa using hv2) hb02.size hl2).mono ?_
  rintro e w3 ⟨u3, rfl, hv3, hb3⟩
  have hb03 := hb02.trans hb3
  have hl3 : (p1 ++ [45] ++ p2).length + 1 ≤ 140737488355328 := by have := h4.out; have := h2.out; simp; omega
  go_wp2_with (at_builtin; refine app_u8 rfl _ _ rfl w.heap.size _ (p1 ++ [45] ++ p2) rfl (hv3.alloc _) _ 1 1 [45] rfl (RdB.lit w3 _ _ rfl 1 rfl) ?c3 ?c4 ?_)
  case c3 => exact hl3
  case c4 => exact Nat.le_trans hb03.size (by simp)
  intro u4 w4 hv4 hb4 _
  have hb04 := (hb03.alloc hb03.size _).trans hb4
  have hl4 : (p1 ++ [45] ++ p2 ++ [45]).length ≤ 100 := by have := h4.out; have := h2.out; simp; omega
  go_wp2_with fail
  refine (D3.out w4 u4 (p1 ++ [45] ++ p2 ++ [45]) (by simpa using hv4) hb04.size hl4).mono ?_
  rintro e w5 ⟨u5, rfl, hv5, hb5⟩
  have hb05 := hb04.trans hb5
  obtain ⟨A, n, c, rfl, hm, hmc, _, hr, _⟩ := hv5.form
  have HTT := Lib.hid (HT.out (p1 ++ 45 :: (p2 ++ 45 :: p3)) (by simp))
  have k1 := hr.conv (P := Try.prog) (src := 48) (dst := 9) Try.underlying48 Try.underlying5 Try.underlying9 c
  go_wp2
  go_ret2
  exact ⟨HTT.out, hb05⟩

/-! ### The reference's text -/
theorem two_slices : ∀ a : Nat, a < 10 → (ByteArray.mk #[48, 49, 50, 51, 52, 53, 54, 55, 56, 57]).extract a (a + 1) = ⟨#[dig a]⟩ := by
  intro a h
  rcases (show a = 0 ∨ a = 1 ∨ a = 2 ∨ a = 3 ∨ a = 4 ∨ a = 5 ∨ a = 6 ∨ a = 7 ∨ a = 8 ∨ a = 9 by omega) with rfl | rfl | rfl | rfl | rfl | rfl | rfl | rfl | rfl | rfl <;> rfl
theorem two_slice (a : Nat) (h : a < 10) (I J : Int) (hI : I = a) (hJ : J = a + 1) (W : World) :
    (Instr.slice 9 (.string ⟨#[48, 49, 50, 51, 52, 53, 54, 55, 56, 57]⟩) (some (.int .i64 I)) (some (.int .i64 J)) none).run Try.prog W = .ok (.string ⟨#[dig a]⟩) W := by
  subst hI hJ
  rw [run_slice_string W 9 _ .i64 .i64 _ _ Try.underlying9 (by omega) (by omega) (by show (a : Int) + 1 ≤ ((10 : Nat) : Int); omega), Int.toNat_natCast, show ((a : Int) + 1).toNat = a + 1 by omega, two_slices a h]

theorem ret_str {a b : ByteArray} (h : a = b) : Ending.returned (.string a) = Ending.returned (.string b) := by rw [h]
theorem ret_pair {a b : ByteArray} {x : Value} (h : a = b) : Ending.returned (.tuple #[.string a, x]) = Ending.returned (.tuple #[.string b, x]) := by rw [h]
set_option maxHeartbeats 2000000 in
theorem two_any (n : Nat) (w : World) (h : n < 100) :
    Calls Try.prog 27 #[.int .i64 n] w fun e w' => e = .returned (.string ⟨(digs 2 n).toArray⟩) ∧ Below w.heap.size w w' := by
  obtain ⟨a, ha, ha9⟩ : ∃ a : Nat, (n : Int) / 10 = a ∧ a < 10 := ⟨n / 10, by omega, by omega⟩
  obtain ⟨b, hb, hb9⟩ : ∃ b : Nat, (n : Int) % 10 = b ∧ b < 10 := ⟨n % 10, by omega, by omega⟩
  have s1 := two_slice a ha9 ((n : Int) / 10) ((n : Int) / 10 + 1) ha (by omega)
  have s2 := two_slice b hb9 ((n : Int) % 10) ((n : Int) % 10 + 1) hb (by omega)
  have s3 := two_slice a ha9 (a : Int) ((a : Int) + 1) rfl rfl
  have s4 := two_slice b hb9 (b : Int) ((b : Int) + 1) rfl rfl
  have hd : digs 2 n = [dig a, dig b] := by
    simp only [digs, List.nil_append, dig]
    rw [show n / 10 % 10 = a % 10 by omega, show n % 10 = b % 10 by omega]
    rfl
  rw [hd]
  clear hd
  go_enter Try.func27, Try.ntmps27
  go_wp2
  go_quiet (fail)
  go_wp2
  go_ret
  refine ⟨ret_str (ByteArray.ext ?_), below_drewN (Below.refl _ _) nq⟩
  simp [ByteArray.data_append]

theorem digs_two (v : Nat) : ∃ a b, digs 2 v = [a, b] := ⟨_, _, rfl⟩
theorem refText_out (d : Int) (w : World) (h : d < -719162 ∨ 2932896 < d) :
    Calls Try.prog 19 #[.int .i64 d] w fun e w' => e = .returned (.tuple #[.string ⟨#[]⟩, .int .i64 6]) ∧ Below w.heap.size w w' := by
  go_enter Try.func19, Try.ntmps19
  go_wp2_with fail
  refine (refSplit_out d w h).mono ?_
  rintro e w' ⟨rfl, rfl⟩
  go_wp2
  go_ret2
  exact ⟨rfl, Below.refl _ _⟩

set_option maxHeartbeats 4000000 in
theorem refText_in (d : Int) (w : World) (h0 : -719162 ≤ d) (h1 : d ≤ 2932896) :
    Calls Try.prog 19 #[.int .i64 d] w fun e w' => Texts d e ∧ Below w.heap.size w w' := by
  go_enter Try.func19, Try.ntmps19
  go_wp2_with fail
  refine (refSplit_in d w h0 h1).mono ?_
  rintro e w' ⟨⟨y, m, a, rfl, hv, hd⟩, rfl⟩
  have HV := Lib.hid hv
  have HD := Lib.hid hd
  obtain ⟨v1, v2, v3, v4, v5, v6⟩ := hv
  have va : a ≤ 31 := Nat.le_trans v6 (dim_le y m).2
  clear hd v6
  have D1 := Lib.hid fun w => two_any (y / 100) w (by omega)
  have D2 := Lib.hid fun w => two_any (y % 100) w (by omega)
  have D3 := Lib.hid fun w => two_any m w (by omega)
  have D4 := Lib.hid fun w => two_any a w (by omega)
  have HT : Hid (∀ xs : ByteArray, xs.data.toList = digs 2 (y / 100) ++ digs 2 (y % 100) ++ [45] ++ digs 2 m ++ [45] ++ digs 2 a → Texts d (.returned (.tuple #[.string xs, .int .i64 0]))) := Lib.hid fun xs e => ⟨y, m, a, HV.out, HD.out, ret_pair (by
    apply ByteArray.ext
    rw [digs_four] at e
    rw [← Array.toArray_toList (xs := xs.data), e]
    rfl)⟩
  obtain ⟨a1, b1, e1⟩ := digs_two (y / 100)
  obtain ⟨a2, b2, e2⟩ := digs_two (y % 100)
  obtain ⟨a3, b3, e3⟩ := digs_two m
  obtain ⟨a4, b4, e4⟩ := digs_two a
  rw [e1] at D1 HT
  rw [e2] at D2 HT
  rw [e3] at D3 HT
  rw [e4] at D4 HT
  clear e1 e2 e3 e4
  go_wp2_with fail
  refine (D1.out w).mono ?_
  rintro e w1 ⟨rfl, hb1⟩
  go_wp2_with fail
  refine (D2.out w1).mono ?_
  rintro e w2 ⟨rfl, hb2⟩
  have hb02 := hb1.trans (hb2.mono hb1.size)
  go_wp2_with fail
  refine (D3.out w2).mono ?_
  rintro e w3 ⟨rfl, hb3⟩
  have hb03 := hb02.trans (hb3.mono hb02.size)
  go_wp2_with fail
  refine (D4.out w3).mono ?_
  rintro e w4 ⟨rfl, hb4⟩
  have hb04 := hb03.trans (hb4.mono hb03.size)
  go_wp2
  go_ret2
  exact ⟨HT.out _ (by simp [ByteArray.data_append]), hb04⟩
end Go.Proofs.Ytdadhpfaompmnaa
