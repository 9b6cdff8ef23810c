/-
  Contracts of the functions of layer 6 (frame) and of its reference: numbers of four bytes, copies.
-/
import Derived.Test.YtcpojhckgoinmaaFrameW
namespace Go.Proofs.Ytcpojhckgoinmaa
open Go.RowKit
set_option linter.unusedVariables false

/-- A number, its lowest byte first. -/
def le4 (v : Nat) : List UInt8 := [UInt8.ofNat v, UInt8.ofNat (v / 256), UInt8.ofNat (v / 65536), UInt8.ofNat (v / 16777216)]
theorem le4_len (v : Nat) : (le4 v).length = 4 := rfl
def num4 (a b c d : UInt8) : Nat := a.toNat + 256 * (b.toNat + 256 * (c.toNat + 256 * d.toNat))
theorem num4_lt (a b c d : UInt8) : num4 a b c d < 4294967296 := by
  have := a.toNat_lt; have := b.toNat_lt; have := c.toNat_lt; have := d.toNat_lt
  unfold num4; omega
theorem le4_cells (v : Nat) (hv : v < 4294967296) : (#[.int .u8 ((v : Int) % 256), .int .u8 ((v : Int) / 256 % 256), .int .u8 ((v : Int) / 65536 % 256), .int .u8 ((v : Int) / 16777216)] : Array Value) = ((le4 v).map bv).toArray := by
  have h : v / 16777216 % 256 = v / 16777216 := Nat.mod_eq_of_lt (by omega)
  have h' : (v : Int) / 16777216 % 256 = (v : Int) / 16777216 := by omega
  simp [le4, bv, h']

theorem put_any (v : Value) (xs : List UInt8) (n : Nat) (w : World) (base : Nat) (h : OwnB w base v xs) (hn : n < 4294967296) (hl : xs.length + 4 ≤ 140737488355328) (hbase : base ≤ w.heap.size) :
    Calls Try.prog 22 #[v, .int .u32 n] w fun e w' => ∃ v', e = .returned v' ∧ OwnB w' base v' (xs ++ le4 n) ∧ Below base w w' ∧ w.grownBy w' v.ownBlock := by
  go_enter Try.func22, Try.ntmps22
  obtain ⟨A, m, c, rfl, _⟩ := h.form
  go_wp2_with (at_builtin; refine app_u8 rfl _ _ rfl base _ xs rfl (h.alloc _) _ 4 4 (le4 n) rfl (RdB.lit w _ _ (le4_cells n hn) 4 rfl) ?c1 ?c2 ?_)
  case c1 => exact hl
  case c2 => simp; omega
  intro v1 w1 hv hb hg
  go_wp2
  go_ret
  exact ⟨v1, rfl, hv, ((Below.refl _ _).alloc hbase _).trans hb, grownBy_of_alloc hg⟩

theorem four_any (n : Nat) (w : World) (hn : n < 4294967296) :
    Calls Try.prog 23 #[.int .u32 n] w fun e w' => ∃ v, e = .returned v ∧ OwnB w' w.heap.size v (le4 n) ∧ Below w.heap.size w w' := by
  go_enter Try.func23, Try.ntmps23
  go_wp2
  go_ret
  refine ⟨_, rfl, ?_, (Below.refl _ _).alloc (Nat.le_refl _) _⟩
  rw [le4_cells n hn]
  exact OwnB.lit w (le4 n) (Nat.le_refl _) (by rw [le4_len]; decide)

theorem or4 (a b c d : Nat) (ha : a < 256) (hb : b < 256) (hc : c < 256) (hd : d < 256) :
    bits .or .u32 (bits .or .u32 (bits .or .u32 (a : Int) ((b : Int) * 256)) ((c : Int) * 65536)) ((d : Int) * 16777216) = ((a + 256 * (b + 256 * (c + 256 * d)) : Nat) : Int) := by
  have j1 := nat_join 8 (b * 256) a (by omega) (by omega)
  have h1 := u32_or_nat a (b * 256) (by omega) (by omega)
  rw [Nat.or_comm, j1] at h1
  have j2 := nat_join 16 (c * 65536) (b * 256 + a) (by omega) (by omega)
  have h2 := u32_or_nat (b * 256 + a) (c * 65536) (by omega) (by omega)
  rw [Nat.or_comm, j2] at h2
  have j3 := nat_join 24 (d * 16777216) (c * 65536 + (b * 256 + a)) (by omega) (by omega)
  have h3 := u32_or_nat (c * 65536 + (b * 256 + a)) (d * 16777216) (by omega) (by omega)
  rw [Nat.or_comm, j3] at h3
  have e1 : ((b : Int) * 256) = ((b * 256 : Nat) : Int) := by omega
  have e2 : ((c : Int) * 65536) = ((c * 65536 : Nat) : Int) := by omega
  have e3 : ((d : Int) * 16777216) = ((d * 16777216 : Nat) : Int) := by omega
  rw [e1, e2, e3, h1, h2, h3]
  omega

set_option maxHeartbeats 400000 in
theorem get_any (b off n c : Nat) (w : World) (x0 x1 x2 x3 : UInt8) (ys : List UInt8) (h : RdB w (some ⟨b, off, none⟩) n (x0 :: x1 :: x2 :: x3 :: ys)) (hm : n ≤ 9223372036854775807) :
    Calls Try.prog 24 #[.slice (some ⟨b, off, none⟩) n c] w fun e w' => e = .returned (.int .u32 (num4 x0 x1 x2 x3 : Nat)) ∧ ∃ k, w' = w.drewN k := by
  have hl := h.len
  simp only [List.length_cons] at hl
  have HC := h.cells
  have hc0 := HC 0 (by simp)
  have hc1 := HC 1 (by simp)
  have hc2 := HC 2 (by simp)
  have hc3 := HC 3 (by simp)
  simp only [List.getElem_cons_zero, List.getElem_cons_succ, Nat.add_zero] at hc0 hc1 hc2 hc3
  have hn0 : (0 : Int) < (n : Int) := by omega
  have hn1 : (1 : Int) < (n : Int) := by omega
  have hn2 : (2 : Int) < (n : Int) := by omega
  have hn3 : (3 : Int) < (n : Int) := by omega
  have b0 : x0.toNat < 256 := x0.toNat_lt
  have b1 : x1.toNat < 256 := x1.toNat_lt
  have b2 : x2.toNat < 256 := x2.toNat_lt
  have b3 : x3.toNat < 256 := x3.toNat_lt
  clear HC hl
  go_enter Try.func24, Try.ntmps24
  go_wp2
  go_quiet (fail)
  go_wp2
  go_ret
  exact ⟨ret_int (or4 _ _ _ _ b0 b1 b2 b3), nq, rfl⟩

set_option maxHeartbeats 400000 in
theorem number_any (b off n c : Nat) (w : World) (x0 x1 x2 x3 : UInt8) (ys : List UInt8) (h : RdB w (some ⟨b, off, none⟩) n (x0 :: x1 :: x2 :: x3 :: ys)) (hm : n ≤ 9223372036854775807) :
    Calls Try.prog 26 #[.slice (some ⟨b, off, none⟩) n c] w fun e w' => e = .returned (.int .u32 (num4 x0 x1 x2 x3 : Nat)) ∧ ∃ k, w' = w.drewN k := by
  have hl := h.len
  simp only [List.length_cons] at hl
  have HC := h.cells
  have hc0 := HC 0 (by simp)
  have hc1 := HC 1 (by simp)
  have hc2 := HC 2 (by simp)
  have hc3 := HC 3 (by simp)
  simp only [List.getElem_cons_zero, List.getElem_cons_succ, Nat.add_zero] at hc0 hc1 hc2 hc3
  have hn0 : (0 : Int) < (n : Int) := by omega
  have hn1 : (1 : Int) < (n : Int) := by omega
  have hn2 : (2 : Int) < (n : Int) := by omega
  have hn3 : (3 : Int) < (n : Int) := by omega
  have b0 : x0.toNat < 256 := x0.toNat_lt
  have b1 : x1.toNat < 256 := x1.toNat_lt
  have b2 : x2.toNat < 256 := x2.toNat_lt
  have b3 : x3.toNat < 256 := x3.toNat_lt
  clear HC hl
  go_enter Try.func26, Try.ntmps26
  go_wp2
  go_quiet (fail)
  go_wp2
  go_ret
  exact ⟨ret_int (by unfold num4; omega), nq, rfl⟩

theorem same_any (A : Option Addr) (n c : Nat) (xs : List UInt8) (A' : Option Addr) (n' c' : Nat) (ys : List UInt8) (w : World) (h : RdB w A n xs) (h' : RdB w A' n' ys) :
    Calls Try.prog 15 #[.slice A n c, .slice A' n' c'] w fun e w' => e = .returned (.bool (decide (xs = ys))) ∧ w = w' := by
  have k1 := h.conv (P := Try.prog) (src := 22) (dst := 9) Try.underlying22 Try.underlying5 Try.underlying9 c
  have k2 := h'.conv (P := Try.prog) (src := 22) (dst := 9) Try.underlying22 Try.underlying5 Try.underlying9 c'
  go_enter Try.func15, Try.ntmps15
  go_wp2
  go_ret
  exact ⟨ret_bool (by by_cases h : xs = ys <;> simp [h]), rfl⟩

theorem clone_any (A : Option Addr) (n c : Nat) (w : World) (xs : List UInt8) (h : RdB w A n xs) (hn : n ≤ 140737488355328) :
    Calls Try.prog 25 #[.slice A n c] w fun e w' => ∃ v, e = .returned v ∧ OwnB w' w.heap.size v xs ∧ Below w.heap.size w w' := by
  have hl := h.len
  cases A with
  | none =>
    have qn := fun (w : World) (a : Option Addr) (n c n' c' : Nat) => Lib.run_eql_slice_nil (P := Try.prog) w 22 5 a n c n' c' Try.underlying22
    go_enter Try.func25, Try.ntmps25
    go_wp2
    go_ret
    obtain rfl : n = 0 := by
      rcases Nat.eq_zero_or_pos n with h0 | h0
      · exact h0
      · obtain ⟨b, off, e⟩ := h.addr h0; cases e
    obtain rfl : xs = [] := List.eq_nil_of_length_eq_zero hl
    exact ⟨_, rfl, OwnB.nil _ _, Below.refl _ _⟩
  | some a =>
    have qn := fun (w : World) (a : Option Addr) (n c n' c' : Nat) => Lib.run_eql_slice_nil (P := Try.prog) w 22 5 a n c n' c' Try.underlying22
    go_enter Try.func25, Try.ntmps25
    go_wp2_with (at_builtin; refine app_u8 rfl _ _ rfl w.heap.size _ [] rfl (OwnB.empty w (Nat.le_refl _)) (some a) n c xs rfl (h.alloc _) ?c1 ?c2 ?_)
    case c1 => simp; omega
    case c2 => simp
    intro v w1 hv hb _
    go_wp2
    go_ret
    exact ⟨v, rfl, hv, ((Below.refl _ _).alloc (Nat.le_refl _) _).trans hb⟩
end Go.Proofs.Ytcpojhckgoinmaa
