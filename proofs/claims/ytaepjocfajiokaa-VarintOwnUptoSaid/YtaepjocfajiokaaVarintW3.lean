/-
  Contracts of the functions of layer 4 (varint) and of its reference: the reference's reading; numbers with sign; bytes.
-/
import Derived.Test.YtaepjocfajiokaaVarintW2
namespace Go.Proofs.Ytaepjocfajiokaa
open Go.RowKit
set_option linter.unusedVariables false

theorem refUint_range (A : Option Addr) (n c : Nat) (p : Int) (w : World) (xs : List UInt8) (h : RdB w A n xs) (hm : n ≤ 140737488355328) (hp : p < 0 ∨ (n : Int) < p) :
    Calls Try.prog 20 #[.slice A n c, .int .i64 p] w fun e w' => e = .returned (.tuple #[.int .u64 (uintAt xs p).1, .int .i64 (uintAt xs p).2.1, .int .i64 (uintAt xs p).2.2]) ∧ w = w' := by
  have e : uintAt xs p = (0, 0, 2) := by unfold uintAt; rw [h.len, if_pos hp]
  rw [e]
  rcases hp with hp | hp
  · go_enter Try.func20, Try.ntmps20
    go_wp2
    go_ret3
    exact ⟨rfl, rfl⟩
  · have hp0 : ¬ p < 0 := by omega
    go_enter Try.func20, Try.ntmps20
    go_wp2
    go_ret3
    exact ⟨rfl, rfl⟩

set_option maxRecDepth 100000 in
set_option maxHeartbeats 2000000 in
theorem refUint_in (A : Option Addr) (n c k : Nat) (w : World) (xs : List UInt8) (h : RdB w A n xs) (hc : n ≤ c) (hm : n ≤ 140737488355328) (hk : k ≤ n) :
    Calls Try.prog 20 #[.slice A n c, .int .i64 k] w fun e w' => e = .returned (.tuple #[.int .u64 (uintAt xs k).1, .int .i64 (uintAt xs k).2.1, .int .i64 (uintAt xs k).2.2]) ∧ w = w' := by
  have HL := Lib.hid h.len
  have HU := Lib.hid (uintAt_of xs k (by rw [h.len]; exact hk))
  generalize uintAt xs k = res at HU ⊢
  go_enter Try.func20, Try.ntmps20
  go_wp2
  go_loop [7, 8, 9] (fun t q i => ∃ (j u z : Nat), j ≤ n - k ∧ j ≤ 9 ∧ u < 128 ^ j ∧ Hid (dec 0 0 (xs.drop k) = dec j u (xs.drop (k + j))) ∧ Hid (z = 128 ^ j) ∧ t = .int .u64 u ∧ q = .int .u64 z ∧ i = .int .i64 j) (fun _ _ i => 10 - (intOf i).toNat)
  case atStart => exact ⟨0, 0, 1, by omega, by omega, by simp, by simp [Hid], by simp [Hid], rfl, rfl, rfl⟩
  case round =>
    obtain ⟨j, u, z, hj, hj9, hu, HD, HZ9, rfl, rfl, rfl⟩ := hrel
    have hj10 : j < 10 := by omega
    by_cases hlt : j < n - k
    · have hjx : k + j < xs.length := by have := HL.out; omega
      obtain ⟨b, off, rfl⟩ := h.addr (by omega)
      have hcx := h.cells (k + j) hjx
      have Hd := Lib.hid (List.drop_eq_getElem_cons hjx)
      generalize xs[k + j] = x at hcx Hd
      have hx : x.toNat < 256 := x.toNat_lt
      have HDx : Hid (dec 0 0 (xs.drop k) = dec j u (x :: xs.drop (k + j + 1))) := by have := HD.out; rw [Hd.out] at this; exact this
      by_cases hA : j = 9 ∧ 1 < x.toNat
      · obtain ⟨h9, h1⟩ := hA
        have R : Hid (res = (0, 0, 11)) := by
          have := HU.out _ HDx.out
          rw [h9, dec_stop9 _ _ _ h1] at this
          exact this
        have h9' : ((j : Int) == 9) = true := by rw [beq_iff_eq]; omega
        have h9'' : 9 ≤ j := by omega
        clear h9
        go_wp2
        go_ret3
        exact ⟨by rw [R.out]; rfl, rfl⟩
      · have hor := orSeven j u (x.toNat % 128) hj9 hu (Nat.mod_lt _ (by decide)) (fun h => by omega)
        obtain ⟨t, ht⟩ : ∃ t : Nat, Hid (t = x.toNat % 128 * 128 ^ j) := ⟨_, rfl⟩
        have hor2 := hor.2.1
        rw [← ht.out] at hor2
        have Hor3 := Lib.hid hor.2.2
        have hmul : IntKind.u64.wrap ((x.toNat : Int) % 128 * (z : Int)) = (t : Int) := by
          have e1 : ((x.toNat : Int) % 128 * (z : Int)) = ((x.toNat % 128 * z : Nat) : Int) := by push_cast; rfl
          rw [e1, HZ9.out, ← ht.out]
          have e2 : ∀ x, IntKind.u64.wrap x = x % 18446744073709551616 := fun x => by simp [IntKind.wrap, IntKind.bits, IntKind.signed]
          rw [e2]
          omega
        clear hor
        have Hres : Hid (x.toNat < 128 → (x.toNat = 0 → j = 0) → res = (u + t, (k : Int) + (j + 1 : Nat), 0)) := fun h1 h2 => by
          have := HU.out _ HDx.out
          rw [dec_ok j u x _ h1 (fun h => by omega) h2] at this
          rw [this, ht.out]
          rfl
        have Hres0 : Hid (x.toNat = 0 → 0 < j → res = (0, 0, 11)) := fun h1 h2 => by
          have := HU.out _ HDx.out
          rw [dec_zero j u x _ h1 h2] at this
          exact this
        have hz64 : z ≤ 9223372036854775808 := by
          rw [HZ9.out]
          exact Nat.le_trans (Nat.pow_le_pow_right (by omega) hj9) (by decide)
        by_cases hs : x.toNat < 128
        · by_cases h9 : j = 9
          · have hx1 : x.toNat ≤ 1 := by omega
            have h9' : ((j : Int) == 9) = true := by rw [beq_iff_eq]; omega
            have h9'' : 9 ≤ j := by omega
            clear h9 hA
            by_cases hz : x.toNat = 0
            · have hz' : ((x.toNat : Int) == 0) = true := by rw [beq_iff_eq]; omega
              have HZ := Lib.hid hz
              clear hz
              go_wp2
              go_ret3
              exact ⟨by rw [Hres0.out HZ.out (by omega)]; rfl, rfl⟩
            · have hz' : ((x.toNat : Int) == 0) = false := by rw [beq_eq_false_iff_ne]; omega
              have HZ := Lib.hid hz
              clear hz
              go_wp2
              go_ret3
              exact ⟨by rw [Hres.out hs (fun h => absurd h HZ.out)]; simp; omega, rfl⟩
          · have h9' : ((j : Int) == 9) = false := by rw [beq_eq_false_iff_ne]; omega
            clear hA
            by_cases hz : x.toNat = 0
            · have hz' : ((x.toNat : Int) == 0) = true := by rw [beq_iff_eq]; omega
              have HZ := Lib.hid hz
              clear hz
              by_cases hj0 : 0 < j
              · go_wp2
                go_ret3
                exact ⟨by rw [Hres0.out HZ.out (by omega)]; rfl, rfl⟩
              · go_wp2
                go_ret3
                exact ⟨by rw [Hres.out hs (fun h => by omega)]; simp; omega, rfl⟩
            · have hz' : ((x.toNat : Int) == 0) = false := by rw [beq_eq_false_iff_ne]; omega
              have HZ := Lib.hid hz
              clear hz
              go_wp2
              go_ret3
              exact ⟨by rw [Hres.out hs (fun h => absurd h HZ.out)]; simp; omega, rfl⟩
        · have h9 : j < 9 := by omega
          have h9' : ((j : Int) == 9) = false := by rw [beq_eq_false_iff_ne]; omega
          have hz56 : z ≤ 72057594037927936 := by
            rw [HZ9.out]
            exact Nat.le_trans (Nat.pow_le_pow_right (by omega) (show j ≤ 8 by omega)) (by decide)
          clear hA
          go_wp2
          go_round
          case rel =>
            refine ⟨j + 1, u + t, z * 128, by omega, by omega, by rw [ht.out]; exact Hor3.out h9, ?_, ?_, by go_num, by go_num, by go_num⟩
            · have := HDx.out
              rw [dec_more j u x _ hs (by omega), ← ht.out] at this
              exact this
            · unfold Hid; rw [HZ9.out, Nat.pow_succ]
          case measure => simp [intOf]; omega
    · have hjx : k + j = xs.length := by have := HL.out; omega
      have R : Hid (res = (0, 0, 10)) := by
        have := HU.out _ HD.out
        rw [List.drop_of_length_le (by omega)] at this
        exact this
      clear hjx
      go_wp2
      go_ret3
      exact ⟨by rw [R.out]; rfl, rfl⟩

theorem Uint_any (A : Option Addr) (n c : Nat) (p : Int) (w : World) (xs : List UInt8) (h : RdB w A n xs) (hc : n ≤ c) (hm : n ≤ 140737488355328) :
    Calls Try.prog 9 #[.slice A n c, .int .i64 p] w fun e w' => e = .returned (.tuple #[.int .u64 (uintAt xs p).1, .int .i64 (uintAt xs p).2.1, .int .i64 (uintAt xs p).2.2]) ∧ w = w' := by
  by_cases hp : p < 0 ∨ (n : Int) < p
  · exact Uint_range A n c p w xs h hm hp
  · obtain ⟨k, rfl⟩ := Int.eq_ofNat_of_zero_le (show 0 ≤ p by omega)
    exact Uint_in A n c k w xs h hc hm (by omega)
theorem refUint_any (A : Option Addr) (n c : Nat) (p : Int) (w : World) (xs : List UInt8) (h : RdB w A n xs) (hc : n ≤ c) (hm : n ≤ 140737488355328) :
    Calls Try.prog 20 #[.slice A n c, .int .i64 p] w fun e w' => e = .returned (.tuple #[.int .u64 (uintAt xs p).1, .int .i64 (uintAt xs p).2.1, .int .i64 (uintAt xs p).2.2]) ∧ w = w' := by
  by_cases hp : p < 0 ∨ (n : Int) < p
  · exact refUint_range A n c p w xs h hm hp
  · obtain ⟨k, rfl⟩ := Int.eq_ofNat_of_zero_le (show 0 ≤ p by omega)
    exact refUint_in A n c k w xs h hc hm (by omega)

/-! ### What a number that was read is -/
theorem dec_bounds (r : List UInt8) : ∀ (i u : Nat), i ≤ 9 → u < 128 ^ i → (dec i u r).2.2 = 0 → (dec i u r).1 < 18446744073709551616 ∧ i < (dec i u r).2.1 ∧ (dec i u r).2.1 ≤ i + r.length := by
  intro i u hi hu h
  obtain ⟨q, e1, _, e3, e4, _, _, e7, e8⟩ := vform_dec r i u (dec i u r).1 (dec i u r).2.1 hi hu (by rw [← h])
  refine ⟨?_, e3, e4⟩
  rw [e1]
  by_cases h9 : i = 9
  · subst h9
    have := e7 rfl
    have h2 : q * 128 ^ 9 ≤ 1 * 128 ^ 9 := Nat.mul_le_mul_right _ (by omega)
    omega
  · have h1 : q + 1 ≤ 128 ^ (9 - i) * 2 := e8
    have h2 : (q + 1) * 128 ^ i ≤ 128 ^ (9 - i) * 2 * 128 ^ i := Nat.mul_le_mul_right _ h1
    have h3 : 128 ^ (9 - i) * 2 * 128 ^ i = 128 ^ 9 * 2 := by
      rw [Nat.mul_right_comm, ← Nat.pow_add]
      congr 2
      omega
    rw [h3, Nat.add_mul] at h2
    omega
/-- The number fits, the place behind it is in the bytes; where nothing is read both are nought. -/
theorem uintAt_bounds (xs : List UInt8) (p : Int) : (uintAt xs p).1 < 18446744073709551616 ∧ ((uintAt xs p).2.2 = 0 → p < (uintAt xs p).2.1 ∧ 0 ≤ p ∧ (uintAt xs p).2.1 ≤ xs.length) ∧ ((uintAt xs p).2.2 ≠ 0 → (uintAt xs p).1 = 0 ∧ (uintAt xs p).2.1 = 0) ∧ 0 ≤ (uintAt xs p).2.2 ∧ (uintAt xs p).2.2 ≤ 11 := by
  unfold uintAt
  split
  · simp
  · rename_i hp
    obtain ⟨k, rfl⟩ := Int.eq_ofNat_of_zero_le (show 0 ≤ p by omega)
    simp only [Int.toNat_natCast]
    split
    · rename_i he
      have := dec_bounds (xs.drop k) 0 0 (by omega) (by simp) he
      rw [List.length_drop] at this
      refine ⟨this.1, fun _ => ⟨by simp; omega, by omega, by simp; omega⟩, fun h => absurd rfl h, by simp, by simp⟩
    · rename_i he
      have hle : ∀ (r : List UInt8) (i u : Nat), (dec i u r).2.2 ≤ 11 := by
        intro r
        induction r with
        | nil => intro i u; simp [dec]
        | cons x r ih =>
          intro i u
          unfold dec
          split
          · simp
          · split
            · split <;> simp
            · exact ih _ _
      refine ⟨by simp, fun h => ?_, fun _ => ⟨rfl, rfl⟩, by simp, by simp; exact_mod_cast hle _ _ _⟩
      simp only at h
      omega

theorem i64_xor_ones (a : Int) (h0 : 0 ≤ a) (h1 : a < 9223372036854775808) : bits .xor .i64 a (-1) = -a - 1 := by
  obtain ⟨n, rfl⟩ := Int.eq_ofNat_of_zero_le h0
  have e1 : (BitVec.ofInt 64 (n : Int)).toNat = n := by rw [BitVec.ofInt_natCast, BitVec.toNat_ofNat]; exact Nat.mod_eq_of_lt (by omega)
  show IntKind.i64.wrap ((BitVec.ofInt 64 (n : Int) ^^^ BitVec.ofInt 64 (-1)).toNat : Int) = _
  have e2 : (BitVec.ofInt 64 (-1)).toNat = 18446744073709551615 := by decide +kernel
  rw [BitVec.toNat_xor, e1, e2, xorOnes n (by omega), IntKind.wrap_i64]
  omega
theorem i64_xor_zero (a : Int) (h0 : 0 ≤ a) (h1 : a < 9223372036854775808) : bits .xor .i64 a 0 = a := by
  obtain ⟨n, rfl⟩ := Int.eq_ofNat_of_zero_le h0
  have e1 : (BitVec.ofInt 64 (n : Int)).toNat = n := by rw [BitVec.ofInt_natCast, BitVec.toNat_ofNat]; exact Nat.mod_eq_of_lt (by omega)
  show IntKind.i64.wrap ((BitVec.ofInt 64 (n : Int) ^^^ BitVec.ofInt 64 0).toNat : Int) = _
  have e2 : (BitVec.ofInt 64 0).toNat = 0 := by decide +kernel
  rw [BitVec.toNat_xor, e1, e2, Nat.xor_zero, IntKind.wrap_i64]
  omega

theorem zagBits (v : Nat) (hv : v < 18446744073709551616) : bits .xor .i64 ((v : Int) / 2) (wrap64 (-wrap64 (bits .and .u64 (v : Int) 1))) = zag v := by
  have h1 := u64_and_nat v 1 hv (by omega)
  rw [nat_mask1] at h1
  have h2 : bits .and .u64 (v : Int) 1 = ((v % 2 : Nat) : Int) := h1
  rw [h2]
  unfold zag
  by_cases h : v % 2 = 0
  · rw [if_pos h, h, show wrap64 (-wrap64 ((0 : Nat) : Int)) = 0 from by unfold wrap64; decide, i64_xor_zero _ (by omega) (by omega)]
    omega
  · have h' : v % 2 = 1 := by omega
    rw [if_neg h, h', show wrap64 (-wrap64 ((1 : Nat) : Int)) = -1 from by unfold wrap64; decide, i64_xor_ones _ (by omega) (by omega)]
    omega

theorem Int_any (A : Option Addr) (n c : Nat) (p : Int) (w : World) (xs : List UInt8) (h : RdB w A n xs) (hc : n ≤ c) (hm : n ≤ 140737488355328) :
    Calls Try.prog 19 #[.slice A n c, .int .i64 p] w fun e w' => e = .returned (.tuple #[.int .i64 (zag (uintAt xs p).1), .int .i64 (uintAt xs p).2.1, .int .i64 (uintAt xs p).2.2]) ∧ w = w' := by
  have HU := Lib.hid (Uint_any A n c p w xs h hc hm)
  have hb := (uintAt_bounds xs p).1
  generalize uintAt xs p = res at HU hb ⊢
  obtain ⟨v, nx, er⟩ := res
  simp only at hb HU ⊢
  go_enter Try.func19, Try.ntmps19
  go_wp2_with (go_at_call 9; refine HU.out.mono ?_; rintro e w1 ⟨rfl, rfl⟩)
  go_ret3
  exact ⟨by rw [zagBits v hb]; rfl, rfl⟩
theorem refInt_any (A : Option Addr) (n c : Nat) (p : Int) (w : World) (xs : List UInt8) (h : RdB w A n xs) (hc : n ≤ c) (hm : n ≤ 140737488355328) :
    Calls Try.prog 21 #[.slice A n c, .int .i64 p] w fun e w' => e = .returned (.tuple #[.int .i64 (zag (uintAt xs p).1), .int .i64 (uintAt xs p).2.1, .int .i64 (uintAt xs p).2.2]) ∧ w = w' := by
  have HU := Lib.hid (refUint_any A n c p w xs h hc hm)
  have hb := (uintAt_bounds xs p).1
  have hb2 := (uintAt_bounds xs p).2.2.1
  generalize uintAt xs p = res at HU hb hb2 ⊢
  obtain ⟨v, nx, er⟩ := res
  simp only at hb HU hb2 ⊢
  by_cases he : er = 0
  · subst he
    by_cases hv : v % 2 = 0
    · have hv' : ((v : Int) % 2 == 0) = true := by rw [beq_iff_eq]; omega
      have HV := Lib.hid hv
      clear hv hb2
      go_enter Try.func21, Try.ntmps21
      go_wp2_with (go_at_call 20; refine HU.out.mono ?_; rintro e w1 ⟨rfl, rfl⟩)
      go_ret3
      refine ⟨?_, rfl⟩
      have := HV.out
      unfold zag
      rw [if_pos this]
      rfl
    · have hv' : ((v : Int) % 2 == 0) = false := by rw [beq_eq_false_iff_ne]; omega
      have HV := Lib.hid hv
      clear hv hb2
      go_enter Try.func21, Try.ntmps21
      go_wp2_with (go_at_call 20; refine HU.out.mono ?_; rintro e w1 ⟨rfl, rfl⟩)
      go_ret3
      refine ⟨?_, rfl⟩
      have := HV.out
      unfold zag
      rw [if_neg this]
      rfl
  · have he' : (er != 0) = true := by rw [bne_iff_ne]; exact he
    have H2 := Lib.hid (hb2 he)
    clear hb2
    go_enter Try.func21, Try.ntmps21
    go_wp2_with (go_at_call 20; refine HU.out.mono ?_; rintro e w1 ⟨rfl, rfl⟩)
    go_ret3
    refine ⟨?_, rfl⟩
    rw [H2.out.1, H2.out.2]
    rfl

/-! ### Bytes -/
/-- Bytes at a place, at most so many: they, the place behind them, the error's number. -/
def bytesOf (xs : List UInt8) (r : Nat × Int × Int) (most : Int) : List UInt8 × Int × Int :=
  if r.2.2 ≠ 0 then ([], 0, r.2.2)
  else if most < 0 ∨ most < r.1 then ([], 0, 3)
  else if (xs.length : Int) - r.2.1 < r.1 then ([], 0, 10)
  else ((xs.drop r.2.1.toNat).take r.1, r.2.1 + r.1, 0)
def bytesAt (xs : List UInt8) (p most : Int) : List UInt8 × Int × Int := bytesOf xs (uintAt xs p) most

def Reads (w : World) (r : List UInt8 × Int × Int) (e : Ending) (w' : World) : Prop :=
  ∃ v, e = .returned (.tuple #[v, .int .i64 r.2.1, .int .i64 r.2.2]) ∧ OwnB w' w.heap.size v r.1 ∧ Below w.heap.size w w'
theorem Reads.fails {w w' : World} {p : Int} (hb : Below w.heap.size w w') : Reads w ([], 0, p) (.returned (.tuple #[.slice none 0 0, .int .i64 0, .int .i64 p])) w' :=
  ⟨_, rfl, OwnB.nil _ _, hb⟩

theorem cut_lhm {w : World} {A : Option Addr} {n : Nat} {xs : List UInt8} (h : RdB w A n xs) (c : Nat) (hc : n ≤ c) (i j : Nat) (hij : i ≤ j) (hj : j ≤ n) (I J : Int) (hI : I = (i : Int)) (hJ : J = (j : Int)) :
    ∃ A', (∀ W, (Instr.slice 22 (.slice A n c) (some (.int .i64 I)) (some (.int .i64 J)) (some (.int .i64 J))).run Try.prog W = .ok (.slice A' (j - i) (j - i)) W) ∧ RdB w A' (j - i) ((xs.drop i).take (j - i)) := by
  by_cases he : j = i
  · refine ⟨A, fun W => ?_, ?_⟩
    · subst hI hJ
      rw [run_slice_lhm W 22 A n c elemUnd .i64 .i64 .i64 _ _ _ (by omega) (by omega) (by omega) (by omega), elemSize]
      simp [Result.andThen, sliced, he]
    · subst he
      simp only [Nat.sub_self, List.take_zero]
      exact RdB.nil _ _
  · have hr := h.cut hij hj hc
    rw [if_neg (by omega)] at hr
    refine ⟨_, fun W => ?_, hr⟩
    subst hI hJ
    rw [run_slice_lhm W 22 A n c elemUnd .i64 .i64 .i64 _ _ _ (by omega) (by omega) (by omega) (by omega), elemSize]
    simp [Result.andThen, sliced, he]

set_option maxHeartbeats 1000000 in
theorem Bytes_any (A : Option Addr) (n c : Nat) (p most : Int) (w : World) (xs : List UInt8) (h : RdB w A n xs) (hc : n ≤ c) (hm : n ≤ 140737488355328) (hp0 : -9223372036854775808 ≤ most) (hp1 : most ≤ 9223372036854775807) :
    Calls Try.prog 18 #[.slice A n c, .int .i64 p, .int .i64 most] w (Reads w (bytesAt xs p most)) := by
  have HU := Lib.hid (Uint_any A n c p w xs h hc hm)
  have hb := (uintAt_bounds xs p).1
  have hb2 := (uintAt_bounds xs p).2.1
  have HL := Lib.hid h.len
  unfold bytesAt
  generalize uintAt xs p = res at HU hb hb2 ⊢
  obtain ⟨v, nx, er⟩ := res
  simp only at hb HU hb2
  generalize hR : bytesOf xs (v, nx, er) most = out
  have HR : Hid (bytesOf xs (v, nx, er) most = out) := hR
  clear hR
  have R := Lib.hid (fun q => Reads.fails (w := w) (p := q) (Below.refl _ _))
  by_cases he : er = 0
  · subst he
    have hb3 := hb2 rfl
    clear hb2
    obtain ⟨k, rfl⟩ := Int.eq_ofNat_of_zero_le (show 0 ≤ nx by omega)
    have hkn : k ≤ n := by have := HL.out; omega
    clear hb3
    by_cases hmost : most < 0 ∨ most < v
    · have E : Hid (out = ([], 0, 3)) := by have := HR.out; rw [bytesOf, if_neg (by simp), if_pos hmost] at this; exact this.symm
      rcases hmost with hmost | hmost
      · go_enter Try.func18, Try.ntmps18
        go_wp2_with (go_at_call 9; refine HU.out.mono ?_; rintro e w1 ⟨rfl, rfl⟩)
        go_ret3
        rw [E.out]
        exact R.out 3
      · by_cases hm0 : most < 0
        all_goals
          go_enter Try.func18, Try.ntmps18
          go_wp2_with (go_at_call 9; refine HU.out.mono ?_; rintro e w1 ⟨rfl, rfl⟩)
          go_ret3
          rw [E.out]
          exact R.out 3
    · have hm0 : ¬ most < 0 := by omega
      have hmv : ¬ most < v := by omega
      by_cases hshort : (n : Int) - k < v
      · have E : Hid (out = ([], 0, 10)) := by have := HR.out; rw [bytesOf, if_neg (by simp), if_neg hmost, if_pos (by rw [HL.out]; exact hshort)] at this; exact this.symm
        clear hmost
        go_enter Try.func18, Try.ntmps18
        go_wp2_with (go_at_call 9; refine HU.out.mono ?_; rintro e w1 ⟨rfl, rfl⟩)
        go_ret3
        rw [E.out]
        exact R.out 10
      · have E : Hid (out = ((xs.drop k).take v, (k : Int) + v, 0)) := by have := HR.out; rw [bytesOf, if_neg (by simp), if_neg hmost, if_neg (by rw [HL.out]; exact hshort)] at this; exact this.symm
        obtain ⟨A1, s1, r1⟩ := cut_lhm h c hc k (k + v) (by omega) (by omega) (k : Int) ((k : Int) + v) rfl (by omega)
        rw [Nat.add_sub_cancel_left] at r1
        simp only [Nat.add_sub_cancel_left] at s1
        clear hmost
        go_enter Try.func18, Try.ntmps18
        go_wp2_with (first | (go_at_call 9; refine HU.out.mono ?_; rintro e w1 ⟨rfl, rfl⟩) | (go_at_call 26; refine (clone_any A1 v v w _ r1 (by omega)).mono ?_; rintro e w2 ⟨v2, rfl, hv2, hb2⟩))
        go_ret3
        rw [E.out]
        exact ⟨v2, rfl, hv2, hb2⟩
  · have E : Hid (out = ([], 0, er)) := by have := HR.out; rw [bytesOf, if_pos he] at this; exact this.symm
    have he' : (er != 0) = true := by rw [bne_iff_ne]; exact he
    clear hb2
    go_enter Try.func18, Try.ntmps18
    go_wp2_with (go_at_call 9; refine HU.out.mono ?_; rintro e w1 ⟨rfl, rfl⟩)
    go_ret3
    rw [E.out]
    exact R.out er

set_option maxHeartbeats 1000000 in
theorem refBytes_any (A : Option Addr) (n c : Nat) (p most : Int) (w : World) (xs : List UInt8) (h : RdB w A n xs) (hc : n ≤ c) (hm : n ≤ 140737488355328) (hp0 : -9223372036854775808 ≤ most) (hp1 : most ≤ 9223372036854775807) :
    Calls Try.prog 22 #[.slice A n c, .int .i64 p, .int .i64 most] w (Reads w (bytesAt xs p most)) := by
  have HU := Lib.hid (refUint_any A n c p w xs h hc hm)
  have hb := (uintAt_bounds xs p).1
  have hb2 := (uintAt_bounds xs p).2.1
  have HL := Lib.hid h.len
  unfold bytesAt
  generalize uintAt xs p = res at HU hb hb2 ⊢
  obtain ⟨v, nx, er⟩ := res
  simp only at hb HU hb2
  generalize hR : bytesOf xs (v, nx, er) most = out
  have HR : Hid (bytesOf xs (v, nx, er) most = out) := hR
  clear hR
  have R := Lib.hid (fun q => Reads.fails (w := w) (p := q) (Below.refl _ _))
  by_cases he : er = 0
  · subst he
    have hb3 := hb2 rfl
    clear hb2
    obtain ⟨k, rfl⟩ := Int.eq_ofNat_of_zero_le (show 0 ≤ nx by omega)
    have hkn : k ≤ n := by have := HL.out; omega
    clear hb3
    by_cases hmost : most < 0 ∨ most < v
    · have E : Hid (out = ([], 0, 3)) := by have := HR.out; rw [bytesOf, if_neg (by simp), if_pos hmost] at this; exact this.symm
      rcases hmost with hmost | hmost
      · go_enter Try.func22, Try.ntmps22
        go_wp2_with (go_at_call 20; refine HU.out.mono ?_; rintro e w1 ⟨rfl, rfl⟩)
        go_ret3
        rw [E.out]
        exact R.out 3
      · by_cases hm0 : most < 0
        all_goals
          go_enter Try.func22, Try.ntmps22
          go_wp2_with (go_at_call 20; refine HU.out.mono ?_; rintro e w1 ⟨rfl, rfl⟩)
          go_ret3
          rw [E.out]
          exact R.out 3
    · have hm0 : ¬ most < 0 := by omega
      have hmv : ¬ most < v := by omega
      by_cases hshort : (n : Int) - k < v
      · have E : Hid (out = ([], 0, 10)) := by have := HR.out; rw [bytesOf, if_neg (by simp), if_neg hmost, if_pos (by rw [HL.out]; exact hshort)] at this; exact this.symm
        clear hmost
        go_enter Try.func22, Try.ntmps22
        go_wp2_with (go_at_call 20; refine HU.out.mono ?_; rintro e w1 ⟨rfl, rfl⟩)
        go_ret3
        rw [E.out]
        exact R.out 10
      · have E : Hid (out = ((xs.drop k).take v, (k : Int) + v, 0)) := by have := HR.out; rw [bytesOf, if_neg (by simp), if_neg hmost, if_neg (by rw [HL.out]; exact hshort)] at this; exact this.symm
        obtain ⟨A1, s1, r1⟩ := cut_lh h c hc k (k + v) (by omega) (by omega) (k : Int) ((k : Int) + v) rfl (by omega)
        rw [Nat.add_sub_cancel_left] at r1
        simp only [Nat.add_sub_cancel_left] at s1
        clear hmost
        go_enter Try.func22, Try.ntmps22
        go_wp2_with (first | (go_at_call 20; refine HU.out.mono ?_; rintro e w1 ⟨rfl, rfl⟩) | (go_at_call 25; refine (copy_any A1 v (c - k) w _ r1 (by omega)).mono ?_; rintro e w2 ⟨v2, rfl, hv2, hb2⟩))
        go_ret3
        rw [E.out]
        exact ⟨v2, rfl, hv2, hb2⟩
  · have E : Hid (out = ([], 0, er)) := by have := HR.out; rw [bytesOf, if_pos he] at this; exact this.symm
    have he' : (er != 0) = true := by rw [bne_iff_ne]; exact he
    clear hb2
    go_enter Try.func22, Try.ntmps22
    go_wp2_with (go_at_call 20; refine HU.out.mono ?_; rintro e w1 ⟨rfl, rfl⟩)
    go_ret3
    rw [E.out]
    exact R.out er

theorem refAppendBytes_any (A : Option Addr) (n c : Nat) (xs : List UInt8) (A' : Option Addr) (n' c' : Nat) (ys : List UInt8) (w : World) (h : RdB w A n xs) (h' : RdB w A' n' ys) (hn : n + 10 + n' ≤ 140737488355328) :
    Calls Try.prog 17 #[.slice A n c, .slice A' n' c'] w fun e w' => ∃ v', e = .returned v' ∧ OwnB w' w.heap.size v' (xs ++ enc ys.length ++ ys) ∧ Below w.heap.size w w' := by
  have HE := Lib.hid (enc_length n')
  have HL := Lib.hid h.len
  have HL' := Lib.hid h'.len
  go_enter Try.func17, Try.ntmps17
  go_wp2_with fail
  refine (refAppendUint_any A n c n' w xs h (by omega) (by omega)).mono ?_
  rintro e w1 ⟨v1, rfl, hv1, hb1⟩
  go_wp2_with (at_builtin; refine app_u8 rfl _ _ rfl w.heap.size v1 _ rfl hv1 A' n' c' ys rfl (h'.below hb1) ?c1 hb1.size ?_)
  case c1 => have := HE.out; have := HL.out; simp; omega
  intro v2 w2 hv2 hb2 _
  go_wp2
  go_ret
  refine ⟨v2, rfl, ?_, hb1.trans hb2⟩
  rw [HL'.out]
  simpa using hv2
end Go.Proofs.Ytaepjocfajiokaa
