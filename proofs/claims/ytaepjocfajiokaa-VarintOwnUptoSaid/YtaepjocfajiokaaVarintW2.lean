/-
  Contracts of the functions of layer 4 (varint) and of its reference: the reference's writing; how numbers are read.
-/
import Derived.Test.YtaepjocfajiokaaVarintW
namespace Go.Proofs.Ytaepjocfajiokaa
open Go.RowKit
set_option linter.unusedVariables false

set_option maxRecDepth 100000 in
set_option maxHeartbeats 1000000 in
theorem refAppendUint_any (A : Option Addr) (n c v : Nat) (w : World) (xs : List UInt8) (h : RdB w A n xs) (hv : v < 18446744073709551616) (hn : n + 10 ≤ 140737488355328) :
    Calls Try.prog 13 #[.slice A n c, .int .u64 v] w fun e w' => ∃ v', e = .returned v' ∧ OwnB w' w.heap.size v' (xs ++ enc v) ∧ Below w.heap.size w w' := by
  have HL := Lib.hid h.len
  have HV := Lib.hid hv
  go_enter Try.func13, Try.ntmps13
  go_wp2_with (go_at_call 25; refine (copy_any A n c w xs h (by omega)).mono ?_; rintro e w1 ⟨v1, rfl, hv1, hb1⟩)
  go_loopw [1, 5] (fun t o wr => ∃ (q : Nat) (pre : List UInt8), pre.length ≤ 9 ∧ Hid (enc v = pre ++ vform (9 - pre.length) q) ∧ Hid (q * 128 ^ pre.length ≤ v) ∧ t = .int .u64 q ∧ OwnB wr w.heap.size o (xs ++ pre) ∧ Below w.heap.size w wr) (fun t _ _ => (intOf t).toNat)
  case atStart => exact ⟨v, [], by simp, rfl, (by simp [Hid]), rfl, by simpa using hv1, hb1⟩
  case round =>
    obtain ⟨q, pre, hpl, HE, HQ, rfl, hown, hb⟩ := hrel
    have hq64 : q < 18446744073709551616 := by
      have h1 : 1 ≤ 128 ^ pre.length := Nat.one_le_pow _ _ (by omega)
      have h2 : q * 1 ≤ q * 128 ^ pre.length := Nat.mul_le_mul_left q h1
      have := HQ.out; have := HV.out
      omega
    have hsz := hb.size
    by_cases hlt : 128 ≤ q
    · have hp9 : pre.length < 9 := by
        rcases Nat.lt_or_ge pre.length 9 with h | h
        · exact h
        · have e9 : pre.length = 9 := by omega
          have := HQ.out
          rw [e9] at this
          have := HV.out
          omega
      obtain ⟨x, hx⟩ : ∃ x : UInt8, Hid (x = UInt8.ofNat (q % 128 + 128)) := ⟨_, rfl⟩
      have hlit : Hid ((#[.int .u8 ((q : Int) % 128 + 128)] : Array Value) = ([x].map bv).toArray) := by
        unfold Hid
        simp only [List.map_cons, List.map_nil, bv]
        rw [hx.out, u8_ofNat _ (by omega)]
        rfl
      go_wp2_with (at_builtin; refine app_u8 rfl _ _ rfl w.heap.size _ (xs ++ pre) rfl (hown.alloc _) _ 1 1 [x] rfl (RdB.lit wr _ _ hlit.out 1 rfl) ?c1 ?c2 ?_)
      case c1 => have := HL.out; simp; omega
      case c2 => simp; omega
      intro v2 w2 hv2 hb2 _
      go_wp2
      go_roundw
      case rel =>
        refine ⟨q / 128, pre ++ [x], by simp; omega, ?_, ?_, rfl, by rw [← List.append_assoc]; simpa using hv2, (below_alloc hb _).trans hb2⟩
        · have e : 9 - pre.length = (9 - (pre ++ [x]).length) + 1 := by simp; omega
          have := HE.out
          rw [e, vform, if_neg (by omega)] at this
          unfold Hid
          rw [this, hx.out]
          simp
        · have := HQ.out
          have h2 : q / 128 * 128 ^ (pre.length + 1) ≤ q * 128 ^ pre.length := by
            rw [Nat.pow_succ, Nat.mul_comm (128 ^ pre.length), ← Nat.mul_assoc]
            exact Nat.mul_le_mul_right _ (Nat.div_mul_le_self q 128)
          unfold Hid
          simp only [List.length_append, List.length_cons, List.length_nil, Nat.zero_add]
          omega
      case measure => simp [intOf]; omega
    · obtain ⟨x, hx⟩ : ∃ x : UInt8, Hid (x = UInt8.ofNat q) := ⟨_, rfl⟩
      have hlit : Hid ((#[.int .u8 (q : Int)] : Array Value) = ([x].map bv).toArray) := by
        unfold Hid
        simp only [List.map_cons, List.map_nil, bv]
        rw [hx.out, u8_ofNat _ (by omega)]
      go_wp2_with (at_builtin; refine app_u8 rfl _ _ rfl w.heap.size _ (xs ++ pre) rfl (hown.alloc _) _ 1 1 [x] rfl (RdB.lit wr _ _ hlit.out 1 rfl) ?c3 ?c4 ?_)
      case c3 => have := HL.out; simp; omega
      case c4 => simp; omega
      intro v2 w2 hv2 hb2 _
      go_wp2
      go_ret
      have e1 : vform (9 - pre.length) q = [UInt8.ofNat q] := by
        cases hk : 9 - pre.length with
        | zero => rfl
        | succ k => rw [vform, if_pos (by omega)]
      have e2 : enc v = pre ++ [UInt8.ofNat q] := by rw [HE.out, e1]
      refine ⟨v2, rfl, ?_, (below_alloc hb _).trans hb2⟩
      rw [e2, ← hx.out, ← List.append_assoc]
      simpa using hv2

theorem refAppendInt_any (A : Option Addr) (n c : Nat) (v : Int) (w : World) (xs : List UInt8) (h : RdB w A n xs) (hv0 : -9223372036854775808 ≤ v) (hv1 : v ≤ 9223372036854775807) (hn : n + 10 ≤ 140737488355328) :
    Calls Try.prog 15 #[.slice A n c, .int .i64 v] w fun e w' => ∃ v', e = .returned v' ∧ OwnB w' w.heap.size v' (xs ++ enc (zig v)) ∧ Below w.heap.size w w' := by
  have hz := zig_lt v hv0 hv1
  by_cases hp : 0 ≤ v
  · go_enter Try.func15, Try.ntmps15
    go_wp2_with fail
    rw [show (2 * v : Int) = ((zig v : Nat) : Int) from by unfold zig; rw [if_pos hp]; omega]
    refine (refAppendUint_any A n c (zig v) w xs h hz hn).mono ?_
    rintro e w1 ⟨v1, rfl, hv1, hb1⟩
    go_wp2
    go_ret
    exact ⟨v1, rfl, hv1, hb1⟩
  · go_enter Try.func15, Try.ntmps15
    go_wp2_with fail
    rw [show (2 * -(v + 1) + 1 : Int) = ((zig v : Nat) : Int) from by unfold zig; rw [if_neg (by omega)]; omega]
    refine (refAppendUint_any A n c (zig v) w xs h hz hn).mono ?_
    rintro e w1 ⟨v1, rfl, hv1, hb1⟩
    go_wp2
    go_ret
    exact ⟨v1, rfl, hv1, hb1⟩

theorem uintAt_of (xs : List UInt8) (k : Nat) (hk : k ≤ xs.length) (r : Nat × Nat × Nat) (h : dec 0 0 (xs.drop k) = r) : uintAt xs k = if r.2.2 = 0 then (r.1, (k : Int) + r.2.1, 0) else (0, 0, (r.2.2 : Int)) := by
  unfold uintAt
  rw [if_neg (by omega), Int.toNat_natCast, h]
theorem dec_stop9 (u : Nat) (x : UInt8) (r : List UInt8) (h : 1 < x.toNat) : dec 9 u (x :: r) = (0, 0, 11) := by
  unfold dec; rw [if_pos ⟨rfl, h⟩]
theorem dec_zero (j u : Nat) (x : UInt8) (r : List UInt8) (h : x.toNat = 0) (hj : 0 < j) : dec j u (x :: r) = (0, 0, 11) := by
  unfold dec; rw [if_neg (by omega), if_pos (by omega), if_pos ⟨h, hj⟩]
theorem dec_ok (j u : Nat) (x : UInt8) (r : List UInt8) (h : x.toNat < 128) (h9 : j = 9 → x.toNat ≤ 1) (hz : x.toNat = 0 → j = 0) : dec j u (x :: r) = (u + x.toNat % 128 * 128 ^ j, j + 1, 0) := by
  unfold dec; rw [if_neg (by rintro ⟨h1, h2⟩; have := h9 h1; omega), if_pos h, if_neg (by rintro ⟨h1, h2⟩; have := hz h1; omega)]
theorem dec_more (j u : Nat) (x : UInt8) (r : List UInt8) (h : ¬ x.toNat < 128) (h9 : j ≠ 9) : dec j u (x :: r) = dec (j + 1) (u + x.toNat % 128 * 128 ^ j) r := by
  conv => lhs; unfold dec
  rw [if_neg (by rintro ⟨h1, _⟩; exact h9 h1), if_neg h]

/-- The lower seven bits of a byte, laid behind what was read. -/
theorem orSeven (j u y : Nat) (hj : j ≤ 9) (hu : u < 128 ^ j) (hy : y < 128) (h9 : j = 9 → y ≤ 1) :
    bits .or .u64 (u : Int) (IntKind.u64.wrap ((y : Int) * 2 ^ (7 * j))) = ((u + y * 128 ^ j : Nat) : Int) ∧ u + y * 128 ^ j < 18446744073709551616 ∧ (j < 9 → u + y * 128 ^ j < 128 ^ (j + 1)) := by
  have hp : (128 : Nat) ^ j = 2 ^ (7 * j) := by rw [Nat.pow_mul]
  have hlt1 : u + y * 128 ^ j < 128 ^ (j + 1) := by
    rw [Nat.pow_succ, Nat.mul_comm (128 ^ j)]
    have : y * 128 ^ j ≤ 127 * 128 ^ j := Nat.mul_le_mul_right _ (by omega)
    omega
  have hlt : u + y * 128 ^ j < 18446744073709551616 := by
    by_cases h : j = 9
    · subst h
      have := h9 rfl
      have h2 : y * 128 ^ 9 ≤ 1 * 128 ^ 9 := Nat.mul_le_mul_right _ this
      omega
    · have h2 : 128 ^ (j + 1) ≤ 128 ^ 9 := Nat.pow_le_pow_right (by omega) (by omega)
      omega
  refine ⟨?_, hlt, fun _ => hlt1⟩
  have e : IntKind.u64.wrap ((y : Int) * 2 ^ (7 * j)) = ((y * 128 ^ j : Nat) : Int) := by
    have e1 : ((y : Int) * 2 ^ (7 * j)) = ((y * 128 ^ j : Nat) : Int) := by rw [hp]; push_cast; rfl
    rw [e1]
    have e2 : ∀ x, IntKind.u64.wrap x = x % 18446744073709551616 := fun x => by simp [IntKind.wrap, IntKind.bits, IntKind.signed]
    rw [e2]
    omega
  rw [e, u64_or_nat u (y * 128 ^ j) (by omega) (by omega), Nat.or_comm, hp, nat_join (7 * j) _ u (Nat.mul_mod_left _ _) (by rw [← hp]; exact hu), Nat.add_comm]

theorem Uint_range (A : Option Addr) (n c : Nat) (p : Int) (w : World) (xs : List UInt8) (h : RdB w A n xs) (hm : n ≤ 140737488355328) (hp : p < 0 ∨ (n : Int) < p) :
    Calls Try.prog 9 #[.slice A n c, .int .i64 p] w fun e w' => e = .returned (.tuple #[.int .u64 (uintAt xs p).1, .int .i64 (uintAt xs p).2.1, .int .i64 (uintAt xs p).2.2]) ∧ w = w' := by
  have e : uintAt xs p = (0, 0, 2) := by unfold uintAt; rw [h.len, if_pos hp]
  rw [e]
  rcases hp with hp | hp
  · go_enter Try.func9, Try.ntmps9
    go_wp2
    go_ret3
    exact ⟨rfl, rfl⟩
  · have hp0 : ¬ p < 0 := by omega
    go_enter Try.func9, Try.ntmps9
    go_wp2
    go_ret3
    exact ⟨rfl, rfl⟩

set_option maxRecDepth 100000 in
set_option maxHeartbeats 2000000 in
theorem Uint_in (A : Option Addr) (n c k : Nat) (w : World) (xs : List UInt8) (h : RdB w A n xs) (hc : n ≤ c) (hm : n ≤ 140737488355328) (hk : k ≤ n) :
    Calls Try.prog 9 #[.slice A n c, .int .i64 k] w fun e w' => e = .returned (.tuple #[.int .u64 (uintAt xs k).1, .int .i64 (uintAt xs k).2.1, .int .i64 (uintAt xs k).2.2]) ∧ w = w' := by
  have HL := Lib.hid h.len
  have HU := Lib.hid (uintAt_of xs k (by rw [h.len]; exact hk))
  generalize uintAt xs k = res at HU ⊢
  obtain ⟨A1, s1, r1⟩ := cut_l h c hc k hk k rfl
  go_enter Try.func9, Try.ntmps9
  go_wp2
  go_loop [7, 22] (fun t i => ∃ (j u : Nat), j ≤ n - k ∧ j ≤ 9 ∧ u < 128 ^ j ∧ Hid (dec 0 0 (xs.drop k) = dec j u (xs.drop (k + j))) ∧ t = .int .u64 u ∧ i = .int .i64 j) (fun _ i => n - k - (intOf i).toNat)
  case atStart => exact ⟨0, 0, by omega, by omega, by simp, by simp [Hid], rfl, rfl⟩
  case round =>
    obtain ⟨j, u, hj, hj9, hu, HD, rfl, rfl⟩ := hrel
    by_cases hlt : j < n - k
    · have hjx : k + j < xs.length := by have := HL.out; omega
      obtain ⟨b, off, rfl⟩ := r1.addr (by omega)
      have hcx := r1.cells j (by rw [List.length_drop]; omega)
      rw [List.getElem_drop] at hcx
      have Hd := Lib.hid (List.drop_eq_getElem_cons hjx)
      generalize xs[k + j] = x at hcx Hd
      have hx : x.toNat < 256 := x.toNat_lt
      have HDx : Hid (dec 0 0 (xs.drop k) = dec j u (x :: xs.drop (k + j + 1))) := by have := HD.out; rw [Hd.out] at this; exact this
      obtain ⟨y, hy, HY⟩ : ∃ y : Nat, y < 128 ∧ Hid (y = x.toNat % 128) := ⟨_, Nat.mod_lt _ (by decide), rfl⟩
      have hand : bits .and .u8 (x.toNat : Int) 127 = (y : Int) := by
        have h1 := u8_and_nat x.toNat 127 hx (by omega)
        rw [nat_mask7, ← HY.out] at h1
        exact h1
      by_cases hA : j = 9 ∧ 1 < x.toNat
      · obtain ⟨h9, h1⟩ := hA
        have R : Hid (res = (0, 0, 11)) := by
          have := HU.out _ HDx.out
          rw [h9, dec_stop9 _ _ _ h1] at this
          exact this
        have h9' : ((j : Int) == 9) = true := by rw [beq_iff_eq]; omega
        have h9'' : 9 ≤ j := by omega
        clear h9
        go_wp2
        go_ret3
        exact ⟨by rw [R.out]; rfl, rfl⟩
      · have hor := orSeven j u y hj9 hu hy (fun h => by have := HY.out; omega)
        obtain ⟨t, ht⟩ : ∃ t : Nat, Hid (t = u + y * 128 ^ j) := ⟨_, rfl⟩
        have hor1 := hor.1
        rw [← ht.out] at hor1
        have hor2 := hor.2.1
        rw [← ht.out] at hor2
        have Hor3 := Lib.hid hor.2.2
        clear hor
        have Hres : Hid (x.toNat < 128 → (x.toNat = 0 → j = 0) → res = (t, (k : Int) + (j + 1 : Nat), 0)) := fun h1 h2 => by
          have := HU.out _ HDx.out
          rw [dec_ok j u x _ h1 (fun h => by omega) h2] at this
          rw [this, ht.out, HY.out]
          rfl
        have Hres0 : Hid (x.toNat = 0 → 0 < j → res = (0, 0, 11)) := fun h1 h2 => by
          have := HU.out _ HDx.out
          rw [dec_zero j u x _ h1 h2] at this
          exact this
        by_cases hs : x.toNat < 128
        · by_cases h9 : j = 9
          · have hx1 : x.toNat ≤ 1 := by omega
            have h9' : ((j : Int) == 9) = true := by rw [beq_iff_eq]; omega
            have h9'' : 9 ≤ j := by omega
            clear h9 hA
            by_cases hz : x.toNat = 0
            · have hz' : ((x.toNat : Int) == 0) = true := by rw [beq_iff_eq]; omega
              have HZ := Lib.hid hz
              clear hz
              go_wp2
              go_ret3
              exact ⟨by rw [Hres0.out HZ.out (by omega)]; rfl, rfl⟩
            · have hz' : ((x.toNat : Int) == 0) = false := by rw [beq_eq_false_iff_ne]; omega
              have HZ := Lib.hid hz
              clear hz
              go_wp2
              go_ret3
              exact ⟨by rw [Hres.out hs (fun h => absurd h HZ.out)]; simp; omega, rfl⟩
          · have h9' : ((j : Int) == 9) = false := by rw [beq_eq_false_iff_ne]; omega
            clear hA
            by_cases hz : x.toNat = 0
            · have hz' : ((x.toNat : Int) == 0) = true := by rw [beq_iff_eq]; omega
              have HZ := Lib.hid hz
              clear hz
              by_cases hj0 : 0 < j
              · go_wp2
                go_ret3
                exact ⟨by rw [Hres0.out HZ.out (by omega)]; rfl, rfl⟩
              · go_wp2
                go_ret3
                exact ⟨by rw [Hres.out hs (fun h => by omega)]; simp; omega, rfl⟩
            · have hz' : ((x.toNat : Int) == 0) = false := by rw [beq_eq_false_iff_ne]; omega
              have HZ := Lib.hid hz
              clear hz
              go_wp2
              go_ret3
              exact ⟨by rw [Hres.out hs (fun h => absurd h HZ.out)]; simp; omega, rfl⟩
        · have h9 : j < 9 := by omega
          have h9' : ((j : Int) == 9) = false := by rw [beq_eq_false_iff_ne]; omega
          clear hA
          go_wp2
          go_round
          case rel =>
            refine ⟨j + 1, t, by omega, by omega, by rw [ht.out]; exact Hor3.out h9, ?_, rfl, by go_num⟩
            have := HDx.out
            rw [dec_more j u x _ hs (by omega), ← HY.out, ← ht.out] at this
            exact this
          case measure => simp [intOf]; omega
    · have hjx : k + j = xs.length := by have := HL.out; omega
      have R : Hid (res = (0, 0, 10)) := by
        have := HU.out _ HD.out
        rw [List.drop_of_length_le (by omega)] at this
        exact this
      clear hjx
      go_wp2
      go_ret3
      exact ⟨by rw [R.out]; rfl, rfl⟩
end Go.Proofs.Ytaepjocfajiokaa
