/-
  The reference's part and Encode. No statement is proved here.
-/
import Derived.Test.YtbblpehehgeebaaDoorKeyO
import Derived.Test.YtbblpehehgeebaaDoorKeyV
namespace Go.Proofs.YtbblpehehgeebaaDoor
open Go.RowKit
set_option linter.unusedVariables false
set_option linter.unusedSimpArgs false

theorem u8_mod (q : Nat) : IntKind.u8.wrap ((q : Int) % 256) = (((UInt8.ofNat q).toNat : Nat) : Int) := by
  rw [IntKind.wrap_u8, UInt8.toNat_ofNat']
  omega
theorem addTop (n : Int) (h0 : -9223372036854775808 ≤ n) (h1 : n ≤ 9223372036854775807) : IntKind.u64.wrap (IntKind.u64.wrap n + 9223372036854775808) = (((n + 9223372036854775808).toNat : Nat) : Int) := by
  rw [IntKind.wrap_u64, IntKind.wrap_u64]
  omega
set_option maxHeartbeats 4000000 in
theorem rpart_num (t : List UInt8) (n : Int) (w : World) (h0 : -9223372036854775808 ≤ n) (h1 : n ≤ 9223372036854775807) :
    Calls Tryd.prog 24 #[.agg #[.bool false, .int .i64 n, .string ⟨t.toArray⟩]] w fun e w' => ∃ v', e = .returned v' ∧ OwnB w' w.heap.size v' (1 :: be8 (n + 9223372036854775808).toNat) ∧ Below w.heap.size w w' := by
  have S1 := PutSt.start (OwnB.nil w w.heap.size) (Nat.le_refl _) #[.bool false, .int .i64 n, .string ⟨t.toArray⟩]
  have hz1 : (w.alloc (.cells #[.bool false, .int .i64 n, .string ⟨t.toArray⟩] 40)).heap.size = w.heap.size + 1 := by simp
  obtain ⟨W1, hW1⟩ : ∃ W1, W1 = w.alloc (.cells #[.bool false, .int .i64 n, .string ⟨t.toArray⟩] 40) := ⟨_, rfl⟩
  rw [← hW1] at S1 hz1
  have k0 : W1.cell? ⟨w.heap.size, 0, none⟩ = some (.bool false) := by rw [cell_of_row _ _ _ _ _ _ S1.box]; rfl
  have HXO := Lib.hid (addTop n h0 h1)
  have hV : (n + 9223372036854775808).toNat < 18446744073709551616 := by omega
  generalize (n + 9223372036854775808).toNat = V at *
  have ho2 : OwnB (W1.alloc (.cells #[.int .u8 1] 5)) w.heap.size (.slice (some ⟨W1.heap.size, 0, none⟩) 1 1) [1] := OwnB.lit W1 [1] (by omega) (by simp [maxLen])
  have S2 : PutSt w.heap.size w w.heap.size #[.bool false, .int .i64 n, .string ⟨t.toArray⟩] (.slice (some ⟨W1.heap.size, 0, none⟩) 1 1) [1] (W1.alloc (.cells #[.int .u8 1] 5)) :=
    ⟨ho2, (Below.heap_alloc W1 _ _ (heap_lt' S1.box)).trans S1.box, S1.bel.alloc (by omega) _⟩
  have k1 : (W1.alloc (.cells #[.int .u8 1] 5)).cell? ⟨w.heap.size, 1, none⟩ = some (.int .i64 n) := by rw [cell_of_row _ _ _ _ _ _ S2.box]; rfl
  have HS2 := Lib.hid S2
  clear S2 ho2
  go_enter Tryd.func24, Tryd.ntmps24
  have hxo := HXO.out
  go_wp2_with (rw [← hW1])
  clear hxo HXO k1
  go_loopw [3, 5] (fun bv' sh wr => ∃ k : Nat, k ≤ 8 ∧ sh = .int .i64 (7 - (k : Int)) ∧ PutSt w.heap.size w w.heap.size #[.bool false, .int .i64 n, .string ⟨t.toArray⟩] bv' ([1] ++ (be8 V).take k) wr) (fun _ sh _ => (intOf sh + 1).toNat)
  case atStart => exact ⟨0, by omega, by simp, by have := HS2.out; rw [hz1] at this; simpa using this⟩
  case round =>
    clear HS2 S1 k0 hz1 hW1
    obtain ⟨k, hk, rfl, hS⟩ := hrel
    rename_i bb wr
    have HS := Lib.hid hS
    clear hS
    obtain ⟨A3, m3, c3, rfl, _⟩ := HS.out.own.form
    rcases (show k = 8 ∨ k = 0 ∨ k = 1 ∨ k = 2 ∨ k = 3 ∨ k = 4 ∨ k = 5 ∨ k = 6 ∨ k = 7 by omega) with rfl | rfl | rfl | rfl | rfl | rfl | rfl | rfl | rfl
    · go_wp2
      go_ret
      refine ⟨_, rfl, ?_, HS.out.bel⟩
      have := HS.out.own
      rw [List.take_of_length_le (by rw [be8_len]; omega)] at this
      simpa using this
    · have hw : IntKind.u8.wrap ((((V : Int) / 72057594037927936)) % 256) = (((UInt8.ofNat (V / 72057594037927936)).toNat : Nat) : Int) := u8_mod (V / 72057594037927936)
      have hbe : (be8 V).take 1 = (be8 V).take 0 ++ [UInt8.ofNat (V / 72057594037927936)] := rfl
      have HBE := Lib.hid hbe
      clear hbe
      generalize UInt8.ofNat (V / 72057594037927936) = y at *
      have hr4 := lit_at wr #[.int .u8 ((y.toNat : Nat) : Int)] [y] rfl 1 _ rfl rfl
      go_wp2_with (at_builtin; refine app_u8 rfl _ _ rfl w.heap.size _ _ rfl (HS.out.own.alloc _) (some ⟨wr.heap.size, 0, none⟩) 1 1 [y] rfl hr4 ?c1 ?c2 ?_)
      case c1 => simp [be8_len]
      case c2 => have := HS.out.bel.size; simp; omega
      intro v5 W5 ho5 hb5 hg5
      have S5 := HS.out.app (Nat.le_refl _) ho5 hb5 hg5
      have S6 : PutSt w.heap.size w w.heap.size #[.bool false, .int .i64 n, .string ⟨t.toArray⟩] v5 ([1] ++ (be8 V).take 1) W5 := by
          rw [HBE.out]
          simpa using S5
      clear HS ho5 hb5 hg5 hr4
      go_wp2
      exact ⟨⟨1, by omega, rfl, S6⟩, by simp [intOf]⟩
    · have hw : IntKind.u8.wrap ((((V : Int) / 281474976710656)) % 256) = (((UInt8.ofNat (V / 281474976710656)).toNat : Nat) : Int) := u8_mod (V / 281474976710656)
      have hbe : (be8 V).take 2 = (be8 V).take 1 ++ [UInt8.ofNat (V / 281474976710656)] := rfl
      have HBE := Lib.hid hbe
      clear hbe
      generalize UInt8.ofNat (V / 281474976710656) = y at *
      have hr4 := lit_at wr #[.int .u8 ((y.toNat : Nat) : Int)] [y] rfl 1 _ rfl rfl
      go_wp2_with (at_builtin; refine app_u8 rfl _ _ rfl w.heap.size _ _ rfl (HS.out.own.alloc _) (some ⟨wr.heap.size, 0, none⟩) 1 1 [y] rfl hr4 ?c1 ?c2 ?_)
      case c1 => simp [be8_len]
      case c2 => have := HS.out.bel.size; simp; omega
      intro v5 W5 ho5 hb5 hg5
      have S5 := HS.out.app (Nat.le_refl _) ho5 hb5 hg5
      have S6 : PutSt w.heap.size w w.heap.size #[.bool false, .int .i64 n, .string ⟨t.toArray⟩] v5 ([1] ++ (be8 V).take 2) W5 := by
          rw [HBE.out]
          simpa using S5
      clear HS ho5 hb5 hg5 hr4
      go_wp2
      exact ⟨⟨2, by omega, rfl, S6⟩, by simp [intOf]⟩
    · have hw : IntKind.u8.wrap ((((V : Int) / 1099511627776)) % 256) = (((UInt8.ofNat (V / 1099511627776)).toNat : Nat) : Int) := u8_mod (V / 1099511627776)
      have hbe : (be8 V).take 3 = (be8 V).take 2 ++ [UInt8.ofNat (V / 1099511627776)] := rfl
      have HBE := Lib.hid hbe
      clear hbe
      generalize UInt8.ofNat (V / 1099511627776) = y at *
      have hr4 := lit_at wr #[.int .u8 ((y.toNat : Nat) : Int)] [y] rfl 1 _ rfl rfl
      go_wp2_with (at_builtin; refine app_u8 rfl _ _ rfl w.heap.size _ _ rfl (HS.out.own.alloc _) (some ⟨wr.heap.size, 0, none⟩) 1 1 [y] rfl hr4 ?c1 ?c2 ?_)
      case c1 => simp [be8_len]
      case c2 => have := HS.out.bel.size; simp; omega
      intro v5 W5 ho5 hb5 hg5
      have S5 := HS.out.app (Nat.le_refl _) ho5 hb5 hg5
      have S6 : PutSt w.heap.size w w.heap.size #[.bool false, .int .i64 n, .string ⟨t.toArray⟩] v5 ([1] ++ (be8 V).take 3) W5 := by
          rw [HBE.out]
          simpa using S5
      clear HS ho5 hb5 hg5 hr4
      go_wp2
      exact ⟨⟨3, by omega, rfl, S6⟩, by simp [intOf]⟩
    · have hw : IntKind.u8.wrap ((((V : Int) / 4294967296)) % 256) = (((UInt8.ofNat (V / 4294967296)).toNat : Nat) : Int) := u8_mod (V / 4294967296)
      have hbe : (be8 V).take 4 = (be8 V).take 3 ++ [UInt8.ofNat (V / 4294967296)] := rfl
      have HBE := Lib.hid hbe
      clear hbe
      generalize UInt8.ofNat (V / 4294967296) = y at *
      have hr4 := lit_at wr #[.int .u8 ((y.toNat : Nat) : Int)] [y] rfl 1 _ rfl rfl
      go_wp2_with (at_builtin; refine app_u8 rfl _ _ rfl w.heap.size _ _ rfl (HS.out.own.alloc _) (some ⟨wr.heap.size, 0, none⟩) 1 1 [y] rfl hr4 ?c1 ?c2 ?_)
      case c1 => simp [be8_len]
      case c2 => have := HS.out.bel.size; simp; omega
      intro v5 W5 ho5 hb5 hg5
      have S5 := HS.out.app (Nat.le_refl _) ho5 hb5 hg5
      have S6 : PutSt w.heap.size w w.heap.size #[.bool false, .int .i64 n, .string ⟨t.toArray⟩] v5 ([1] ++ (be8 V).take 4) W5 := by
          rw [HBE.out]
          simpa using S5
      clear HS ho5 hb5 hg5 hr4
      go_wp2
      exact ⟨⟨4, by omega, rfl, S6⟩, by simp [intOf]⟩
    · have hw : IntKind.u8.wrap ((((V : Int) / 16777216)) % 256) = (((UInt8.ofNat (V / 16777216)).toNat : Nat) : Int) := u8_mod (V / 16777216)
      have hbe : (be8 V).take 5 = (be8 V).take 4 ++ [UInt8.ofNat (V / 16777216)] := rfl
      have HBE := Lib.hid hbe
      clear hbe
      generalize UInt8.ofNat (V / 16777216) = y at *
      have hr4 := lit_at wr #[.int .u8 ((y.toNat : Nat) : Int)] [y] rfl 1 _ rfl rfl
      go_wp2_with (at_builtin; refine app_u8 rfl _ _ rfl w.heap.size _ _ rfl (HS.out.own.alloc _) (some ⟨wr.heap.size, 0, none⟩) 1 1 [y] rfl hr4 ?c1 ?c2 ?_)
      case c1 => simp [be8_len]
      case c2 => have := HS.out.bel.size; simp; omega
      intro v5 W5 ho5 hb5 hg5
      have S5 := HS.out.app (Nat.le_refl _) ho5 hb5 hg5
      have S6 : PutSt w.heap.size w w.heap.size #[.bool false, .int .i64 n, .string ⟨t.toArray⟩] v5 ([1] ++ (be8 V).take 5) W5 := by
          rw [HBE.out]
          simpa using S5
      clear HS ho5 hb5 hg5 hr4
      go_wp2
      exact ⟨⟨5, by omega, rfl, S6⟩, by simp [intOf]⟩
    · have hw : IntKind.u8.wrap ((((V : Int) / 65536)) % 256) = (((UInt8.ofNat (V / 65536)).toNat : Nat) : Int) := u8_mod (V / 65536)
      have hbe : (be8 V).take 6 = (be8 V).take 5 ++ [UInt8.ofNat (V / 65536)] := rfl
      have HBE := Lib.hid hbe
      clear hbe
      generalize UInt8.ofNat (V / 65536) = y at *
      have hr4 := lit_at wr #[.int .u8 ((y.toNat : Nat) : Int)] [y] rfl 1 _ rfl rfl
      go_wp2_with (at_builtin; refine app_u8 rfl _ _ rfl w.heap.size _ _ rfl (HS.out.own.alloc _) (some ⟨wr.heap.size, 0, none⟩) 1 1 [y] rfl hr4 ?c1 ?c2 ?_)
      case c1 => simp [be8_len]
      case c2 => have := HS.out.bel.size; simp; omega
      intro v5 W5 ho5 hb5 hg5
      have S5 := HS.out.app (Nat.le_refl _) ho5 hb5 hg5
      have S6 : PutSt w.heap.size w w.heap.size #[.bool false, .int .i64 n, .string ⟨t.toArray⟩] v5 ([1] ++ (be8 V).take 6) W5 := by
          rw [HBE.out]
          simpa using S5
      clear HS ho5 hb5 hg5 hr4
      go_wp2
      exact ⟨⟨6, by omega, rfl, S6⟩, by simp [intOf]⟩
    · have hw : IntKind.u8.wrap ((((V : Int) / 256)) % 256) = (((UInt8.ofNat (V / 256)).toNat : Nat) : Int) := u8_mod (V / 256)
      have hbe : (be8 V).take 7 = (be8 V).take 6 ++ [UInt8.ofNat (V / 256)] := rfl
      have HBE := Lib.hid hbe
      clear hbe
      generalize UInt8.ofNat (V / 256) = y at *
      have hr4 := lit_at wr #[.int .u8 ((y.toNat : Nat) : Int)] [y] rfl 1 _ rfl rfl
      go_wp2_with (at_builtin; refine app_u8 rfl _ _ rfl w.heap.size _ _ rfl (HS.out.own.alloc _) (some ⟨wr.heap.size, 0, none⟩) 1 1 [y] rfl hr4 ?c1 ?c2 ?_)
      case c1 => simp [be8_len]
      case c2 => have := HS.out.bel.size; simp; omega
      intro v5 W5 ho5 hb5 hg5
      have S5 := HS.out.app (Nat.le_refl _) ho5 hb5 hg5
      have S6 : PutSt w.heap.size w w.heap.size #[.bool false, .int .i64 n, .string ⟨t.toArray⟩] v5 ([1] ++ (be8 V).take 7) W5 := by
          rw [HBE.out]
          simpa using S5
      clear HS ho5 hb5 hg5 hr4
      go_wp2
      exact ⟨⟨7, by omega, rfl, S6⟩, by simp [intOf]⟩
    · have hw : IntKind.u8.wrap ((((V : Int))) % 256) = (((UInt8.ofNat (V)).toNat : Nat) : Int) := u8_mod (V)
      have hbe : (be8 V).take 8 = (be8 V).take 7 ++ [UInt8.ofNat (V)] := rfl
      have HBE := Lib.hid hbe
      clear hbe
      generalize UInt8.ofNat (V) = y at *
      have hr4 := lit_at wr #[.int .u8 ((y.toNat : Nat) : Int)] [y] rfl 1 _ rfl rfl
      go_wp2_with (at_builtin; refine app_u8 rfl _ _ rfl w.heap.size _ _ rfl (HS.out.own.alloc _) (some ⟨wr.heap.size, 0, none⟩) 1 1 [y] rfl hr4 ?c1 ?c2 ?_)
      case c1 => simp [be8_len]
      case c2 => have := HS.out.bel.size; simp; omega
      intro v5 W5 ho5 hb5 hg5
      have S5 := HS.out.app (Nat.le_refl _) ho5 hb5 hg5
      have S6 : PutSt w.heap.size w w.heap.size #[.bool false, .int .i64 n, .string ⟨t.toArray⟩] v5 ([1] ++ (be8 V).take 8) W5 := by
          rw [HBE.out]
          simpa using S5
      clear HS ho5 hb5 hg5 hr4
      go_wp2
      exact ⟨⟨8, by omega, rfl, S6⟩, by simp [intOf]⟩
theorem esc_snoc (l : List UInt8) (c : UInt8) : esc (l ++ [c]) = if c = 0 then esc l ++ [0] ++ [255] else esc l ++ [c] := by
  induction l with
  | nil => by_cases h : c = 0 <;> simp [esc, h]
  | cons a l ih =>
    rw [List.cons_append]
    unfold esc
    rw [ih]
    by_cases h : c = 0 <;> by_cases h2 : a = 0 <;> simp [h, h2]
set_option maxHeartbeats 4000000 in
theorem rpart_text (t : List UInt8) (n : Int) (w : World) (ht : t.length ≤ 1000000000) :
    Calls Tryd.prog 24 #[.agg #[.bool true, .int .i64 n, .string ⟨t.toArray⟩]] w fun e w' => ∃ v', e = .returned v' ∧ OwnB w' w.heap.size v' (2 :: (esc t ++ [0, 1])) ∧ Below w.heap.size w w' := by
  have S1 := PutSt.start (OwnB.nil w w.heap.size) (Nat.le_refl _) #[.bool true, .int .i64 n, .string ⟨t.toArray⟩]
  have hz1 : (w.alloc (.cells #[.bool true, .int .i64 n, .string ⟨t.toArray⟩] 40)).heap.size = w.heap.size + 1 := by simp
  obtain ⟨W1, hW1⟩ : ∃ W1, W1 = w.alloc (.cells #[.bool true, .int .i64 n, .string ⟨t.toArray⟩] 40) := ⟨_, rfl⟩
  rw [← hW1] at S1 hz1
  have k0 : W1.cell? ⟨w.heap.size, 0, none⟩ = some (.bool true) := by rw [cell_of_row _ _ _ _ _ _ S1.box]; rfl
  have ho2 : OwnB (W1.alloc (.cells #[.int .u8 2] 5)) w.heap.size (.slice (some ⟨W1.heap.size, 0, none⟩) 1 1) [2] := OwnB.lit W1 [2] (by omega) (by simp [maxLen])
  have S2 : PutSt w.heap.size w w.heap.size #[.bool true, .int .i64 n, .string ⟨t.toArray⟩] (.slice (some ⟨W1.heap.size, 0, none⟩) 1 1) [2] (W1.alloc (.cells #[.int .u8 2] 5)) :=
    ⟨ho2, (Below.heap_alloc W1 _ _ (heap_lt' S1.box)).trans S1.box, S1.bel.alloc (by omega) _⟩
  have HS2 := Lib.hid S2
  clear S2 ho2
  have hsz : ByteArray.size ⟨t.toArray⟩ = t.length := by simp [ByteArray.size]
  have HSZ := Lib.hid hsz
  clear hsz
  go_enter Tryd.func24, Tryd.ntmps24
  go_wp2_with (rw [← hW1])
  go_loopw [6, 7] (fun bv' i wr => ∃ k : Nat, k ≤ t.length ∧ i = .int .i64 (k : Int) ∧ PutSt w.heap.size w w.heap.size #[.bool true, .int .i64 n, .string ⟨t.toArray⟩] bv' (2 :: esc (t.take k)) wr) (fun _ i _ => t.length - (intOf i).toNat)
  case atStart => exact ⟨0, by omega, by simp, by have := HS2.out; rw [hz1] at this; simpa [esc] using this⟩
  case round =>
    clear HS2 S1 k0 hz1 hW1
    obtain ⟨k, hk, rfl, hS⟩ := hrel
    rename_i bb wr
    have HS := Lib.hid hS
    clear hS
    obtain ⟨A3, m3, c3, rfl, _⟩ := HS.out.own.form
    have k2 : wr.cell? ⟨w.heap.size, 2, none⟩ = some (.string ⟨t.toArray⟩) := by rw [cell_of_row _ _ _ _ _ _ HS.out.box]; rfl
    have hsz := HSZ.out
    have hel := esc_len (t.take k)
    have htl := List.length_take_le k t
    have HEL : Hid ((esc (t.take k)).length ≤ 2000000000) := Lib.hid (by omega)
    clear hel htl
    by_cases hlt : k < t.length
    · have hx : (⟨t.toArray⟩ : ByteArray)[k]'(by rw [hsz]; exact hlt) = t[k] := rfl
      have HES : Hid (esc (t.take (k + 1)) = if t[k] = 0 then esc (t.take k) ++ [0] ++ [255] else esc (t.take k) ++ [t[k]]) := Lib.hid (by rw [take_snoc' _ _ hlt, esc_snoc])
      generalize t[k] = c at *
      have hr4 := lit_at wr #[.int .u8 ((c.toNat : Nat) : Int)] [c] rfl 1 _ rfl rfl
      go_wp2_with (at_builtin; refine app_u8 rfl _ _ rfl w.heap.size _ _ rfl (HS.out.own.alloc _) (some ⟨wr.heap.size, 0, none⟩) 1 1 [c] rfl hr4 ?c1 ?c2 ?_)
      case c1 => have := HEL.out; simp; omega
      case c2 => have := HS.out.bel.size; simp; omega
      intro v5 W5 ho5 hb5 hg5
      have S5 := HS.out.app (Nat.le_refl _) ho5 hb5 hg5
      clear HS ho5 hb5 hg5 hr4 k2
      have k3 : W5.cell? ⟨w.heap.size, 2, none⟩ = some (.string ⟨t.toArray⟩) := by rw [cell_of_row _ _ _ _ _ _ S5.box]; rfl
      obtain ⟨A5, m5, c5, rfl, _⟩ := S5.own.form
      have HS5 := Lib.hid S5
      clear S5
      by_cases hc : c = 0
      · subst hc
        have hr6 := lit_at W5 #[.int .u8 255] [255] rfl 1 _ rfl rfl
        go_wp2_with (at_builtin; refine app_u8 rfl _ _ rfl w.heap.size _ _ rfl (HS5.out.own.alloc _) (some ⟨W5.heap.size, 0, none⟩) 1 1 [255] rfl hr6 ?c1 ?c2 ?_)
        case c1 => have := HEL.out; simp; omega
        case c2 => have := HS5.out.bel.size; simp; omega
        intro v7 W7 ho7 hb7 hg7
        have S7 := HS5.out.app (Nat.le_refl _) ho7 hb7 hg7
        have S8 : PutSt w.heap.size w w.heap.size #[.bool true, .int .i64 n, .string ⟨t.toArray⟩] v7 (2 :: esc (t.take (k + 1))) W7 := by
          rw [HES.out, if_pos (by trivial)]
          simpa using S7
        clear HS5 ho7 hb7 hg7 hr6 S7
        go_wp2
        go_roundw
        case rel => exact ⟨k + 1, by omega, by go_num, S8⟩
        case measure => (try simp [intOf]) <;> (try omega)
      · have S8 : PutSt w.heap.size w w.heap.size #[.bool true, .int .i64 n, .string ⟨t.toArray⟩] (.slice A5 m5 c5) (2 :: esc (t.take (k + 1))) W5 := by
          rw [HES.out, if_neg hc]
          simpa using HS5.out
        have hcn : ¬ (((c.toNat : Nat) : Int) = 0) := fun h => hc (by apply UInt8.toNat_inj.1; rw [show (0 : UInt8).toNat = 0 from rfl]; omega)
        clear HS5
        go_wp2
        go_roundw
        case rel => exact ⟨k + 1, by omega, by go_num, S8⟩
        case measure => (try simp [intOf]) <;> (try omega)
    · obtain rfl : k = t.length := by omega
      have hr4 := lit_at wr #[.int .u8 0, .int .u8 1] [0, 1] rfl 2 _ rfl rfl
      go_wp2_with (at_builtin; refine app_u8 rfl _ _ rfl w.heap.size _ _ rfl (HS.out.own.alloc _) (some ⟨wr.heap.size, 0, none⟩) 2 2 [0, 1] rfl hr4 ?c1 ?c2 ?_)
      case c1 => have := HEL.out; simp at this ⊢; omega
      case c2 => have := HS.out.bel.size; simp; omega
      intro v5 W5 ho5 hb5 hg5
      have S5 := HS.out.app (Nat.le_refl _) ho5 hb5 hg5
      clear HS ho5 hb5 hg5 hr4
      go_wp2
      go_ret
      refine ⟨v5, rfl, ?_, S5.bel⟩
      simpa using S5.own
theorem rpart_any (p : PartV) (w : World) (hp : p.ok) (ht : p.isText = true → p.text.length ≤ 1000000000) :
    Calls Tryd.prog 24 #[partV p] w fun e w' => ∃ v', e = .returned v' ∧ OwnB w' w.heap.size v' (partE p) ∧ Below w.heap.size w w' := by
  obtain ⟨b, n, t⟩ := p
  rcases b with _ | _
  · exact rpart_num t n w hp.1 hp.2
  · exact rpart_text t n w (ht rfl)
end Go.Proofs.YtbblpehehgeebaaDoor
