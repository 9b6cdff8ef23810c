/-
  keys.put. No statement is proved here.
-/
import Derived.Test.YtbblpehehgeebaaDoorKeyE
import Derived.Test.YtbblpehehgeebaaDoorKeyS
import Derived.Lib.AppendStr
namespace Go.Proofs.YtbblpehehgeebaaDoor
open Go.RowKit
set_option linter.unusedVariables false

theorem replace_esc (s : List UInt8) : Lib.replaceAll s [0] [0, 255] = esc s := by
  have key : ∀ s : List UInt8, Lib.replaceK [0] [0, 255] (Lib.count s [0]) s = esc s := by
    intro s
    induction s with
    | nil => rfl
    | cons c l ih =>
      by_cases hc : c = 0
      · subst hc
        have hi : Lib.index (0 :: l) [0] = ((0 : Nat) : Int) := by rw [Lib.index_one]; simp [Lib.indexByte]
        rw [Lib.count_cons_eq, Nat.add_comm, Lib.replaceK_hit _ _ _ _ 0 hi]
        show [] ++ [0, 255] ++ Lib.replaceK [0] [0, 255] (Lib.count l [0]) l = _
        rw [ih]
        simp [esc]
      · rw [Lib.count_cons_ne c 0 l hc]
        unfold esc
        rw [if_neg hc, ← ih]
        rcases hk : Lib.count l [0] with _ | k
        · rfl
        · obtain ⟨i, hi⟩ := Lib.index_of_count (s := l) (old := [0]) (by omega)
          have hi2 : Lib.index (c :: l) [0] = ((i + 1 : Nat) : Int) := by
            rw [Lib.index_one] at hi ⊢
            unfold Lib.indexByte
            have h1 : (c == (0 : UInt8)) = false := by simpa using hc
            rw [h1, hi]
            first | (simp; omega) | simp | (simp; done)
          rw [Lib.replaceK_hit _ _ _ _ i hi, Lib.replaceK_hit _ _ _ _ (i + 1) hi2]
          rfl
  unfold Lib.replaceAll Lib.replace
  rw [if_neg (by decide)]
  unfold Lib.replaceNum
  rw [if_pos (.inl (by decide))]
  exact key s
theorem esc_len (s : List UInt8) : (esc s).length ≤ 2 * s.length := by
  induction s with
  | nil => simp [esc]
  | cons c l ih =>
    unfold esc
    split <;> simp <;> omega
def MaxLen (w : World) : Prop := ∃ m, w.cell? ⟨0, 0, none⟩ = some (.int .i64 m)
theorem MaxLen.below {w w' : World} {B : Nat} (h : MaxLen w) (hb : Below B w w') (h0 : 0 < B) : MaxLen w' := by
  obtain ⟨m, hm⟩ := h
  exact ⟨m, (hb.cell (p := ⟨0, 0, none⟩) h0).trans hm⟩
theorem esc_any (t : List UInt8) (w : World) (hm : MaxLen w) (ht : t.length ≤ 1000000000) :
    Calls Tryd.prog 35 #[.string ⟨t.toArray⟩, .string ⟨#[0]⟩, .string ⟨#[0, 255]⟩] w fun e w' => e = .returned (.string ⟨(esc t).toArray⟩) ∧ Below w.heap.size w w' := by
  obtain ⟨m, hm⟩ := hm
  have hs : ByteArray.size ⟨t.toArray⟩ = t.length := by simp [ByteArray.size]
  have hcnt := Lib.countB_mul_le ⟨#[0]⟩ (by decide) _ (⟨t.toArray⟩ : ByteArray) (Nat.le_refl _)
  have h1 : ByteArray.size ⟨#[0]⟩ = 1 := rfl
  have h2 : ByteArray.size ⟨#[0, 255]⟩ = 2 := rfl
  rw [h1, hs] at hcnt
  have h := strings_ReplaceAll ⟨t.toArray⟩ ⟨#[0]⟩ ⟨#[0, 255]⟩ m w (by rw [hs]; omega) hm (by decide) (by rw [hs, h2]; omega)
  have e : Lib.replaceAll (⟨t.toArray⟩ : ByteArray).data.toList (⟨#[0]⟩ : ByteArray).data.toList (⟨#[0, 255]⟩ : ByteArray).data.toList = esc t := by
    have : (⟨t.toArray⟩ : ByteArray).data.toList = t := by simp
    rw [this]
    exact replace_esc t
  rw [e] at h
  exact h
theorem app_str {ops : Array Oper} {rest : List Oper} {o : Oper} {a : Act} {Q : Exit → Act → World → Prop} {w : World} (hgd : o.guard = none) (s x : Operand)
    (ho : o.op = .call { callee := .builtin .append, args := #[s, x], argTypes := #[24, 9] })
    (base : Nat) (v : Value) (xs : List UInt8) (hs : a.eval s = v) (hown : OwnB w base v xs)
    (ys : List UInt8) (hx : a.eval x = .string ⟨ys.toArray⟩)
    (hlen : xs.length + ys.length ≤ 140737488355328) (hbase : base ≤ w.heap.size)
    (h : ∀ v' w', OwnB w' base v' (xs ++ ys) → Below base w w' → w.grownBy w' v.ownBlock → wpList Tryd.prog ops Q rest (a.put o.dst v') w') : wpList Tryd.prog ops Q (o :: rest) a w := by
  obtain ⟨i0, hi, hz0, hz1, hz2⟩ := info_parts infoU8
  have hsz : ByteArray.size ⟨ys.toArray⟩ = ys.length := by simp [ByteArray.size]
  refine Lib.wpList_append_own_string w hgd s x 24 9 ho base 5 i0 Tryd.underlying24 Tryd.underlying9 hi hz0 hz1 hz2 v xs.length (xs.map bv) hs hown ⟨ys.toArray⟩ hx (by unfold maxLen; omega) (by omega) hbase fun v' w' hown' hg _ => ?_
  refine h v' w' ?_ ((Below.refl base w).grown hg hbase fun k hk => (hown.lt k hk).1) hg
  unfold OwnB
  rw [hsz] at hown'
  rw [List.length_append, List.map_append]
  have e : Lib.strCells ⟨ys.toArray⟩ = ys.map bv := by
    simp [Lib.strCells]
    exact fun a _ => rfl
  rw [e] at hown'
  exact hown'
/-- put's state: the bytes so far, the part's box. -/
structure PutSt (base : Nat) (w : World) (g : Nat) (cs : Array Value) (v : Value) (xs : List UInt8) (W : World) : Prop where
  own : OwnB W base v xs
  box : W.heap[g]? = some (.cells cs 40 (0, 0))
  bel : Below base w W
theorem OwnB.notBox {w : World} {base g : Nat} {v : Value} {xs : List UInt8} {cs : Array Value} (h : OwnB w base v xs) (hg : w.heap[g]? = some (.cells cs 40 (0, 0))) : some g ≠ v.ownBlock := by
  rcases h.2 with ⟨rfl, _⟩ | ⟨b, cap, cur, rfl, hb, hh, _⟩
  · simp [Value.ownBlock]
  · simp only [Value.ownBlock]
    intro e
    injection e with e
    subst e
    rw [hg] at hh
    injection hh with h1
    injection h1 with h2 h3
    simp at h3
theorem PutSt.app {base : Nat} {w W W' : World} {g : Nat} {cs : Array Value} {v v' : Value} {xs ys : List UInt8} (S : PutSt base w g cs v xs W) (hb : base ≤ w.heap.size) {o : Obj} (ho : OwnB W' base v' ys) (hbl : Below base (W.alloc o) W') (hg : (W.alloc o).grownBy W' v.ownBlock) : PutSt base w g cs v' ys W' := by
  have hlt := heap_lt' S.box
  have hW : base ≤ W.heap.size := Nat.le_trans hb S.bel.size
  refine ⟨ho, ?_, (S.bel.alloc hW o).trans hbl⟩
  have h2 : (W.alloc o).heap[g]? = some (.cells cs 40 (0, 0)) := (heap_alloc_old W o g hlt).trans S.box
  exact (hg.block g (heap_lt' h2) ((S.own.alloc o).notBox h2)).trans h2
theorem PutSt.str {base : Nat} {w W W' : World} {g : Nat} {cs : Array Value} {v v' : Value} {xs ys : List UInt8} (S : PutSt base w g cs v xs W) (ho : OwnB W' base v' ys) (hbl : Below base W W') (hg : W.grownBy W' v.ownBlock) : PutSt base w g cs v' ys W' :=
  ⟨ho, (hg.block g (heap_lt' S.box) (S.own.notBox S.box)).trans S.box, S.bel.trans hbl⟩
theorem PutSt.below {base : Nat} {w W W' : World} {g : Nat} {cs : Array Value} {v : Value} {xs : List UInt8} (S : PutSt base w g cs v xs W) (hb : base ≤ w.heap.size) (hbl : Below W.heap.size W W') : PutSt base w g cs v xs W' :=
  ⟨S.own.below hbl, (hbl.block g (heap_lt' S.box)).trans S.box, S.bel.trans (hbl.mono (Nat.le_trans hb S.bel.size))⟩
theorem PutSt.start {base : Nat} {w : World} {v : Value} {xs : List UInt8} (ho : OwnB w base v xs) (hb : base ≤ w.heap.size) (cs : Array Value) : PutSt base w w.heap.size cs v xs (w.alloc (.cells cs 40)) :=
  ⟨ho.alloc _, heap_alloc_new w _, (Below.refl _ _).alloc hb _⟩
theorem lit_at (W : World) (cs : Array Value) (ys : List UInt8) (h : cs = (ys.map bv).toArray) (n k : Nat) (hn : ys.length = n) (hk : W.heap.size = k) : RdB (W.alloc (.cells cs 5)) (some ⟨k, 0, none⟩) n ys := by
  subst hk
  exact RdB.lit W cs ys h n hn
set_option maxHeartbeats 1000000 in
theorem put_text (base : Nat) (v : Value) (xs t : List UInt8) (n : Int) (w : World) (ho : OwnB w base v xs) (hb : base ≤ w.heap.size) (hb0 : 0 < base) (hm : MaxLen w) (hx : xs.length ≤ 1000000000) (ht : t.length ≤ 1000000000) :
    Calls Tryd.prog 22 #[v, .agg #[.bool true, .int .i64 n, .string ⟨t.toArray⟩]] w fun e w' => ∃ v', e = .returned v' ∧ OwnB w' base v' (xs ++ (2 :: (esc t ++ [0, 1]))) ∧ Below base w w' := by
  have S1 := PutSt.start ho hb #[.bool true, .int .i64 n, .string ⟨t.toArray⟩]
  have hz1 : (w.alloc (.cells #[.bool true, .int .i64 n, .string ⟨t.toArray⟩] 40)).heap.size = w.heap.size + 1 := by simp
  obtain ⟨W1, hW1⟩ : ∃ W1, W1 = w.alloc (.cells #[.bool true, .int .i64 n, .string ⟨t.toArray⟩] 40) := ⟨_, rfl⟩
  rw [← hW1] at S1 hz1
  have k0 : W1.cell? ⟨w.heap.size, 0, none⟩ = some (.bool true) := by rw [cell_of_row _ _ _ _ _ _ S1.box]; rfl
  have hr1 := lit_at W1 #[.int .u8 2] [2] rfl 1 _ rfl hz1
  have hel := esc_len t
  go_enter Tryd.func22, Tryd.ntmps22
  go_wp2_with (at_builtin; rw [← hW1]; refine app_u8 rfl _ _ rfl base _ xs rfl (S1.own.alloc _) (some ⟨w.heap.size + 1, 0, none⟩) 1 1 [2] rfl hr1 ?c1 ?c2 ?_)
  case c1 => omega
  case c2 => simp; omega
  intro v2 W2 ho2 hb2 hg2
  rw [← hW1] at hb2 hg2
  have S2 := S1.app hb ho2 hb2 hg2
  clear hW1 hr1 hz1 S1 ho2 hb2 hg2 k0
  have k2 : W2.cell? ⟨w.heap.size, 2, none⟩ = some (.string ⟨t.toArray⟩) := by rw [cell_of_row _ _ _ _ _ _ S2.box]; rfl
  have E := Lib.hid (esc_any t W2 (hm.below S2.bel hb0) ht)
  obtain ⟨A2, m2, c2, rfl, _⟩ := S2.own.form
  have HS2 := Lib.hid S2
  clear S2
  go_wp2_with fail
  refine E.out.mono ?_
  rintro e W3 ⟨rfl, hb3⟩
  have S3 := HS2.out.below hb hb3
  have HS3 := Lib.hid S3
  clear hb3 HS2 E k2
  go_wp2_with (at_builtin; refine app_str rfl _ _ rfl base _ (xs ++ [2]) rfl HS3.out.own (esc t) rfl ?c1 ?c2 ?_)
  case c1 => simp; omega
  case c2 => have := HS3.out.bel.size; omega
  intro v4 W4 ho4 hb4 hg4
  have S4 := HS3.out.str ho4 hb4 hg4
  clear S3 HS3 ho4 hb4 hg4
  obtain ⟨A4, m4, c4, rfl, _⟩ := S4.own.form
  have HS4 := Lib.hid S4
  clear S4
  have hr4 := lit_at W4 #[.int .u8 0, .int .u8 1] [0, 1] rfl 2 _ rfl rfl
  go_wp2_with (at_builtin; refine app_u8 rfl _ _ rfl base _ _ rfl (HS4.out.own.alloc _) (some ⟨W4.heap.size, 0, none⟩) 2 2 [0, 1] rfl hr4 ?c1 ?c2 ?_)
  case c1 => simp; omega
  case c2 => have := HS4.out.bel.size; simp; omega
  intro v5 W5 ho5 hb5 hg5
  have S5 := HS4.out.app hb ho5 hb5 hg5
  clear HS4 ho5 hb5 hg5
  go_wp2
  go_ret
  refine ⟨v5, rfl, ?_, S5.bel⟩
  have := S5.own
  simpa using this
theorem u8_wrap (q : Nat) : IntKind.u8.wrap (q : Int) = (((UInt8.ofNat q).toNat : Nat) : Int) := by
  rw [IntKind.wrap_u8, UInt8.toNat_ofNat']
  omega
theorem xorTop2 (n : Int) (h0 : -9223372036854775808 ≤ n) (h1 : n ≤ 9223372036854775807) : bits .xor .u64 (IntKind.u64.wrap n) 9223372036854775808 = (((n + 9223372036854775808).toNat : Nat) : Int) := by
  obtain ⟨u, hu⟩ : ∃ u : Nat, IntKind.u64.wrap n = (u : Int) := ⟨(IntKind.u64.wrap n).toNat, by rw [IntKind.wrap_u64]; omega⟩
  have hul : u < 18446744073709551616 := by rw [IntKind.wrap_u64] at hu; omega
  obtain ⟨z, hz1, hz2, hz3⟩ := xorTop u hul
  rw [hu, hz1]
  unfold wrap64 at hz3
  rw [IntKind.wrap_u64] at hu
  omega
set_option maxHeartbeats 4000000 in
theorem put_num (base : Nat) (v : Value) (xs t : List UInt8) (n : Int) (w : World) (ho : OwnB w base v xs) (hb : base ≤ w.heap.size) (hx : xs.length ≤ 1000000000) (h0 : -9223372036854775808 ≤ n) (h1 : n ≤ 9223372036854775807) :
    Calls Tryd.prog 22 #[v, .agg #[.bool false, .int .i64 n, .string ⟨t.toArray⟩]] w fun e w' => ∃ v', e = .returned v' ∧ OwnB w' base v' (xs ++ (1 :: be8 (n + 9223372036854775808).toNat)) ∧ Below base w w' := by
  have S1 := PutSt.start ho hb #[.bool false, .int .i64 n, .string ⟨t.toArray⟩]
  have hz1 : (w.alloc (.cells #[.bool false, .int .i64 n, .string ⟨t.toArray⟩] 40)).heap.size = w.heap.size + 1 := by simp
  obtain ⟨W1, hW1⟩ : ∃ W1, W1 = w.alloc (.cells #[.bool false, .int .i64 n, .string ⟨t.toArray⟩] 40) := ⟨_, rfl⟩
  rw [← hW1] at S1 hz1
  have k0 : W1.cell? ⟨w.heap.size, 0, none⟩ = some (.bool false) := by rw [cell_of_row _ _ _ _ _ _ S1.box]; rfl
  have hr1 := lit_at W1 #[.int .u8 1] [1] rfl 1 _ rfl hz1
  have HXO := Lib.hid (xorTop2 n h0 h1)
  have hV : (n + 9223372036854775808).toNat < 18446744073709551616 := by omega
  generalize (n + 9223372036854775808).toNat = V at *
  go_enter Tryd.func22, Tryd.ntmps22
  go_wp2_with (at_builtin; rw [← hW1]; refine app_u8 rfl _ _ rfl base _ xs rfl (S1.own.alloc _) (some ⟨w.heap.size + 1, 0, none⟩) 1 1 [1] rfl hr1 ?c1 ?c2 ?_)
  case c1 => omega
  case c2 => simp; omega
  intro v2 W2 ho2 hb2 hg2
  rw [← hW1] at hb2 hg2
  have S2 := S1.app hb ho2 hb2 hg2
  clear hW1 hr1 hz1 S1 ho2 hb2 hg2 k0
  have k1 : W2.cell? ⟨w.heap.size, 1, none⟩ = some (.int .i64 n) := by rw [cell_of_row _ _ _ _ _ _ S2.box]; rfl
  obtain ⟨A2, m2, c2, rfl, _⟩ := S2.own.form
  have HS2 := Lib.hid S2
  have hxo := HXO.out
  clear S2
  go_wp2_with fail
  clear hxo HXO k1
  go_loopw [0, 6] (fun bv' sh wr => ∃ k : Nat, k ≤ 8 ∧ sh = .int .i64 (56 - 8 * (k : Int)) ∧ PutSt base w w.heap.size #[.bool false, .int .i64 n, .string ⟨t.toArray⟩] bv' (xs ++ [1] ++ (be8 V).take k) wr) (fun _ sh _ => (intOf sh + 8).toNat)
  case atStart => exact ⟨0, by omega, by simp, by simpa using HS2.out⟩
  case round =>
    clear HS2
    obtain ⟨k, hk, rfl, hS⟩ := hrel
    rename_i bb wr
    have HS := Lib.hid hS
    clear hS
    obtain ⟨A3, m3, c3, rfl, _⟩ := HS.out.own.form
    rcases (show k = 8 ∨ k = 0 ∨ k = 1 ∨ k = 2 ∨ k = 3 ∨ k = 4 ∨ k = 5 ∨ k = 6 ∨ k = 7 by omega) with rfl | rfl | rfl | rfl | rfl | rfl | rfl | rfl | rfl
    · go_wp2
      go_ret
      refine ⟨_, rfl, ?_, HS.out.bel⟩
      have := HS.out.own
      rw [List.take_of_length_le (by rw [be8_len]; omega)] at this
      simpa using this
    · have hw : IntKind.u8.wrap (((V : Int) / 72057594037927936)) = (((UInt8.ofNat (V / 72057594037927936)).toNat : Nat) : Int) := u8_wrap (V / 72057594037927936)
      have hbe : (be8 V).take 1 = (be8 V).take 0 ++ [UInt8.ofNat (V / 72057594037927936)] := rfl
      have HBE := Lib.hid hbe
      clear hbe
      generalize UInt8.ofNat (V / 72057594037927936) = y at *
      have hr4 := lit_at wr #[.int .u8 ((y.toNat : Nat) : Int)] [y] rfl 1 _ rfl rfl
      go_wp2_with (at_builtin; refine app_u8 rfl _ _ rfl base _ _ rfl (HS.out.own.alloc _) (some ⟨wr.heap.size, 0, none⟩) 1 1 [y] rfl hr4 ?c1 ?c2 ?_)
      case c1 => simp; omega
      case c2 => have := HS.out.bel.size; simp; omega
      intro v5 W5 ho5 hb5 hg5
      have S5 := HS.out.app hb ho5 hb5 hg5
      have S6 : PutSt base w w.heap.size #[.bool false, .int .i64 n, .string ⟨t.toArray⟩] v5 (xs ++ [1] ++ (be8 V).take 1) W5 := by
          rw [HBE.out]
          simpa using S5
      clear HS ho5 hb5 hg5 hr4
      go_wp2
      exact ⟨⟨1, by omega, rfl, S6⟩, by simp [intOf]⟩
    · have hw : IntKind.u8.wrap (((V : Int) / 281474976710656)) = (((UInt8.ofNat (V / 281474976710656)).toNat : Nat) : Int) := u8_wrap (V / 281474976710656)
      have hbe : (be8 V).take 2 = (be8 V).take 1 ++ [UInt8.ofNat (V / 281474976710656)] := rfl
      have HBE := Lib.hid hbe
      clear hbe
      generalize UInt8.ofNat (V / 281474976710656) = y at *
      have hr4 := lit_at wr #[.int .u8 ((y.toNat : Nat) : Int)] [y] rfl 1 _ rfl rfl
      go_wp2_with (at_builtin; refine app_u8 rfl _ _ rfl base _ _ rfl (HS.out.own.alloc _) (some ⟨wr.heap.size, 0, none⟩) 1 1 [y] rfl hr4 ?c1 ?c2 ?_)
      case c1 => simp; omega
      case c2 => have := HS.out.bel.size; simp; omega
      intro v5 W5 ho5 hb5 hg5
      have S5 := HS.out.app hb ho5 hb5 hg5
      have S6 : PutSt base w w.heap.size #[.bool false, .int .i64 n, .string ⟨t.toArray⟩] v5 (xs ++ [1] ++ (be8 V).take 2) W5 := by
          rw [HBE.out]
          simpa using S5
      clear HS ho5 hb5 hg5 hr4
      go_wp2
      exact ⟨⟨2, by omega, rfl, S6⟩, by simp [intOf]⟩
    · have hw : IntKind.u8.wrap (((V : Int) / 1099511627776)) = (((UInt8.ofNat (V / 1099511627776)).toNat : Nat) : Int) := u8_wrap (V / 1099511627776)
      have hbe : (be8 V).take 3 = (be8 V).take 2 ++ [UInt8.ofNat (V / 1099511627776)] := rfl
      have HBE := Lib.hid hbe
      clear hbe
      generalize UInt8.ofNat (V / 1099511627776) = y at *
      have hr4 := lit_at wr #[.int .u8 ((y.toNat : Nat) : Int)] [y] rfl 1 _ rfl rfl
      go_wp2_with (at_builtin; refine app_u8 rfl _ _ rfl base _ _ rfl (HS.out.own.alloc _) (some ⟨wr.heap.size, 0, none⟩) 1 1 [y] rfl hr4 ?c1 ?c2 ?_)
      case c1 => simp; omega
      case c2 => have := HS.out.bel.size; simp; omega
      intro v5 W5 ho5 hb5 hg5
      have S5 := HS.out.app hb ho5 hb5 hg5
      have S6 : PutSt base w w.heap.size #[.bool false, .int .i64 n, .string ⟨t.toArray⟩] v5 (xs ++ [1] ++ (be8 V).take 3) W5 := by
          rw [HBE.out]
          simpa using S5
      clear HS ho5 hb5 hg5 hr4
      go_wp2
      exact ⟨⟨3, by omega, rfl, S6⟩, by simp [intOf]⟩
    · have hw : IntKind.u8.wrap (((V : Int) / 4294967296)) = (((UInt8.ofNat (V / 4294967296)).toNat : Nat) : Int) := u8_wrap (V / 4294967296)
      have hbe : (be8 V).take 4 = (be8 V).take 3 ++ [UInt8.ofNat (V / 4294967296)] := rfl
      have HBE := Lib.hid hbe
      clear hbe
      generalize UInt8.ofNat (V / 4294967296) = y at *
      have hr4 := lit_at wr #[.int .u8 ((y.toNat : Nat) : Int)] [y] rfl 1 _ rfl rfl
      go_wp2_with (at_builtin; refine app_u8 rfl _ _ rfl base _ _ rfl (HS.out.own.alloc _) (some ⟨wr.heap.size, 0, none⟩) 1 1 [y] rfl hr4 ?c1 ?c2 ?_)
      case c1 => simp; omega
      case c2 => have := HS.out.bel.size; simp; omega
      intro v5 W5 ho5 hb5 hg5
      have S5 := HS.out.app hb ho5 hb5 hg5
      have S6 : PutSt base w w.heap.size #[.bool false, .int .i64 n, .string ⟨t.toArray⟩] v5 (xs ++ [1] ++ (be8 V).take 4) W5 := by
          rw [HBE.out]
          simpa using S5
      clear HS ho5 hb5 hg5 hr4
      go_wp2
      exact ⟨⟨4, by omega, rfl, S6⟩, by simp [intOf]⟩
    · have hw : IntKind.u8.wrap (((V : Int) / 16777216)) = (((UInt8.ofNat (V / 16777216)).toNat : Nat) : Int) := u8_wrap (V / 16777216)
      have hbe : (be8 V).take 5 = (be8 V).take 4 ++ [UInt8.ofNat (V / 16777216)] := rfl
      have HBE := Lib.hid hbe
      clear hbe
      generalize UInt8.ofNat (V / 16777216) = y at *
      have hr4 := lit_at wr #[.int .u8 ((y.toNat : Nat) : Int)] [y] rfl 1 _ rfl rfl
      go_wp2_with (at_builtin; refine app_u8 rfl _ _ rfl base _ _ rfl (HS.out.own.alloc _) (some ⟨wr.heap.size, 0, none⟩) 1 1 [y] rfl hr4 ?c1 ?c2 ?_)
      case c1 => simp; omega
      case c2 => have := HS.out.bel.size; simp; omega
      intro v5 W5 ho5 hb5 hg5
      have S5 := HS.out.app hb ho5 hb5 hg5
      have S6 : PutSt base w w.heap.size #[.bool false, .int .i64 n, .string ⟨t.toArray⟩] v5 (xs ++ [1] ++ (be8 V).take 5) W5 := by
          rw [HBE.out]
          simpa using S5
      clear HS ho5 hb5 hg5 hr4
      go_wp2
      exact ⟨⟨5, by omega, rfl, S6⟩, by simp [intOf]⟩
    · have hw : IntKind.u8.wrap (((V : Int) / 65536)) = (((UInt8.ofNat (V / 65536)).toNat : Nat) : Int) := u8_wrap (V / 65536)
      have hbe : (be8 V).take 6 = (be8 V).take 5 ++ [UInt8.ofNat (V / 65536)] := rfl
      have HBE := Lib.hid hbe
      clear hbe
      generalize UInt8.ofNat (V / 65536) = y at *
      have hr4 := lit_at wr #[.int .u8 ((y.toNat : Nat) : Int)] [y] rfl 1 _ rfl rfl
      go_wp2_with (at_builtin; refine app_u8 rfl _ _ rfl base _ _ rfl (HS.out.own.alloc _) (some ⟨wr.heap.size, 0, none⟩) 1 1 [y] rfl hr4 ?c1 ?c2 ?_)
      case c1 => simp; omega
      case c2 => have := HS.out.bel.size; simp; omega
      intro v5 W5 ho5 hb5 hg5
      have S5 := HS.out.app hb ho5 hb5 hg5
      have S6 : PutSt base w w.heap.size #[.bool false, .int .i64 n, .string ⟨t.toArray⟩] v5 (xs ++ [1] ++ (be8 V).take 6) W5 := by
          rw [HBE.out]
          simpa using S5
      clear HS ho5 hb5 hg5 hr4
      go_wp2
      exact ⟨⟨6, by omega, rfl, S6⟩, by simp [intOf]⟩
    · have hw : IntKind.u8.wrap (((V : Int) / 256)) = (((UInt8.ofNat (V / 256)).toNat : Nat) : Int) := u8_wrap (V / 256)
      have hbe : (be8 V).take 7 = (be8 V).take 6 ++ [UInt8.ofNat (V / 256)] := rfl
      have HBE := Lib.hid hbe
      clear hbe
      generalize UInt8.ofNat (V / 256) = y at *
      have hr4 := lit_at wr #[.int .u8 ((y.toNat : Nat) : Int)] [y] rfl 1 _ rfl rfl
      go_wp2_with (at_builtin; refine app_u8 rfl _ _ rfl base _ _ rfl (HS.out.own.alloc _) (some ⟨wr.heap.size, 0, none⟩) 1 1 [y] rfl hr4 ?c1 ?c2 ?_)
      case c1 => simp; omega
      case c2 => have := HS.out.bel.size; simp; omega
      intro v5 W5 ho5 hb5 hg5
      have S5 := HS.out.app hb ho5 hb5 hg5
      have S6 : PutSt base w w.heap.size #[.bool false, .int .i64 n, .string ⟨t.toArray⟩] v5 (xs ++ [1] ++ (be8 V).take 7) W5 := by
          rw [HBE.out]
          simpa using S5
      clear HS ho5 hb5 hg5 hr4
      go_wp2
      exact ⟨⟨7, by omega, rfl, S6⟩, by simp [intOf]⟩
    · have hw : IntKind.u8.wrap (((V : Int))) = (((UInt8.ofNat (V)).toNat : Nat) : Int) := u8_wrap (V)
      have hbe : (be8 V).take 8 = (be8 V).take 7 ++ [UInt8.ofNat (V)] := rfl
      have HBE := Lib.hid hbe
      clear hbe
      generalize UInt8.ofNat (V) = y at *
      have hr4 := lit_at wr #[.int .u8 ((y.toNat : Nat) : Int)] [y] rfl 1 _ rfl rfl
      go_wp2_with (at_builtin; refine app_u8 rfl _ _ rfl base _ _ rfl (HS.out.own.alloc _) (some ⟨wr.heap.size, 0, none⟩) 1 1 [y] rfl hr4 ?c1 ?c2 ?_)
      case c1 => simp; omega
      case c2 => have := HS.out.bel.size; simp; omega
      intro v5 W5 ho5 hb5 hg5
      have S5 := HS.out.app hb ho5 hb5 hg5
      have S6 : PutSt base w w.heap.size #[.bool false, .int .i64 n, .string ⟨t.toArray⟩] v5 (xs ++ [1] ++ (be8 V).take 8) W5 := by
          rw [HBE.out]
          simpa using S5
      clear HS ho5 hb5 hg5 hr4
      go_wp2
      exact ⟨⟨8, by omega, rfl, S6⟩, by simp [intOf]⟩
end Go.Proofs.YtbblpehehgeebaaDoor
