/-
  keys.reader: take and part. No statement is proved here.
-/
import Derived.Recover
import Derived.Test.YtbblpehehgeebaaDoorKeyN
namespace Go.Proofs.YtbblpehehgeebaaDoor
open Go.RowKit
set_option linter.unusedVariables false

/-- A slice that reads as l, its memory below b. -/
structure DatB (b : Nat) (w : World) (v : Value) (l : List UInt8) : Prop where
  ex : ∃ A m c, v = .slice A m c ∧ m ≤ c ∧ RdB w A m l ∧ (∀ a, A = some a → a.block < b)
theorem DatB.below {b p : Nat} {w w' : World} {v : Value} {l : List UInt8} (h : DatB b w v l) (hp : b ≤ p) (hb : Below p w w') : DatB b w' v l := by
  obtain ⟨A, m, c, rfl, hc, hr, ha⟩ := h.ex
  refine ⟨A, m, c, rfl, hc, ⟨hr.1, fun hn => ?_⟩, ha⟩
  obtain ⟨g, off, e, hcell⟩ := hr.2 hn
  exact ⟨g, off, e, fun j u hu => (hb.cell (p := ⟨g, off + j, none⟩) (show g < p by have := ha _ e; simp at this; omega)).trans (hcell j u hu)⟩
def errE (e : Int) : Ending := .panicked [{ v := .iface 25 (.int .i64 e), recovered := false }]
set_option maxHeartbeats 1000000 in
theorem take_torn (p A m c k) (l : List UInt8) (w : World) (hp : w.heap[p]? = some (.cells #[.slice A m c] 46 (0, 0))) (hr : RdB w A m l) (hk : m < k) (hk2 : k ≤ 1000) :
    Calls Tryd.prog 36 #[.pointer (some ⟨p, 0, none⟩), .int .i64 (k : Int)] w fun e w' => e = errE 10 ∧ w' = w := by
  have hc : w.cell? ⟨p, 0, none⟩ = some (.slice A m c) := by rw [cell_of_row _ _ _ _ _ _ hp]; rfl
  clear hr hp
  unfold errE
  go_enter Tryd.func36, Tryd.ntmps36
  go_wp2
  exact ⟨rfl, rfl, rfl⟩
set_option maxHeartbeats 1000000 in
theorem take_ok (p : Nat) (A : Option Addr) (m c k : Nat) (l : List UInt8) (w : World) (hp : w.heap[p]? = some (.cells #[.slice A m c] 46 (0, 0))) (hr : RdB w A m l) (hk : k ≤ m) (hm : m ≤ 140737488351232) (hmc : m ≤ c) :
    Calls Tryd.prog 36 #[.pointer (some ⟨p, 0, none⟩), .int .i64 (k : Int)] w fun e w' => e = .returned (.slice A k c) ∧ ∃ A', RdB w A' (m - k) (l.drop k) ∧ (∀ a, A' = some a → ∃ a0, A = some a0 ∧ a.block = a0.block) ∧ w' = w.setCell ⟨p, 0, none⟩ (.slice A' (m - k) (c - k)) := by
  have hc : w.cell? ⟨p, 0, none⟩ = some (.slice A m c) := by rw [cell_of_row _ _ _ _ _ _ hp]; rfl
  have hf : w.frozen? ⟨p, 0, none⟩ = false := by simp [World.frozen?, hp]
  go_enter Tryd.func36, Tryd.ntmps36
  have hcut := hr.cut hk (Nat.le_refl m) hmc
  have hl := hr.len
  rw [List.take_of_length_le (by rw [List.length_drop]; omega)] at hcut
  go_wp2
  · go_ret
    refine ⟨rfl, A, ?_, fun a ha => ⟨a, ha, rfl⟩, rfl⟩
    first
      | (rw [if_pos (by omega)] at hcut; exact hcut)
      | simpa using hcut
  · rename_i hck
    go_ret
    refine ⟨rfl, A.map (·.add k), ?_, fun a ha => ?_, rfl⟩
    · rw [if_neg (by omega)] at hcut; exact hcut
    · rcases A with _ | a0
      · cases ha
      · injection ha with ha
        exact ⟨a0, rfl, by rw [← ha]; rcases a0 with ⟨b0, o0, _ | _⟩ <;> simp [Addr.add] <;> split <;> rfl⟩
theorem take_dat (b p : Nat) (v : Value) (k : Nat) (l : List UInt8) (w : World) (hp : w.heap[p]? = some (.cells #[v] 46 (0, 0))) (hd : DatB b w v l) (hbp : b ≤ p) (hk : k ≤ l.length) (hm : l.length ≤ 140737488351232) :
    Calls Tryd.prog 36 #[.pointer (some ⟨p, 0, none⟩), .int .i64 (k : Int)] w fun e w' => ∃ A c v', e = .returned (.slice A k c) ∧ k ≤ c ∧ RdB w' A k (l.take k) ∧ w'.heap[p]? = some (.cells #[v'] 46 (0, 0)) ∧ DatB b w' v' (l.drop k) ∧ Below p w w' ∧ w'.heap.size = w.heap.size ∧ ∀ q, q ≠ p → w'.heap[q]? = w.heap[q]? := by
  obtain ⟨A, m, c, rfl, hmc, hr, ha⟩ := hd.ex
  have hl := hr.len
  refine (take_ok p A m c k l w hp hr (by omega) (by omega) hmc).mono ?_
  rintro e w' ⟨rfl, A', hr', ha', rfl⟩
  have hb : Below p w (w.setCell ⟨p, 0, none⟩ (.slice A' (m - k) (c - k))) := (Below.refl p w).setCell (p := ⟨p, 0, none⟩) (Nat.le_refl p) _
  have hd2 : DatB b w (.slice A (k) c) (l.take k) := by
    refine ⟨A, k, c, rfl, by omega, ?_, ha⟩
    rcases A with _ | ⟨g, off, _ | _⟩
    · have h0 : m = 0 := by
        rcases Nat.eq_zero_or_pos m with h | h
        · exact h
        · obtain ⟨b0, o0, e⟩ := hr.addr h; cases e
      obtain rfl : k = 0 := by omega
      rw [List.take_zero]
      exact RdB.nil _ _
    · exact hr.pre k (by omega)
    · have h0 : m = 0 := by
        rcases Nat.eq_zero_or_pos m with h | h
        · exact h
        · obtain ⟨b0, o0, e⟩ := hr.addr h; cases e
      obtain rfl : k = 0 := by omega
      rw [List.take_zero]
      exact RdB.nil _ _
  have hd3 : DatB b w (.slice A' (m - k) (c - k)) (l.drop k) := ⟨A', m - k, c - k, rfl, by omega, hr', fun a h => by
    obtain ⟨a0, h1, h2⟩ := ha' a h
    rw [h2]; exact ha a0 h1⟩
  obtain ⟨_, _, _, e2, _, hr2, _⟩ := (hd2.below hbp hb).ex
  injection e2 with e3 e4 e5
  subst e3 e4 e5
  exact ⟨A, c, _, rfl, by omega, hr2, heap_setCell_same _ _ _ _ _ _ hp, hd3.below hbp hb, hb, by simp [World.setCell], fun q hq => heap_setCell_other _ _ _ _ hq⟩
theorem take_short (b p : Nat) (v : Value) (k : Nat) (l : List UInt8) (w : World) (hp : w.heap[p]? = some (.cells #[v] 46 (0, 0))) (hd : DatB b w v l) (hk : l.length < k) (hk2 : k ≤ 1000) :
    Calls Tryd.prog 36 #[.pointer (some ⟨p, 0, none⟩), .int .i64 (k : Int)] w fun e w' => e = errE 10 ∧ w' = w := by
  obtain ⟨A, m, c, rfl, hmc, hr, ha⟩ := hd.ex
  exact take_torn p A m c k l w hp hr (by have := hr.len; omega) hk2
def lenAt (p : Nat) (w : World) : Nat := match w.cell? ⟨p, 0, none⟩ with
  | some (.slice _ m _) => m
  | _ => 0
theorem lenAt_of {b p : Nat} {w : World} {v : Value} {l : List UInt8} (hp : w.heap[p]? = some (.cells #[v] 46 (0, 0))) (hd : DatB b w v l) : lenAt p w = l.length := by
  obtain ⟨A, m, c, rfl, _, hr, _⟩ := hd.ex
  have hc : w.cell? ⟨p, 0, none⟩ = some (.slice A m c) := by rw [cell_of_row _ _ _ _ _ _ hp]; rfl
  unfold lenAt
  rw [hc]
  exact hr.len.symm
structure TextAt (t acc rest : List UInt8) : Prop where
  err : (textRd t).1 = (textRd rest).1
  ok : (textRd rest).1 = 0 → textRd t = (0, acc ++ (textRd rest).2.1, (textRd rest).2.2)
  len : acc.length + rest.length ≤ t.length
theorem TextAt.start (t : List UInt8) : TextAt t [] t := ⟨rfl, fun h => by rw [← h]; rfl, by simp⟩
theorem TextAt.plain {t acc l : List UInt8} {x : UInt8} (h : TextAt t acc (x :: l)) (hx : x ≠ 0) : TextAt t (acc ++ [x]) l := by
  rcases l with _ | ⟨y, l⟩
  · exact ⟨h.err, fun h2 => by simp [textRd] at h2, by have := h.len; simp at this ⊢; omega⟩
  · have e : textRd (x :: y :: l) = ((textRd (y :: l)).1, x :: (textRd (y :: l)).2.1, (textRd (y :: l)).2.2) := by
      rw [textRd, if_neg hx]
    refine ⟨by rw [h.err, e], fun h2 => ?_, by have := h.len; simp at this ⊢; omega⟩
    rw [h.ok (by rw [e]; exact h2), e]
    simp
theorem TextAt.zero {t acc l : List UInt8} (h : TextAt t acc (0 :: 255 :: l)) : TextAt t (acc ++ [0]) l := by
  have e : textRd (0 :: 255 :: l) = ((textRd l).1, 0 :: (textRd l).2.1, (textRd l).2.2) := by
    rw [textRd, if_pos rfl, if_pos rfl]
  refine ⟨by rw [h.err, e], fun h2 => ?_, by have := h.len; simp at this ⊢; omega⟩
  rw [h.ok (by rw [e]; exact h2), e]
  simp
theorem TextAt.done {t acc l : List UInt8} (h : TextAt t acc (0 :: 1 :: l)) : textRd t = (0, acc, l) := by
  have e : textRd (0 :: 1 :: l) = (0, [], l) := by
    rw [textRd, if_pos rfl, if_neg (by decide), if_pos rfl]
  rw [h.ok (by rw [e]), e]
  simp
theorem TextAt.torn {t acc : List UInt8} (h : TextAt t acc []) : (textRd t).1 = 10 := h.err
theorem TextAt.torn0 {t acc : List UInt8} {x : UInt8} (h : TextAt t acc [x]) : (textRd t).1 = 10 := h.err
theorem TextAt.bad {t acc l : List UInt8} {y : UInt8} (h : TextAt t acc (0 :: y :: l)) (h1 : y ≠ 255) (h2 : y ≠ 1) : (textRd t).1 = 11 := by
  rw [h.err, textRd, if_pos rfl, if_neg h1, if_neg h2]
theorem u8_ne {x : UInt8} {k : Nat} (hk : k < 256) (h : x ≠ UInt8.ofNat k) : ¬ (((x.toNat : Nat) : Int) = (k : Int)) := fun e => h (by
  apply UInt8.toNat_inj.1
  rw [u8_ofNat k hk]
  omega)
theorem infoPt (x y z : Value) : (Tryd.prog.info? 40).map (·.size) = some (#[x, y, z] : Array Value).size := by kernel_rfl
theorem belowRow {B : Nat} {a w : World} (h : Below B a w) {g : Nat} (hg : B ≤ g) (cs : Array Value) : Below B a (w.setRow g cs) := by
  refine ⟨h.os, h.tape, h.output, ?_, fun k hk => ?_⟩
  · simp [World.setRow]; exact h.size
  · exact (setRow_other _ _ _ _ (by omega)).trans (h.block k hk)
def partV (p : PartV) : Value := .agg #[.bool p.isText, .int .i64 p.num, .string ⟨p.text.toArray⟩]
def PartEnds (b p : Nat) (r : Int × PartV × List UInt8) (w : World) (e : Ending) (w' : World) : Prop :=
  Below p w w' ∧ ((r.1 = 0 ∧ e = .returned (partV r.2.1) ∧ ∃ v', w'.heap[p]? = some (.cells #[v'] 46 (0, 0)) ∧ DatB b w' v' r.2.2) ∨ (r.1 ≠ 0 ∧ e = errE r.1))
theorem or256 (v x : Nat) (hv : v < 72057594037927936) (hx : x < 256) : bits .or .u64 ((v * 256 : Nat) : Int) (x : Int) = ((v * 256 + x : Nat) : Int) := by
  have e := u64_or_nat (v * 256) x (by omega) (by omega)
  rw [show v * 256 = v <<< 8 from (Nat.shiftLeft_eq v 8).symm, ← Nat.shiftLeft_add_eq_or_of_lt (i := 8) hx] at e
  rw [show v * 256 = v <<< 8 from (Nat.shiftLeft_eq v 8).symm]
  exact e
theorem xorTop (v : Nat) (hv : v < 18446744073709551616) : ∃ z : Nat, bits .xor .u64 (v : Int) 9223372036854775808 = (z : Int) ∧ z < 18446744073709551616 ∧ wrap64 (z : Int) = (v : Int) - 9223372036854775808 := by
  have e := u64_xor_nat v 9223372036854775808 hv (by omega)
  have h1 : (v ^^^ 9223372036854775808) % 9223372036854775808 = v % 9223372036854775808 := by
    have := Nat.xor_mod_two_pow (a := v) (b := 9223372036854775808) (n := 63)
    rw [show (2 : Nat) ^ 63 = 9223372036854775808 by decide, Nat.mod_self, Nat.xor_zero] at this
    exact this
  have h2 : (v ^^^ 9223372036854775808) / 9223372036854775808 = 1 - v / 9223372036854775808 := by
    have := Nat.xor_div_two_pow (a := v) (b := 9223372036854775808) (n := 63)
    rw [show (2 : Nat) ^ 63 = 9223372036854775808 by decide, Nat.div_self (by omega)] at this
    rw [this]
    rcases (show v / 9223372036854775808 = 0 ∨ v / 9223372036854775808 = 1 by omega) with h | h <;> rw [h] <;> rfl
  refine ⟨v ^^^ 9223372036854775808, e, by omega, ?_⟩
  unfold wrap64
  omega
theorem numB_snoc (l : List UInt8) (c : UInt8) : numB (l ++ [c]) = numB l * 256 + c.toNat := by unfold numB; rw [List.foldl_append]; rfl
theorem numB_lt (l : List UInt8) : numB l < 256 ^ l.length := by
  have key : ∀ (k : Nat) (l : List UInt8), l.length = k → numB l < 256 ^ k := by
    intro k
    induction k with
    | zero => intro l hl; rw [List.eq_nil_of_length_eq_zero hl]; decide
    | succ k ih =>
      intro l hl
      rcases List.eq_nil_or_concat l with rfl | ⟨m, c, rfl⟩
      · simp at hl
      · rw [List.concat_eq_append] at hl ⊢
        rw [numB_snoc, Nat.pow_succ]
        have h1 := ih m (by simp at hl; exact hl)
        have h2 := c.toNat_lt
        have h3 : 0 < 256 ^ k := Nat.pow_pos (by omega)
        omega
  exact key _ l rfl
set_option maxHeartbeats 2000000 in
theorem part_any (b p : Nat) (v : Value) (l : List UInt8) (w : World) (hp : w.heap[p]? = some (.cells #[v] 46 (0, 0))) (hd : DatB b w v l) (hbp : b ≤ p) (hm : l.length ≤ 1000000000) :
    Calls Tryd.prog 26 #[.pointer (some ⟨p, 0, none⟩)] w (PartEnds b p (partRd l) w) := by
  have T1 : Hid (∀ (v : Value) (c : UInt8) (l : List UInt8) (w : World), w.heap[p]? = some (.cells #[v] 46 (0, 0)) → DatB b w v (c :: l) → l.length ≤ 1000000000 →
      Calls Tryd.prog 36 #[.pointer (some ⟨p, 0, none⟩), .int .i64 1] w fun e w' => ∃ g off cc v', e = .returned (.slice (some ⟨g, off, none⟩) 1 cc) ∧ 1 ≤ cc ∧ w'.cell? ⟨g, off, none⟩ = some (.int .u8 ((c.toNat : Nat) : Int)) ∧ w'.heap[p]? = some (.cells #[v'] 46 (0, 0)) ∧ DatB b w' v' l ∧ Below p w w' ∧ w'.heap.size = w.heap.size ∧ ∀ q, q ≠ p → w'.heap[q]? = w.heap[q]?) := Lib.hid fun v c l w h1 h2 h3 => by
    refine (take_dat b p v 1 (c :: l) w h1 h2 hbp (by simp) (by simp; omega)).mono ?_
    rintro e w' ⟨A, cc, v', rfl, hc, hr, h4, h5, h6, h7, h8⟩
    obtain ⟨g, off, rfl⟩ := hr.addr (by omega)
    have := hr.cells 0 (by simp)
    exact ⟨g, off, cc, v', rfl, hc, this, h4, h5, h6, h7, h8⟩
  have T0 : Hid (∀ (v : Value) (w : World), w.heap[p]? = some (.cells #[v] 46 (0, 0)) → DatB b w v [] → Calls Tryd.prog 36 #[.pointer (some ⟨p, 0, none⟩), .int .i64 1] w fun e w' => e = errE 10 ∧ w' = w) := Lib.hid fun v w h1 h2 => take_short b p v 1 [] w h1 h2 (by simp) (by omega)
  have T8 : Hid (∀ (v : Value) (l : List UInt8) (w : World), w.heap[p]? = some (.cells #[v] 46 (0, 0)) → DatB b w v l → 8 ≤ l.length → l.length ≤ 1000000000 →
      Calls Tryd.prog 36 #[.pointer (some ⟨p, 0, none⟩), .int .i64 8] w fun e w' => ∃ A c v', e = .returned (.slice A 8 c) ∧ 8 ≤ c ∧ RdB w' A 8 (l.take 8) ∧ w'.heap[p]? = some (.cells #[v'] 46 (0, 0)) ∧ DatB b w' v' (l.drop 8) ∧ Below p w w' ∧ w'.heap.size = w.heap.size ∧ ∀ q, q ≠ p → w'.heap[q]? = w.heap[q]?) := Lib.hid fun v l w h1 h2 h3 h4 => take_dat b p v 8 l w h1 h2 hbp h3 (by omega)
  have T8s : Hid (∀ (v : Value) (l : List UInt8) (w : World), w.heap[p]? = some (.cells #[v] 46 (0, 0)) → DatB b w v l → l.length < 8 → Calls Tryd.prog 36 #[.pointer (some ⟨p, 0, none⟩), .int .i64 8] w fun e w' => e = errE 10 ∧ w' = w) := Lib.hid fun v l w h1 h2 h3 => take_short b p v 8 l w h1 h2 h3 (by omega)
  have hpl : p < w.heap.size := heap_lt' hp
  have hba : ∀ o, Below w.heap.size w (w.alloc o) := fun o => (Below.refl _ _).alloc (Nat.le_refl _) o
  obtain ⟨W1, hW1⟩ : ∃ W1, W1 = w.alloc (.cells #[.bool false, .int .i64 0, .string ⟨#[]⟩] 40) := ⟨_, rfl⟩
  have hb1 : Below w.heap.size w W1 := by rw [hW1]; exact hba _
  have hp1 : W1.heap[p]? = some (.cells #[v] 46 (0, 0)) := (hb1.block p hpl).trans hp
  have hg1 : W1.heap[w.heap.size]? = some (.cells #[.bool false, .int .i64 0, .string ⟨#[]⟩] 40 (0, 0)) := by rw [hW1]; exact heap_alloc_new w _
  have hd1 : DatB b W1 v l := hd.below (by omega) hb1
  have hbp1 : Below p w W1 := hb1.mono (by omega)
  clear hp hd hba hb1
  rcases l with _ | ⟨ch, t⟩
  · have hq : PartEnds b p (partRd []) w = PartEnds b p (10, ⟨false, 0, []⟩, []) w := rfl
    rw [hq]
    unfold PartEnds
    go_enter Tryd.func26, Tryd.ntmps26
    go_wp2_with fail
    rw [← hW1]
    clear hW1
    refine (T0.out v W1 hp1 hd1).mono ?_
    rintro e w' ⟨rfl, rfl⟩
    unfold errE
    go_wp2
    exact ⟨rfl, hbp1, .inr ⟨by decide, rfl⟩⟩
  · rw [List.length_cons] at hm
    by_cases h1 : ch = 1
    · subst h1
      by_cases h8 : t.length < 8
      · have hq : PartEnds b p (partRd (1 :: t)) w = PartEnds b p (10, ⟨false, 0, []⟩, []) w := by rw [partRd_cons, if_pos rfl, if_pos h8]
        rw [hq]
        unfold PartEnds
        have T1' := Lib.hid (T1.out v 1 t W1 hp1 hd1 (by omega))
        go_enter Tryd.func26, Tryd.ntmps26
        go_wp2_with fail
        rw [← hW1]
        clear hW1
        refine T1'.out.mono ?_
        rintro e w2 ⟨g, off, cc, v2, rfl, hcc, hc2, hp2, hd2, hb2, hs2, hk2⟩
        have hc2' : w2.cell? ⟨g, off, none⟩ = some (.int .u8 1) := hc2
        have T8' := Lib.hid (T8s.out v2 t w2 hp2 hd2 h8)
        have HB := Lib.hid (hbp1.trans hb2)
        clear hc2 hp2 hd2 hb2 hs2 hk2 hbp1 hp1 hg1 hd1
        go_wp2_with fail
        refine T8'.out.mono ?_
        rintro e w' ⟨rfl, rfl⟩
        unfold errE
        go_wp2
        exact ⟨rfl, HB.out, .inr ⟨by decide, rfl⟩⟩
      · have hq : PartEnds b p (partRd (1 :: t)) w = PartEnds b p (0, ⟨false, (numB (t.take 8) : Int) - 9223372036854775808, []⟩, t.drop 8) w := by rw [partRd_cons, if_pos rfl, if_neg h8]
        rw [hq]
        unfold PartEnds
        have T1' := Lib.hid (T1.out v 1 t W1 hp1 hd1 (by omega))
        obtain ⟨ys, hys⟩ : ∃ ys, ys = t.take 8 := ⟨_, rfl⟩
        have hl8 : ys.length = 8 := by rw [hys, List.length_take]; omega
        rw [← hys]
        have hn8 := numB_lt ys
        rw [hl8] at hn8
        have hn64 : numB ys < 18446744073709551616 := by have e : (256 : Nat) ^ 8 = 18446744073709551616 := by decide
                                                         omega
        obtain ⟨z, hz1, hz2, hz3⟩ := xorTop _ hn64
        have HTK : Hid (∀ i (hi : i < ys.length), numB (ys.take (i + 1)) = numB (ys.take i) * 256 + (ys[i]).toNat) := Lib.hid fun i hi => by
          rw [take_snoc' _ _ hi, numB_snoc]
        have HTL : Hid (∀ i, i < 8 → numB (ys.take i) < 72057594037927936) := Lib.hid fun i hi => by
          have h1 := numB_lt (ys.take i)
          have h2 : (ys.take i).length = i := by rw [List.length_take]; omega
          rw [h2] at h1
          have h3 : 256 ^ i ≤ 256 ^ 7 := Nat.pow_le_pow_right (by decide) (by omega)
          have e : (256 : Nat) ^ 7 = 72057594037927936 := by decide
          omega
        have HTE : Hid (ys.take 8 = ys) := Lib.hid (List.take_of_length_le (by omega))
        have HL8 := Lib.hid hl8
        have HYS := Lib.hid hys
        have HZ : Hid (bits .xor .u64 ((numB ys : Nat) : Int) 9223372036854775808 = (z : Int) ∧ z < 18446744073709551616 ∧ wrap64 (z : Int) = ((numB ys : Nat) : Int) - 9223372036854775808) := Lib.hid ⟨hz1, hz2, hz3⟩
        obtain ⟨N, hN⟩ : ∃ N, N = numB ys := ⟨_, rfl⟩
        rw [← hN] at HZ ⊢
        have HN := Lib.hid hN
        clear hn8 hn64 hl8 hz1 hz2 hz3 hq hys hN
        go_enter Tryd.func26, Tryd.ntmps26
        go_wp2_with fail
        rw [← hW1]
        clear hW1
        refine T1'.out.mono ?_
        rintro e w2 ⟨g, off, cc, v2, rfl, hcc, hc2, hp2, hd2, hb2, hs2, hk2⟩
        have hc2' : w2.cell? ⟨g, off, none⟩ = some (.int .u8 1) := hc2
        have T8' := Lib.hid (T8.out v2 t w2 hp2 hd2 (by omega) (by omega))
        clear hc2 hp2 hd2 hp1 hd1
        go_wp2_with fail
        refine T8'.out.mono ?_
        rintro e w3 ⟨A, c, v3, rfl, hc8, hr3, hp3, hd3, hb3, hs3, hk3⟩
        rw [← HYS.out] at hr3
        have HB := Lib.hid ((hbp1.trans hb2).trans hb3)
        have HR3 := Lib.hid hr3
        have HP3 := Lib.hid hp3
        have HD3 := Lib.hid hd3
        have HG3 := Lib.hid ((hk3 w.heap.size (by omega)).trans ((hk2 w.heap.size (by omega)).trans hg1))
        clear hbp1 hb2 hb3 hr3 hp3 hd3 hk2 hk3 hg1 hs2 hs3
        go_wp2_with fail
        go_loopw [3, 17] (fun u t wr => ∃ i : Nat, i ≤ 8 ∧ t = .int .i64 i ∧ u = .int .u64 ((numB (ys.take i) : Nat) : Int) ∧ wr = w3) (fun _ t _ => 8 - (intOf t).toNat)
        case atStart => exact ⟨0, by omega, rfl, rfl, rfl⟩
        case round =>
          obtain ⟨i, hi, rfl, rfl, rfl⟩ := hrel
          by_cases hlt : i < 8
          · obtain ⟨g3, off3, rfl⟩ := HR3.out.addr (by omega)
            have hil : i < ys.length := by rw [HL8.out]; exact hlt
            have hc3 := HR3.out.cells i hil
            have hx := (ys[i]'hil).toNat_lt
            have htk := HTK.out i hil
            have htl := HTL.out i hlt
            have hor := or256 _ _ htl hx
            rw [← htk] at hor
            have HNX : Hid (numB (ys.take (i + 1)) = numB (ys.take i) * 256 + (ys[i]'hil).toNat) := Lib.hid htk
            have hnl : numB (ys.take (i + 1)) < 18446744073709551616 := by omega
            clear htk
            generalize (ys[i]'hil).toNat = x at *
            generalize hN1 : numB (ys.take (i + 1)) = n1 at *
            have HN1 := Lib.hid hN1
            clear hN1
            generalize numB (ys.take i) = n0 at *
            have hsh : (n0 : Int) * 256 = ((n0 * 256 : Nat) : Int) := by omega
            rw [← hsh] at hor
            clear hsh
            go_wp2
            go_roundw
            case rel => exact ⟨i + 1, by omega, by go_num, by rw [HN1.out], trivial⟩
            case measure => (try simp [intOf]) <;> (try omega)
          · obtain rfl : i = 8 := by omega
            rw [HTE.out, ← HN.out]
            obtain ⟨hz1, hz2, hz3⟩ := HZ.out
            have hg := HG3.out
            clear HTK HTL HZ
            go_wp2_with (refine wpList_store_row rfl 40 _ _ rfl _ _ rfl rfl _ _ hg (infoPt _ _ _) rfl (by simp [Value.oneCell']) ?_)
            refine bodyPost_ret (results_cell_row (fn := Tryd.f26) rfl _ _ w.heap.size 40 _ (0, 0) _ rfl (setRow_heap _ _ _ _ _ _ hg) Tryd.underlying40 rfl (infoPt _ _ _)) rfl ?_
            have hbs := belowRow HB.out (show p ≤ w.heap.size by omega) #[.bool false, .int .i64 ((N : Int) - 9223372036854775808), .string ⟨#[]⟩]
            exact ⟨hbs, .inl ⟨trivial, rfl, v3, (setRow_other _ _ _ _ (by omega)).trans HP3.out, HD3.out.below (p := w.heap.size) (by omega) (belowRow (Below.refl _ _) (Nat.le_refl _) _)⟩⟩
    · by_cases h2 : ch = 2
      · subst h2
        obtain ⟨e0, tx, rs, hR⟩ : ∃ e0 tx rs, textRd t = (e0, tx, rs) := ⟨_, _, _, rfl⟩
        have hq : PartEnds b p (partRd (2 :: t)) w = PartEnds b p (e0, ⟨true, 0, tx⟩, rs) w := by rw [partRd_cons, if_neg (by decide), if_pos rfl, hR]
        rw [hq]
        unfold PartEnds
        have T1' := Lib.hid (T1.out v 2 t W1 hp1 hd1 (by omega))
        have HR := Lib.hid hR
        clear hR hq h1
        go_enter Tryd.func26, Tryd.ntmps26
        go_wp2_with fail
        rw [← hW1]
        clear hW1
        refine T1'.out.mono ?_
        rintro e w2 ⟨g, off, cc, v2, rfl, hcc, hc2, hp2, hd2, hb2, hs2, hk2⟩
        have hc2' : w2.cell? ⟨g, off, none⟩ = some (.int .u8 2) := hc2
        have HB := Lib.hid (hbp1.trans hb2)
        have hg2 := (hk2 w.heap.size (by omega)).trans hg1
        have hs1 : w.heap.size < W1.heap.size := heap_lt' hg1
        have hsz2 : w.heap.size + 1 ≤ w2.heap.size := by omega
        have HP2 := Lib.hid hp2
        have HD2 := Lib.hid hd2
        have HG2 := Lib.hid hg2
        clear hc2 hp2 hd2 hp1 hd1 hb2 hbp1 hk2 hg2 hg1 hs2
        go_wp2_with fail
        clear hc2'
        go_loopw [6] (fun sv wr => ∃ acc rest v', OwnB wr (w.heap.size + 1) sv acc ∧ wr.heap[p]? = some (.cells #[v'] 46 (0, 0)) ∧ DatB b wr v' rest ∧ wr.heap[w.heap.size]? = some (.cells #[.bool false, .int .i64 0, .string ⟨#[]⟩] 40 (0, 0)) ∧ Below p w wr ∧ w.heap.size + 1 ≤ wr.heap.size ∧ TextAt t acc rest) (fun _ wr => lenAt p wr)
        case atStart => exact ⟨[], t, v2, OwnB.nil _ _, HP2.out, HD2.out, HG2.out, HB.out, hsz2, TextAt.start t⟩
        case round =>
          clear HP2 HD2 HG2 HB
          obtain ⟨acc, rest, v', ho, hp, hd, hg, hb, hsz, hT⟩ := hrel
          rcases rest with _ | ⟨x, rest⟩
          · obtain rfl : e0 = 10 := by have := hT.torn; rw [HR.out] at this; exact this
            have T0' := Lib.hid (T0.out v' wr hp hd)
            have HB := Lib.hid hb
            clear ho hp hd hg hb hT HR
            go_wp2_with fail
            refine T0'.out.mono ?_
            rintro e w' ⟨rfl, rfl⟩
            unfold errE
            go_wp2
            exact ⟨rfl, HB.out, .inr ⟨by decide, rfl⟩⟩
          · have hlt := hT.len
            rw [List.length_cons] at hlt
            have hla := lenAt_of hp hd
            have T1' := Lib.hid (T1.out v' x rest wr hp hd (by omega))
            have HO := Lib.hid ho
            have HP := Lib.hid hp
            have HG := Lib.hid hg
            have HB := Lib.hid hb
            have HT := Lib.hid hT
            have HLA := Lib.hid hla
            clear ho hp hd hg hb hT hla
            go_wp2_with fail
            refine T1'.out.mono ?_
            rintro e w3 ⟨g3, off3, cc3, v3, rfl, hcc3, hc3, hp3, hd3, hb3, hs3, hk3⟩
            have hg3 := (hk3 w.heap.size (by omega)).trans HG.out
            have ho3 : OwnB w3 (w.heap.size + 1) _ acc := HO.out.same fun g hg => hk3 g (by have := (HO.out.block g hg).1; omega)
            have HP3 := Lib.hid hp3
            have HD3 := Lib.hid hd3
            have HG3 := Lib.hid hg3
            have HO3 := Lib.hid ho3
            have HB3 := Lib.hid (HB.out.trans hb3)
            have hsz3 : w.heap.size + 1 ≤ w3.heap.size := by omega
            have HS3 := Lib.hid hs3
            clear hp3 hd3 hg3 ho3 hb3 hk3 hs3 HP HG HO HB
            by_cases hx : x = 0
            · subst hx
              have hc3' : w3.cell? ⟨g3, off3, none⟩ = some (.int .u8 0) := hc3
              clear hc3
              rcases rest with _ | ⟨y, l⟩
              · obtain rfl : e0 = 10 := by have := HT.out.torn0; rw [HR.out] at this; exact this
                have T0' := Lib.hid (T0.out v3 w3 HP3.out HD3.out)
                go_wp2_with fail
                refine T0'.out.mono ?_
                rintro e w' ⟨rfl, rfl⟩
                unfold errE
                go_wp2
                exact ⟨rfl, HB3.out, .inr ⟨by decide, rfl⟩⟩
              · have hll : l.length + 1 = (y :: l).length := rfl
                rw [List.length_cons] at hlt
                have T2' := Lib.hid (T1.out v3 y l w3 HP3.out HD3.out (by omega))
                go_wp2_with fail
                refine T2'.out.mono ?_
                rintro e w5 ⟨g5, off5, cc5, v5, rfl, hcc5, hc5, hp5, hd5, hb5, hs5, hk5⟩
                have hg5 := (hk5 w.heap.size (by omega)).trans HG3.out
                have ho5 : OwnB w5 (w.heap.size + 1) _ acc := HO3.out.same fun g hg => hk5 g (by have := (HO3.out.block g hg).1; omega)
                have HP5 := Lib.hid hp5
                have HD5 := Lib.hid hd5
                have HG5 := Lib.hid hg5
                have HO5 := Lib.hid ho5
                have HB5 := Lib.hid (HB3.out.trans hb5)
                have hsz5 : w.heap.size + 1 ≤ w5.heap.size := by omega
                clear hp5 hd5 hg5 ho5 hb5 hk5 hs5 HP3 HG3 HO3 HB3 HS3 hc3'
                by_cases hy : y = 255
                · subst hy
                  have hc5' : w5.cell? ⟨g5, off5, none⟩ = some (.int .u8 255) := hc5
                  clear hc5
                  have HT2 := Lib.hid HT.out.zero
                  obtain ⟨As, ms, cs, hsv, _⟩ := HO5.out.form
                  subst hsv
                  have hal := HO5.out.1
                  go_wp2_with (at_builtin; refine app_u8 rfl _ _ rfl (w.heap.size + 1) _ acc rfl (HO5.out.alloc _) (some ⟨w5.heap.size, 0, none⟩) 1 1 [0] rfl (RdB.lit _ _ [0] rfl 1 rfl) ?c1 ?c2 ?_)
                  case c1 => omega
                  case c2 => simp; omega
                  intro sv4 w4 hv4 hb4 _
                  have hb34 : Below (w.heap.size + 1) w5 w4 := ((Below.refl _ _).alloc (by omega) _).trans hb4
                  have hp4 := (hb34.block p (by omega)).trans HP5.out
                  have hg4 := (hb34.block w.heap.size (by omega)).trans HG5.out
                  have hd4 := HD5.out.below (p := w.heap.size + 1) (by omega) hb34
                  have hl4 := lenAt_of hp4 hd4
                  have HF : Hid (∃ acc rest v', OwnB w4 (w.heap.size + 1) sv4 acc ∧ w4.heap[p]? = some (.cells #[v'] 46 (0, 0)) ∧ DatB b w4 v' rest ∧ w4.heap[w.heap.size]? = some (.cells #[.bool false, .int .i64 0, .string ⟨#[]⟩] 40 (0, 0)) ∧ Below p w w4 ∧ w.heap.size + 1 ≤ w4.heap.size ∧ TextAt t acc rest) :=
                    Lib.hid ⟨_, _, _, hv4, hp4, hd4, hg4, HB5.out.trans (hb34.mono (by omega)), by have := hb34.size; omega, HT2.out⟩
                  have HL4 := Lib.hid hl4
                  clear hv4 hb4 hb34 hp4 hg4 hd4 hl4 hal
                  go_wp2
                  exact ⟨HF.out, by rw [HL4.out, HLA.out]; simp; omega⟩
                · by_cases hy1 : y = 1
                  · subst hy1
                    have hc5' : w5.cell? ⟨g5, off5, none⟩ = some (.int .u8 1) := hc5
                    clear hc5
                    have hdn := HT.out.done
                    rw [HR.out] at hdn
                    injection hdn with hd1 hd2
                    injection hd2 with hd2 hd3
                    subst hd1 hd2 hd3
                    obtain ⟨As, ms, cs, hsv, _, _, _, hrs, _⟩ := HO5.out.form
                    subst hsv
                    have k1 := hrs.conv (P := Tryd.prog) (src := 24) (dst := 9) Tryd.underlying24 Tryd.underlying5 Tryd.underlying9 cs
                    have hg := HG5.out
                    clear hrs
                    go_wp2_with (refine wpList_store_row rfl 40 _ _ rfl _ _ rfl rfl _ _ hg (infoPt _ _ _) rfl (by simp [Value.oneCell']) ?_)
                    refine bodyPost_ret (results_cell_row (fn := Tryd.f26) rfl _ _ w.heap.size 40 _ (0, 0) _ rfl (setRow_heap _ _ _ _ _ _ hg) Tryd.underlying40 rfl (infoPt _ _ _)) rfl ?_
                    exact ⟨belowRow HB5.out (show p ≤ w.heap.size by omega) _, rfl, v5, (setRow_other _ _ _ _ (by omega)).trans HP5.out, HD5.out.below (p := w.heap.size) (by omega) (belowRow (Below.refl _ _) (Nat.le_refl _) _)⟩
                  · obtain rfl : e0 = 11 := by have := HT.out.bad hy hy1; rw [HR.out] at this; exact this
                    have ky := u8_ne (x := y) (k := 255) (by omega) hy
                    have ky1 := u8_ne (x := y) (k := 1) (by omega) hy1
                    clear hy hy1
                    go_wp2
                    exact ⟨rfl, HB5.out, .inr ⟨by decide, rfl⟩⟩
            · have hx' := u8_ne (x := x) (k := 0) (by omega) hx
              have HT2 := Lib.hid (HT.out.plain hx)
              clear hx
              obtain ⟨As, ms, cs, hsv, _⟩ := HO3.out.form
              subst hsv
              have hal := HO3.out.1
              go_wp2_with (at_builtin; refine app_u8 rfl _ _ rfl (w.heap.size + 1) _ acc rfl (HO3.out.alloc _) (some ⟨w3.heap.size, 0, none⟩) 1 1 [x] rfl (RdB.lit _ _ [x] rfl 1 rfl) ?c1 ?c2 ?_)
              case c1 => omega
              case c2 => simp; omega
              intro sv4 w4 hv4 hb4 _
              have hb34 : Below (w.heap.size + 1) w3 w4 := ((Below.refl _ _).alloc (by omega) _).trans hb4
              have hp4 := (hb34.block p (by omega)).trans HP3.out
              have hg4 := (hb34.block w.heap.size (by omega)).trans HG3.out
              have hd4 := HD3.out.below (p := w.heap.size + 1) (by omega) hb34
              have hl4 := lenAt_of hp4 hd4
              have HF : Hid (∃ acc rest v', OwnB w4 (w.heap.size + 1) sv4 acc ∧ w4.heap[p]? = some (.cells #[v'] 46 (0, 0)) ∧ DatB b w4 v' rest ∧ w4.heap[w.heap.size]? = some (.cells #[.bool false, .int .i64 0, .string ⟨#[]⟩] 40 (0, 0)) ∧ Below p w w4 ∧ w.heap.size + 1 ≤ w4.heap.size ∧ TextAt t acc rest) :=
                Lib.hid ⟨_, _, _, hv4, hp4, hd4, hg4, HB3.out.trans (hb34.mono (by omega)), by have := hb34.size; omega, HT2.out⟩
              have HL4 := Lib.hid hl4
              clear hv4 hb4 hb34 hp4 hg4 hd4 hl4 hal
              go_wp2
              exact ⟨HF.out, by rw [HL4.out, HLA.out]; simp⟩
      · have hq : PartEnds b p (partRd (ch :: t)) w = PartEnds b p (11, ⟨false, 0, []⟩, []) w := by rw [partRd_cons, if_neg h1, if_neg h2]
        rw [hq]
        unfold PartEnds
        have k1 : ¬ (((ch.toNat : Nat) : Int) = 1) := fun h => h1 (by
          apply UInt8.toNat_inj.1
          have e : (1 : UInt8).toNat = 1 := rfl
          rw [e]; omega)
        have k2 : ¬ (((ch.toNat : Nat) : Int) = 2) := fun h => h2 (by
          apply UInt8.toNat_inj.1
          have e : (2 : UInt8).toNat = 2 := rfl
          rw [e]; omega)
        have T1' := Lib.hid (T1.out v ch t W1 hp1 hd1 (by omega))
        go_enter Tryd.func26, Tryd.ntmps26
        go_wp2_with fail
        rw [← hW1]
        clear hW1
        refine T1'.out.mono ?_
        rintro e w2 ⟨g, off, cc, v2, rfl, hcc, hc2, hp2, hd2, hb2, hs2, hk2⟩
        have HB := Lib.hid (hbp1.trans hb2)
        clear hp2 hd2 hb2 hs2 hk2 hbp1 hp1 hg1 hd1 h1 h2
        go_wp2
        exact ⟨rfl, HB.out, .inr ⟨by decide, rfl⟩⟩
end Go.Proofs.YtbblpehehgeebaaDoor
