/-
  Joined texts: AmX AmX2 AmX3 AmX4. No statement is proved here.
-/
import Derived.Shelf.GgClosure.StringsIndexFunc
import Derived.Laws.RangeString
import Derived.Laws.RangeAny
import Derived.Lib.ItoaNum
import Derived.Lib.ParseIntB
import Derived.Lib.ParseIntBCases
import Derived.Test.YthlgjbmkealjjaaGreatDoorAmA
import Derived.Lib.IndexLaws
namespace Go.Proofs.YthlgjbmkealjjaaGreatDoor
open Go.RowKit
set_option linter.unusedVariables false

theorem idx_from (p : Nat → Bool) (hp : ∀ r, 128 ≤ r → p r = true) (s : ByteArray) : ∀ (f pos : Nat), s.size ≤ f + pos →
    (Lib.idxFuncFrom p true s f pos = -1 ↔ ∀ (i : Nat) (h : i < s.size), pos ≤ i → p (s[i]'h).toNat = false) ∧ (Lib.idxFuncFrom p true s f pos = -1 ∨ 0 ≤ Lib.idxFuncFrom p true s f pos)
  | 0, pos, hf => by
    unfold Lib.idxFuncFrom
    exact ⟨⟨fun _ i h h2 => by omega, fun _ => rfl⟩, .inl rfl⟩
  | f + 1, pos, hf => by
    unfold Lib.idxFuncFrom
    by_cases hlt : pos < s.size
    · rw [if_pos hlt]
      by_cases ha : (s[pos]'hlt).toNat < 128
      · rw [decode_ascii s pos hlt ha]
        obtain ⟨i1, i2⟩ := idx_from p hp s f (pos + 1) (by omega)
        by_cases hq : p (s[pos]'hlt).toNat = true
        · rw [if_pos hq]
          refine ⟨⟨fun h => by omega, fun h => ?_⟩, .inr (by omega)⟩
          have := h pos hlt (Nat.le_refl _)
          rw [hq] at this
          cases this
        · rw [if_neg hq]
          refine ⟨⟨fun h i hi hle => ?_, fun h => i1.2 fun i hi hle => h i hi (by omega)⟩, i2⟩
          rcases Nat.eq_or_lt_of_le hle with e | e
          · subst e; simpa using hq
          · exact i1.1 h i hi e
      · have hh := decode_high s pos hlt (by omega)
        rw [if_pos (hp _ hh.1)]
        refine ⟨⟨fun h => by omega, fun h => ?_⟩, .inr (by omega)⟩
        have := h pos hlt (Nat.le_refl _)
        rw [hp _ (by omega)] at this
        cases this
    · rw [if_neg hlt]
      exact ⟨⟨fun _ i h h2 => by omega, fun _ => rfl⟩, .inl rfl⟩
theorem idx_all (p : Nat → Bool) (hp : ∀ r, 128 ≤ r → p r = true) (s : ByteArray) : (!decide (0 ≤ Lib.idxFunc p true s)) = s.data.toList.all fun c => !p c.toNat := by
  obtain ⟨h1, h2⟩ := idx_from p hp s s.size 0 (by omega)
  have e : Lib.idxFunc p true s = Lib.idxFuncFrom p true s s.size 0 := rfl
  rw [e]
  rw [Bool.eq_iff_iff]
  simp only [Bool.not_eq_true', decide_eq_false_iff_not, List.all_eq_true]
  constructor
  · intro h c hc
    have h3 := h1.1 (by omega)
    obtain ⟨i, hi, rfl⟩ := List.getElem_of_mem hc
    exact h3 i (by simpa using hi) (by omega)
  · intro h
    rw [h1.2 fun i hi _ => by
      have := h (s.data.toList[i]'(by simpa using hi)) (List.getElem_mem _)
      exact this]
    omega
end Go.Proofs.YthlgjbmkealjjaaGreatDoor

namespace Go.Proofs.YthlgjbmkealjjaaGreatDoor
open Go.RowKit
set_option linter.unusedVariables false

def digitB (c : UInt8) : Bool := decide (48 ≤ c.toNat) && decide (c.toNat ≤ 57)
def numFrom (n : Nat) (l : List UInt8) : Nat := l.foldl (fun n c => n * 10 + (c.toNat - 48)) n
def numOf (l : List UInt8) : Nat := numFrom 0 l
theorem numFrom_append (n : Nat) (l m : List UInt8) : numFrom n (l ++ m) = numFrom (numFrom n l) m := by unfold numFrom; rw [List.foldl_append]
theorem numOf_snoc (l : List UInt8) (c : UInt8) : numOf (l ++ [c]) = numOf l * 10 + (c.toNat - 48) := by unfold numOf; rw [numFrom_append]; rfl
theorem numFrom_lt (l : List UInt8) : ∀ n, l.all digitB = true → numFrom n l < (n + 1) * 10 ^ l.length := by
  induction l with
  | nil => intro n _; simp [numFrom]
  | cons c l ih =>
    intro n h
    simp only [List.all_cons, Bool.and_eq_true] at h
    have h2 := ih (n * 10 + (c.toNat - 48)) h.2
    have hc : c.toNat ≤ 57 := by have := h.1; simp [digitB] at this; omega
    refine Nat.lt_of_lt_of_le h2 ?_
    rw [List.length_cons, Nat.pow_succ, Nat.mul_comm (10 ^ l.length) 10, ← Nat.mul_assoc]
    exact Nat.mul_le_mul_right _ (by omega)
theorem numOf_lt (l : List UInt8) (h : l.all digitB = true) : numOf l < 10 ^ l.length := by
  have := numFrom_lt l 0 h
  simpa [numOf] using this
theorem parse_ok (l : List UInt8) : ∀ n, l.all digitB = true → (n + 1) * 10 ^ l.length ≤ 10 ^ 19 → Lib.parseUintM (2 ^ 64 - 1) n l = .ok (numFrom n l) := by
  induction l with
  | nil => intro n _ _; rfl
  | cons c l ih =>
    intro n h hb
    simp only [List.all_cons, Bool.and_eq_true] at h
    have h1 := h.1
    simp [digitB] at h1
    have hp : 1 ≤ 10 ^ l.length := Nat.one_le_pow _ _ (by decide)
    rw [List.length_cons, Nat.pow_succ, Nat.mul_comm (10 ^ l.length) 10, ← Nat.mul_assoc] at hb
    have hn : (n + 1) * 10 ≤ 10 ^ 19 := Nat.le_trans (Nat.le_mul_of_pos_right _ hp) hb
    have e19 : (10 : Nat) ^ 19 = 10000000000000000000 := by decide
    unfold Lib.parseUintM
    rw [if_pos h1, if_neg (by omega), if_neg (by omega)]
    exact ih _ h.2 (Nat.le_trans (Nat.mul_le_mul_right _ (by omega)) hb)
theorem parse_num (l : List UInt8) (h : l.all digitB = true) (h0 : l ≠ []) (h19 : l.length ≤ 19) : Lib.parseUintB 64 l = .ok (numOf l) := by
  unfold Lib.parseUintB
  rw [if_neg h0]
  refine parse_ok l 0 h ?_
  rw [Nat.zero_add, Nat.one_mul]
  exact Nat.pow_le_pow_right (by decide) h19
theorem dec_rec (u : Nat) (h : 10 ≤ u) : Lib.decDigits u = Lib.decDigits (u / 10) ++ [UInt8.ofNat (48 + u % 10)] := by
  rw [Lib.decDigits, dif_neg (by omega)]
theorem dec_small (u : Nat) (h : u < 10) : Lib.decDigits u = [UInt8.ofNat (48 + u)] := Lib.decDigits_one h
theorem ofNat_digit (k : Nat) (h : k < 10) : (UInt8.ofNat (48 + k)).toNat = 48 + k := by
  simp [UInt8.toNat_ofNat']
  omega
theorem digit_ofNat (k : Nat) (h : k < 10) : digitB (UInt8.ofNat (48 + k)) = true := by
  unfold digitB
  rw [ofNat_digit k h]
  simp
  omega
theorem dec_all (u : Nat) : (Lib.decDigits u).all digitB = true := by
  induction u using Nat.strongRecOn with
  | _ u ih =>
    rcases Nat.lt_or_ge u 10 with h | h
    · rw [dec_small u h, List.all_cons, digit_ofNat u h]; rfl
    · rw [dec_rec u h, List.all_append, ih _ (by omega), List.all_cons, digit_ofNat _ (Nat.mod_lt _ (by omega))]
      rfl
theorem dec_num (u : Nat) : numOf (Lib.decDigits u) = u := by
  induction u using Nat.strongRecOn with
  | _ u ih =>
    rcases Nat.lt_or_ge u 10 with h | h
    · rw [dec_small u h]
      show 0 * 10 + ((UInt8.ofNat (48 + u)).toNat - 48) = u
      rw [ofNat_digit u h]
      omega
    · rw [dec_rec u h, numOf_snoc, ih _ (by omega), ofNat_digit _ (Nat.mod_lt _ (by omega))]
      omega
theorem dec_ne (u : Nat) : Lib.decDigits u ≠ [] := by
  intro h
  have := Lib.decDigits_length u
  rw [h] at this
  have := Lib.nDigits_pos u
  simp at *
  omega
/-- No zero ahead. -/
def headOk (l : List UInt8) : Prop := 2 ≤ l.length → l[0]? ≠ some 48
theorem dec_head (u : Nat) (h : 0 < u) : (Lib.decDigits u)[0]? ≠ some 48 := by
  induction u using Nat.strongRecOn with
  | _ u ih =>
    rcases Nat.lt_or_ge u 10 with h2 | h2
    · rw [dec_small u h2]
      intro h3
      have h4 : UInt8.ofNat (48 + u) = 48 := by simpa using h3
      have := ofNat_digit u h2
      rw [h4] at this
      have e : (48 : UInt8).toNat = 48 := rfl
      omega
    · rw [dec_rec u h2]
      have h3 := ih (u / 10) (by omega) (by omega)
      have h4 : 0 < (Lib.decDigits (u / 10)).length := by rw [Lib.decDigits_length]; exact Lib.nDigits_pos _
      rw [List.getElem?_append_left h4]
      exact h3
theorem dec_headOk (u : Nat) : headOk (Lib.decDigits u) := by
  intro h
  rcases Nat.eq_zero_or_pos u with rfl | h2
  · rw [dec_small 0 (by omega)] at h
    simp at h
  · exact dec_head u h2
theorem byte_of (c : UInt8) (h : digitB c = true) : c = UInt8.ofNat (48 + (c.toNat - 48)) ∧ c.toNat - 48 < 10 := by
  simp [digitB] at h
  refine ⟨?_, by omega⟩
  rw [show 48 + (c.toNat - 48) = c.toNat by omega]
  simp
theorem snoc_cases (l : List UInt8) : l = [] ∨ ∃ m c, l = m ++ [c] := by
  rcases List.eq_nil_or_concat l with h | ⟨m, c, h⟩
  · exact .inl h
  · exact .inr ⟨m, c, by simpa using h⟩
theorem num_pos_of_head (l : List UInt8) (h : l.all digitB = true) (h0 : l ≠ []) (hh : l[0]? ≠ some 48) : 0 < numOf l := by
  rcases l with _ | ⟨c, l⟩
  · exact absurd rfl h0
  · simp only [List.all_cons, Bool.and_eq_true] at h
    obtain ⟨e, hc⟩ := byte_of c h.1
    have hne : c.toNat - 48 ≠ 0 := by
      intro h3
      rw [h3] at e
      exact hh (by rw [e]; rfl)
    have key : ∀ (l : List UInt8) (n : Nat), n ≤ numFrom n l := by
      intro l
      induction l with
      | nil => intro n; exact Nat.le_refl _
      | cons c l ih => intro n; exact Nat.le_trans (show n ≤ n * 10 + (c.toNat - 48) by omega) (ih _)
    have := key l (0 * 10 + (c.toNat - 48))
    show 0 < numFrom (0 * 10 + (c.toNat - 48)) l
    omega
/-- Digits without a zero ahead are a number's own. -/
theorem dec_of (n : Nat) : ∀ l : List UInt8, l.length = n → l.all digitB = true → l ≠ [] → headOk l → Lib.decDigits (numOf l) = l := by
  induction n with
  | zero => intro l hl _ h0 _; exact absurd (List.length_eq_zero_iff.1 hl) h0
  | succ n ih =>
    intro l hl ha h0 hh
    rcases snoc_cases l with rfl | ⟨m, c, rfl⟩
    · exact absurd rfl h0
    · rw [List.all_append, Bool.and_eq_true] at ha
      have hc : digitB c = true := by have := ha.2; simpa using this
      obtain ⟨e, hc10⟩ := byte_of c hc
      rw [numOf_snoc]
      rcases m with _ | ⟨d, m⟩
      · have e0 : numOf [] = 0 := rfl
        rw [e0, Nat.zero_mul, Nat.zero_add, dec_small _ hc10, ← e]
        rfl
      · have hm : (d :: m)[0]? ≠ some 48 := by
          have := hh (by simp)
          simpa using this
        have hp := num_pos_of_head (d :: m) ha.1 (by simp) hm
        rw [dec_rec _ (by omega), show (numOf (d :: m) * 10 + (c.toNat - 48)) / 10 = numOf (d :: m) by omega, show (numOf (d :: m) * 10 + (c.toNat - 48)) % 10 = c.toNat - 48 by omega, ← e,
          ih (d :: m) (by simp at hl ⊢; omega) ha.1 (by simp) (fun _ => hm)]
end Go.Proofs.YthlgjbmkealjjaaGreatDoor

namespace Go.Proofs.YthlgjbmkealjjaaGreatDoor
open Go.RowKit
set_option linter.unusedVariables false

def whole (d : List UInt8) : List UInt8 := d.take (d.length - 3)
def cents (d : List UInt8) : List UInt8 := d.drop (d.length - 2)
structure okBody (d : List UInt8) : Prop where
  h4 : 4 ≤ d.length
  h20 : d.length ≤ 20
  dot : d[d.length - 3]? = some 46
  hw : (whole d).all digitB = true
  hc : (cents d).all digitB = true
  hd : ¬ (5 ≤ d.length ∧ d[0]? = some 48)
theorem okBody_iff (d : List UInt8) : okBody d ↔ (4 ≤ d.length ∧ d.length ≤ 20 ∧ d[d.length - 3]? = some 46 ∧ (whole d).all digitB = true ∧ (cents d).all digitB = true ∧ ¬ (5 ≤ d.length ∧ d[0]? = some 48)) :=
  ⟨fun h => ⟨h.h4, h.h20, h.dot, h.hw, h.hc, h.hd⟩, fun ⟨a, b, c, d, e, f⟩ => ⟨a, b, c, d, e, f⟩⟩
instance (d : List UInt8) : Decidable (okBody d) := decidable_of_iff' _ (okBody_iff d)
theorem body_mk (w : List UInt8) (a b : UInt8) (h1 : 1 ≤ w.length) (h17 : w.length ≤ 17) (hw : w.all digitB = true) (ha : digitB a = true) (hb : digitB b = true) (hh : headOk w) :
    okBody (w ++ [46, a, b]) ∧ whole (w ++ [46, a, b]) = w ∧ cents (w ++ [46, a, b]) = [a, b] := by
  have hl : (w ++ [46, a, b]).length = w.length + 3 := by simp
  have ew : whole (w ++ [46, a, b]) = w := by
    unfold whole
    rw [hl, show w.length + 3 - 3 = w.length by omega]
    simp
  have ec : cents (w ++ [46, a, b]) = [a, b] := by
    unfold cents
    rw [hl, show w.length + 3 - 2 = w.length + 1 by omega, ← List.drop_drop]
    simp
  refine ⟨⟨by omega, by omega, ?_, by rw [ew]; exact hw, by rw [ec]; simp [ha, hb], ?_⟩, ew, ec⟩
  · rw [hl, show w.length + 3 - 3 = w.length by omega]
    simp
  · rintro ⟨h5, h6⟩
    rw [hl] at h5
    rw [List.getElem?_append_left (by omega)] at h6
    exact hh (by omega) h6
theorem body_split (d : List UInt8) (h : okBody d) : ∃ w a b, d = w ++ [46, a, b] ∧ whole d = w ∧ cents d = [a, b] ∧ 1 ≤ w.length ∧ w.length ≤ 17 ∧ w.all digitB = true ∧ digitB a = true ∧ digitB b = true ∧ headOk w := by
  have h4 := h.h4
  have h20 := h.h20
  have hlt : d.length - 3 < d.length := by omega
  have hl1 : (cents d).length = 2 := by unfold cents; rw [List.length_drop]; omega
  obtain ⟨a, b, hab⟩ : ∃ a b, cents d = [a, b] := by
    match cents d, hl1 with
    | [a, b], _ => exact ⟨a, b, rfl⟩
  have e1 : d = whole d ++ d.drop (d.length - 3) := (List.take_append_drop _ _).symm
  have e2 : d.drop (d.length - 3) = d[d.length - 3] :: d.drop (d.length - 3 + 1) := List.drop_eq_getElem_cons hlt
  have e3 : d[d.length - 3] = 46 := by
    have := h.dot
    rw [List.getElem?_eq_getElem hlt] at this
    exact Option.some.inj this
  have e4 : d.drop (d.length - 3 + 1) = cents d := by unfold cents; rw [show d.length - 3 + 1 = d.length - 2 by omega]
  have hc := h.hc
  rw [hab] at hc
  simp only [List.all_cons, List.all_nil, Bool.and_true, Bool.and_eq_true] at hc
  have hwl : (whole d).length = d.length - 3 := by unfold whole; rw [List.length_take]; omega
  refine ⟨whole d, a, b, ?_, rfl, hab, by omega, by omega, h.hw, hc.1, hc.2, ?_⟩
  · rw [e3, e4, hab] at e2
    rw [e2] at e1
    exact e1
  · intro h2 h3
    refine h.hd ⟨by omega, ?_⟩
    have : (whole d)[0]? = d[0]? := by
      unfold whole
      rw [List.getElem?_take]
      rw [if_pos (by omega)]
    rw [this] at h3
    exact h3
def minusOf (l : List UInt8) : Bool := l.head? == some 45
def bodyOf (l : List UInt8) : List UInt8 := if minusOf l = true then l.tail else l
/-- What Read answers. -/
def readOf (l : List UInt8) : Int × Int :=
  if okBody (bodyOf l) ∧ ¬ (minusOf l = true ∧ bodyOf l = [48, 46, 48, 48]) then sgn (numOf (whole (bodyOf l) ++ cents (bodyOf l))) (minusOf l) else (0, 7)
def bodyL (n : Nat) : List UInt8 := Lib.decDigits (n / 100) ++ [46, UInt8.ofNat (48 + n % 100 / 10), UInt8.ofNat (48 + n % 100 % 10)]
/-- An amount as text. -/
def textL (v : Int) : List UInt8 := if v < 0 then 45 :: bodyL v.natAbs else bodyL v.natAbs
theorem nDigits_le (u : Nat) (h : u < 100000000000000000) : Lib.nDigits u ≤ 17 := by
  rcases Nat.lt_or_ge 17 (Lib.nDigits u) with h2 | h2
  · have key : ∀ k u, k < Lib.nDigits u → 10 ^ k ≤ u ∨ k = 0 := by
      intro k
      induction k with
      | zero => intro u _; exact .inr rfl
      | succ k ih =>
        intro u h
        rcases Nat.lt_or_ge u 10 with h3 | h3
        · rw [Lib.nDigits_small h3] at h; omega
        · rw [Lib.nDigits_big (by omega)] at h
          rcases ih (u / 10) (by omega) with h4 | h4
          · left; rw [Nat.pow_succ]; omega
          · left; subst h4; simpa using h3
    rcases key 17 u h2 with h3 | h3
    · have e : (10 : Nat) ^ 17 = 100000000000000000 := by decide
      omega
    · omega
  · exact h2
theorem num_cat (u a b : Nat) (ha : a < 10) (hb : b < 10) : numOf (Lib.decDigits u ++ [UInt8.ofNat (48 + a), UInt8.ofNat (48 + b)]) = u * 100 + a * 10 + b := by
  rw [show Lib.decDigits u ++ [UInt8.ofNat (48 + a), UInt8.ofNat (48 + b)] = (Lib.decDigits u ++ [UInt8.ofNat (48 + a)]) ++ [UInt8.ofNat (48 + b)] by simp, numOf_snoc, numOf_snoc, dec_num, ofNat_digit a ha, ofNat_digit b hb]
  omega
theorem bodyL_ok (n : Nat) (h : n ≤ 9223372036854775808) : okBody (bodyL n) ∧ numOf (whole (bodyL n) ++ cents (bodyL n)) = n := by
  obtain ⟨h1, h2, h3⟩ := body_mk (Lib.decDigits (n / 100)) (UInt8.ofNat (48 + n % 100 / 10)) (UInt8.ofNat (48 + n % 100 % 10)) (by rw [Lib.decDigits_length]; exact Lib.nDigits_pos _) (by rw [Lib.decDigits_length]; exact nDigits_le _ (by omega)) (dec_all _) (digit_ofNat _ (by omega)) (digit_ofNat _ (by omega)) (dec_headOk _)
  refine ⟨h1, ?_⟩
  unfold bodyL
  rw [h2, h3, num_cat _ _ _ (by omega) (by omega)]
  omega
theorem bodyL_head (n : Nat) : (bodyL n).head? ≠ some 45 := by
  have h1 := dec_all (n / 100)
  have h2 := dec_ne (n / 100)
  unfold bodyL
  intro h
  rcases hd : Lib.decDigits (n / 100) with _ | ⟨c, l⟩
  · exact h2 hd
  · rw [hd] at h h1
    simp only [List.cons_append, List.head?_cons, Option.some.injEq] at h
    subst h
    simp [digitB] at h1
theorem text_back (v : Int) (h0 : -9223372036854775808 ≤ v) (h1 : v ≤ 9223372036854775807) : readOf (textL v) = (v, 0) := by
  obtain ⟨b1, b2⟩ := bodyL_ok v.natAbs (by omega)
  have b3 := bodyL_head v.natAbs
  by_cases hv : v < 0
  · have em : minusOf (textL v) = true := by unfold textL minusOf; rw [if_pos hv]; rfl
    have eb : bodyOf (textL v) = bodyL v.natAbs := by unfold bodyOf; rw [if_pos em]; unfold textL; rw [if_pos hv]; rfl
    unfold readOf
    rw [em, eb, b2, if_pos ⟨b1, fun hh => by
      rw [hh.2] at b2
      have e : numOf (whole [48, 46, 48, 48] ++ cents [48, 46, 48, 48]) = 0 := by decide
      omega⟩]
    unfold sgn
    rw [if_pos rfl, if_pos (by omega)]
    congr 1
    omega
  · have et : textL v = bodyL v.natAbs := by unfold textL; rw [if_neg hv]
    have em : minusOf (textL v) = false := by
      rw [et]
      unfold minusOf
      simpa using b3
    have eb : bodyOf (textL v) = bodyL v.natAbs := by unfold bodyOf; rw [em, if_neg (by simp), et]
    unfold readOf
    rw [em, eb, b2, if_pos ⟨b1, fun hh => by simp at hh⟩]
    unfold sgn
    rw [if_neg (by simp), if_pos (by omega)]
    congr 1
    omega
theorem back_text (l : List UInt8) (x : Int) (h : readOf l = (x, 0)) : textL x = l := by
  unfold readOf at h
  by_cases hk : okBody (bodyOf l) ∧ ¬ (minusOf l = true ∧ bodyOf l = [48, 46, 48, 48])
  · rw [if_pos hk] at h
    obtain ⟨w, a, b, e, e1, e2, l1, l17, hw, ha, hb, hh⟩ := body_split _ hk.1
    rw [e1, e2] at h
    obtain ⟨ea, a10⟩ := byte_of a ha
    obtain ⟨eb, b10⟩ := byte_of b hb
    have hdw := dec_of _ w rfl hw (by intro h0; rw [h0] at l1; simp at l1) hh
    have hn : numOf (w ++ [a, b]) = numOf w * 100 + (a.toNat - 48) * 10 + (b.toNat - 48) := by
      rw [show w ++ [a, b] = (w ++ [a]) ++ [b] by simp, numOf_snoc, numOf_snoc]
      omega
    have hbl : bodyL (numOf (w ++ [a, b])) = bodyOf l := by
      rw [e]
      unfold bodyL
      rw [hn, show (numOf w * 100 + (a.toNat - 48) * 10 + (b.toNat - 48)) / 100 = numOf w by omega, hdw,
        show (numOf w * 100 + (a.toNat - 48) * 10 + (b.toNat - 48)) % 100 / 10 = a.toNat - 48 by omega, show (numOf w * 100 + (a.toNat - 48) * 10 + (b.toNat - 48)) % 100 % 10 = b.toNat - 48 by omega, ← ea, ← eb]
    generalize hN : numOf (w ++ [a, b]) = N at *
    unfold sgn at h
    cases hm : minusOf l
    · rw [hm, if_neg (by simp)] at h
      split at h
      · have hx : x = N := by have := congrArg Prod.fst h; simpa using this.symm
        subst hx
        unfold textL
        rw [if_neg (by omega), show (N : Int).natAbs = N by omega, hbl]
        unfold bodyOf
        rw [hm, if_neg (by simp)]
      · have := congrArg Prod.snd h
        simp at this
    · rw [hm, if_pos rfl] at h
      split at h
      · have hx : x = -(N : Int) := by have := congrArg Prod.fst h; simpa using this.symm
        subst hx
        have hl : l = 45 :: bodyOf l := by
          unfold bodyOf
          rw [if_pos hm]
          unfold minusOf at hm
          rcases l with _ | ⟨c, l⟩
          · simp at hm
          · have : c = 45 := by simpa using hm
            subst this
            rfl
        have hpos : 0 < N := by
          rcases Nat.eq_zero_or_pos N with h0 | h0
          · exfalso
            refine hk.2 ⟨hm, ?_⟩
            rw [← hbl, h0]
            decide +kernel
          · exact h0
        unfold textL
        rw [if_pos (by omega), show (-(N : Int)).natAbs = N by omega, hbl]
        exact hl.symm
      · have := congrArg Prod.snd h
        simp at this
  · rw [if_neg hk] at h
    have := congrArg Prod.snd h
    simp at this
end Go.Proofs.YthlgjbmkealjjaaGreatDoor

namespace Go.Proofs.YthlgjbmkealjjaaGreatDoor
open Go.RowKit
set_option linter.unusedVariables false

theorem readOf_bad (l : List UInt8) (h : ¬ okBody (bodyOf l)) : readOf l = (0, 7) := by
  unfold readOf
  rw [if_neg fun hh => h hh.1]
theorem readOf_bad0 (l : List UInt8) (h : minusOf l = true) (h2 : bodyOf l = [48, 46, 48, 48]) : readOf l = (0, 7) := by
  unfold readOf
  rw [if_neg fun hh => hh.2 ⟨h, h2⟩]
theorem readOf_good (l : List UInt8) (h : okBody (bodyOf l)) (h2 : ¬ (minusOf l = true ∧ bodyOf l = [48, 46, 48, 48])) : readOf l = sgn (numOf (whole (bodyOf l) ++ cents (bodyOf l))) (minusOf l) := by
  unfold readOf
  rw [if_pos ⟨h, h2⟩]
theorem dot_first (d : List UInt8) (h : okBody d) : Lib.indexByte d 46 = ((d.length - 3 : Nat) : Int) := by
  have hge := Lib.indexByte_ge d 46
  rcases (show Lib.indexByte d 46 < 0 ∨ 0 ≤ Lib.indexByte d 46 by omega) with h1 | h1
  · exact absurd h.dot (Lib.indexByte_none (show Lib.indexByte d 46 = -1 by omega) _)
  · obtain ⟨j, hj⟩ := Int.eq_ofNat_of_zero_le h1
    obtain ⟨k1, k2⟩ := Lib.indexByte_some hj
    rw [hj]
    rcases Nat.lt_trichotomy j (d.length - 3) with hlt | he | hgt
    · exfalso
      have hm : (46 : UInt8) ∈ whole d := by
        refine List.mem_of_getElem? (i := j) ?_
        unfold whole
        rw [List.getElem?_take, if_pos hlt, k1]
      have := List.all_eq_true.1 h.hw 46 hm
      simp [digitB] at this
    · rw [he]
    · exact absurd h.dot (k2 _ hgt)
theorem body_parts (d : List UInt8) (j : Nat) (h : d.length = j + 3) : whole d = d.take j ∧ cents d = d.drop (j + 1) := by
  unfold whole cents
  rw [h, show j + 3 - 3 = j by omega, show j + 3 - 2 = j + 1 by omega]
  exact ⟨rfl, rfl⟩
theorem impl_ok (d : List UInt8) (j : Nat) (hj : Lib.indexByte d 46 = (j : Int)) (h0 : d.length = j + 3) (h1 : 1 ≤ j) (h2 : j ≤ 17) (h3 : (d.take j).all digitB = true) (h4 : (d.drop (j + 1)).all digitB = true) (h5 : ¬ (1 < j ∧ d[0]? = some 48)) : okBody d := by
  obtain ⟨e1, e2⟩ := body_parts d j h0
  refine ⟨by omega, by omega, ?_, by rw [e1]; exact h3, by rw [e2]; exact h4, fun h => h5 ⟨by omega, h.2⟩⟩
  rw [h0, show j + 3 - 3 = j by omega]
  exact (Lib.indexByte_some hj).1
theorem impl_back (d : List UInt8) (j : Nat) (hj : Lib.indexByte d 46 = (j : Int)) (h : okBody d) : d.length = j + 3 ∧ 1 ≤ j ∧ j ≤ 17 ∧ (d.take j).all digitB = true ∧ (d.drop (j + 1)).all digitB = true ∧ ¬ (1 < j ∧ d[0]? = some 48) := by
  have e := dot_first d h
  rw [hj] at e
  have h4 := h.h4
  have h20 := h.h20
  have hl : d.length = j + 3 := by omega
  obtain ⟨e1, e2⟩ := body_parts d j hl
  have hw := h.hw
  have hc := h.hc
  rw [e1] at hw
  rw [e2] at hc
  exact ⟨hl, by omega, by omega, hw, hc, fun hh => h.hd ⟨by omega, hh.2⟩⟩
theorem neg_zero_iff (l : List UInt8) : (minusOf l = true ∧ bodyOf l = [48, 46, 48, 48]) ↔ l = [45, 48, 46, 48, 48] := by
  constructor
  · rintro ⟨h1, h2⟩
    unfold bodyOf at h2
    rw [if_pos h1] at h2
    unfold minusOf at h1
    rcases l with _ | ⟨c, l⟩
    · simp at h1
    · have : c = 45 := by simpa using h1
      subst this
      have : l = [48, 46, 48, 48] := h2
      subst this
      rfl
  · rintro rfl
    exact ⟨by decide, by decide⟩
/-- What has been read behind i bytes. -/
def proc (d : List UInt8) (i : Nat) : List UInt8 := if i ≤ d.length - 3 then d.take i else d.take (d.length - 3) ++ (d.drop (d.length - 3 + 1)).take (i - (d.length - 3) - 1)
theorem proc_zero (d : List UInt8) : proc d 0 = [] := by unfold proc; rw [if_pos (by omega), List.take_zero]
theorem proc_step (d : List UInt8) (i : Nat) (h : i < d.length) (hk : i ≠ d.length - 3) : proc d (i + 1) = proc d i ++ [d[i]] := by
  unfold proc
  by_cases h1 : i ≤ d.length - 3
  · rw [if_pos h1, if_pos (by omega), List.take_succ_eq_append_getElem h]
  · rw [if_neg h1, if_neg (by omega), List.append_assoc]
    congr 1
    have h2 : i - (d.length - 3) - 1 < (d.drop (d.length - 3 + 1)).length := by rw [List.length_drop]; omega
    rw [show i + 1 - (d.length - 3) - 1 = i - (d.length - 3) - 1 + 1 by omega, List.take_succ_eq_append_getElem h2]
    congr 2
    rw [List.getElem_drop]
    congr 1
    omega
theorem proc_dot (d : List UInt8) (h : 4 ≤ d.length) : proc d (d.length - 3 + 1) = proc d (d.length - 3) := by
  unfold proc
  rw [if_neg (by omega), if_pos (Nat.le_refl _), show d.length - 3 + 1 - (d.length - 3) - 1 = 0 by omega, List.take_zero, List.append_nil]
theorem proc_end (d : List UInt8) (h : 4 ≤ d.length) : proc d d.length = whole d ++ cents d := by
  unfold proc whole cents
  rw [if_neg (by omega)]
  congr 1
  rw [show d.length - 3 + 1 = d.length - 2 by omega]
  refine List.take_of_length_le ?_
  rw [List.length_drop]
  omega
theorem proc_len (d : List UInt8) (i : Nat) (h : i ≤ d.length) : (proc d i).length ≤ i := by
  unfold proc
  split
  · rw [List.length_take]; omega
  · rw [List.length_append, List.length_take, List.length_take]; omega
theorem proc_all (d : List UInt8) (h4 : 4 ≤ d.length) (h20 : d.length ≤ 20) (hdot : d[d.length - 3]? = some 46) (hd : ¬ (5 ≤ d.length ∧ d[0]? = some 48)) (h : (proc d d.length).all digitB = true) : okBody d := by
  rw [proc_end d h4, List.all_append, Bool.and_eq_true] at h
  exact ⟨h4, h20, hdot, h.1, h.2, hd⟩
theorem bad_digit (d : List UInt8) (i : Nat) (hi : i < d.length) (hne : i ≠ d.length - 3) (h4 : 4 ≤ d.length) (hb : digitB d[i] = false) : ¬ okBody d := by
  intro h
  rcases Nat.lt_or_ge i (d.length - 3) with h1 | h1
  · have hm : d[i] ∈ whole d := by
      refine List.mem_of_getElem? (i := i) ?_
      unfold whole
      rw [List.getElem?_take, if_pos h1, List.getElem?_eq_getElem hi]
    have := List.all_eq_true.1 h.hw _ hm
    rw [hb] at this
    cases this
  · have hm : d[i] ∈ cents d := by
      refine List.mem_of_getElem? (i := i - (d.length - 2)) ?_
      unfold cents
      rw [List.getElem?_drop, show d.length - 2 + (i - (d.length - 2)) = i by omega, List.getElem?_eq_getElem hi]
    have := List.all_eq_true.1 h.hc _ hm
    rw [hb] at this
    cases this
end Go.Proofs.YthlgjbmkealjjaaGreatDoor
