/-
  Plain laws on amounts as texts. No program in sight.
-/
import Derived.Test.YtjniclalobggpaaDoorAmX2
import Derived.Test.YtjniclalobggpaaDoorAmP
namespace Go.Proofs.YtjniclalobggpaaDoor
open Go.RowKit
set_option linter.unusedVariables false

def whole (d : List UInt8) : List UInt8 := d.take (d.length - 3)
def cents (d : List UInt8) : List UInt8 := d.drop (d.length - 2)
structure okBody (d : List UInt8) : Prop where
  h4 : 4 ≤ d.length
  h20 : d.length ≤ 20
  dot : d[d.length - 3]? = some 46
  hw : (whole d).all digitB = true
  hc : (cents d).all digitB = true
  hd : ¬ (5 ≤ d.length ∧ d[0]? = some 48)
theorem okBody_iff (d : List UInt8) : okBody d ↔ (4 ≤ d.length ∧ d.length ≤ 20 ∧ d[d.length - 3]? = some 46 ∧ (whole d).all digitB = true ∧ (cents d).all digitB = true ∧ ¬ (5 ≤ d.length ∧ d[0]? = some 48)) :=
  ⟨fun h => ⟨h.h4, h.h20, h.dot, h.hw, h.hc, h.hd⟩, fun ⟨a, b, c, d, e, f⟩ => ⟨a, b, c, d, e, f⟩⟩
instance (d : List UInt8) : Decidable (okBody d) := decidable_of_iff' _ (okBody_iff d)
theorem body_mk (w : List UInt8) (a b : UInt8) (h1 : 1 ≤ w.length) (h17 : w.length ≤ 17) (hw : w.all digitB = true) (ha : digitB a = true) (hb : digitB b = true) (hh : headOk w) :
    okBody (w ++ [46, a, b]) ∧ whole (w ++ [46, a, b]) = w ∧ cents (w ++ [46, a, b]) = [a, b] := by
  have hl : (w ++ [46, a, b]).length = w.length + 3 := by simp
  have ew : whole (w ++ [46, a, b]) = w := by
    unfold whole
    rw [hl, show w.length + 3 - 3 = w.length by omega]
    simp
  have ec : cents (w ++ [46, a, b]) = [a, b] := by
    unfold cents
    rw [hl, show w.length + 3 - 2 = w.length + 1 by omega, ← List.drop_drop]
    simp
  refine ⟨⟨by omega, by omega, ?_, by rw [ew]; exact hw, by rw [ec]; simp [ha, hb], ?_⟩, ew, ec⟩
  · rw [hl, show w.length + 3 - 3 = w.length by omega]
    simp
  · rintro ⟨h5, h6⟩
    rw [hl] at h5
    rw [List.getElem?_append_left (by omega)] at h6
    exact hh (by omega) h6
theorem body_split (d : List UInt8) (h : okBody d) : ∃ w a b, d = w ++ [46, a, b] ∧ whole d = w ∧ cents d = [a, b] ∧ 1 ≤ w.length ∧ w.length ≤ 17 ∧ w.all digitB = true ∧ digitB a = true ∧ digitB b = true ∧ headOk w := by
  have h4 := h.h4
  have h20 := h.h20
  have hlt : d.length - 3 < d.length := by omega
  have hl1 : (cents d).length = 2 := by unfold cents; rw [List.length_drop]; omega
  obtain ⟨a, b, hab⟩ : ∃ a b, cents d = [a, b] := by
    match cents d, hl1 with
    | [a, b], _ => exact ⟨a, b, rfl⟩
  have e1 : d = whole d ++ d.drop (d.length - 3) := (List.take_append_drop _ _).symm
  have e2 : d.drop (d.length - 3) = d[d.length - 3] :: d.drop (d.length - 3 + 1) := List.drop_eq_getElem_cons hlt
  have e3 : d[d.length - 3] = 46 := by
    have := h.dot
    rw [List.getElem?_eq_getElem hlt] at this
    exact Option.some.inj this
  have e4 : d.drop (d.length - 3 + 1) = cents d := by unfold cents; rw [show d.length - 3 + 1 = d.length - 2 by omega]
  have hc := h.hc
  rw [hab] at hc
  simp only [List.all_cons, List.all_nil, Bool.and_true, Bool.and_eq_true] at hc
  have hwl : (whole d).length = d.length - 3 := by unfold whole; rw [List.length_take]; omega
  refine ⟨whole d, a, b, ?_, rfl, hab, by omega, by omega, h.hw, hc.1, hc.2, ?_⟩
  · rw [e3, e4, hab] at e2
    rw [e2] at e1
    exact e1
  · intro h2 h3
    refine h.hd ⟨by omega, ?_⟩
    have : (whole d)[0]? = d[0]? := by
      unfold whole
      rw [List.getElem?_take]
      rw [if_pos (by omega)]
    rw [this] at h3
    exact h3
def minusOf (l : List UInt8) : Bool := l.head? == some 45
def bodyOf (l : List UInt8) : List UInt8 := if minusOf l = true then l.tail else l
/-- What Read answers. -/
def readOf (l : List UInt8) : Int × Int :=
  if okBody (bodyOf l) ∧ ¬ (minusOf l = true ∧ bodyOf l = [48, 46, 48, 48]) then sgn (numOf (whole (bodyOf l) ++ cents (bodyOf l))) (minusOf l) else (0, 7)
def bodyL (n : Nat) : List UInt8 := Lib.decDigits (n / 100) ++ [46, UInt8.ofNat (48 + n % 100 / 10), UInt8.ofNat (48 + n % 100 % 10)]
/-- An amount as text. -/
def textL (v : Int) : List UInt8 := if v < 0 then 45 :: bodyL v.natAbs else bodyL v.natAbs
theorem nDigits_le (u : Nat) (h : u < 100000000000000000) : Lib.nDigits u ≤ 17 := by
  rcases Nat.lt_or_ge 17 (Lib.nDigits u) with h2 | h2
  · have key : ∀ k u, k < Lib.nDigits u → 10 ^ k ≤ u ∨ k = 0 := by
      intro k
      induction k with
      | zero => intro u _; exact .inr rfl
      | succ k ih =>
        intro u h
        rcases Nat.lt_or_ge u 10 with h3 | h3
        · rw [Lib.nDigits_small h3] at h; omega
        · rw [Lib.nDigits_big (by omega)] at h
          rcases ih (u / 10) (by omega) with h4 | h4
          · left; rw [Nat.pow_succ]; omega
          · left; subst h4; simpa using h3
    rcases key 17 u h2 with h3 | h3
    · have e : (10 : Nat) ^ 17 = 100000000000000000 := by decide
      omega
    · omega
  · exact h2
theorem num_cat (u a b : Nat) (ha : a < 10) (hb : b < 10) : numOf (Lib.decDigits u ++ [UInt8.ofNat (48 + a), UInt8.ofNat (48 + b)]) = u * 100 + a * 10 + b := by
  rw [show Lib.decDigits u ++ [UInt8.ofNat (48 + a), UInt8.ofNat (48 + b)] = (Lib.decDigits u ++ [UInt8.ofNat (48 + a)]) ++ [UInt8.ofNat (48 + b)] by simp, numOf_snoc, numOf_snoc, dec_num, ofNat_digit a ha, ofNat_digit b hb]
  omega
theorem bodyL_ok (n : Nat) (h : n ≤ 9223372036854775808) : okBody (bodyL n) ∧ numOf (whole (bodyL n) ++ cents (bodyL n)) = n := by
  obtain ⟨h1, h2, h3⟩ := body_mk (Lib.decDigits (n / 100)) (UInt8.ofNat (48 + n % 100 / 10)) (UInt8.ofNat (48 + n % 100 % 10)) (by rw [Lib.decDigits_length]; exact Lib.nDigits_pos _) (by rw [Lib.decDigits_length]; exact nDigits_le _ (by omega)) (dec_all _) (digit_ofNat _ (by omega)) (digit_ofNat _ (by omega)) (dec_headOk _)
  refine ⟨h1, ?_⟩
  unfold bodyL
  rw [h2, h3, num_cat _ _ _ (by omega) (by omega)]
  omega
theorem bodyL_head (n : Nat) : (bodyL n).head? ≠ some 45 := by
  have h1 := dec_all (n / 100)
  have h2 := dec_ne (n / 100)
  unfold bodyL
  intro h
  rcases hd : Lib.decDigits (n / 100) with _ | ⟨c, l⟩
  · exact h2 hd
  · rw [hd] at h h1
    simp only [List.cons_append, List.head?_cons, Option.some.injEq] at h
    subst h
    simp [digitB] at h1
theorem text_back (v : Int) (h0 : -9223372036854775808 ≤ v) (h1 : v ≤ 9223372036854775807) : readOf (textL v) = (v, 0) := by
  obtain ⟨b1, b2⟩ := bodyL_ok v.natAbs (by omega)
  have b3 := bodyL_head v.natAbs
  by_cases hv : v < 0
  · have em : minusOf (textL v) = true := by unfold textL minusOf; rw [if_pos hv]; rfl
    have eb : bodyOf (textL v) = bodyL v.natAbs := by unfold bodyOf; rw [if_pos em]; unfold textL; rw [if_pos hv]; rfl
    unfold readOf
    rw [em, eb, b2, if_pos ⟨b1, fun hh => by
      rw [hh.2] at b2
      have e : numOf (whole [48, 46, 48, 48] ++ cents [48, 46, 48, 48]) = 0 := by decide
      omega⟩]
    unfold sgn
    rw [if_pos rfl, if_pos (by omega)]
    congr 1
    omega
  · have et : textL v = bodyL v.natAbs := by unfold textL; rw [if_neg hv]
    have em : minusOf (textL v) = false := by
      rw [et]
      unfold minusOf
      simpa using b3
    have eb : bodyOf (textL v) = bodyL v.natAbs := by unfold bodyOf; rw [em, if_neg (by simp), et]
    unfold readOf
    rw [em, eb, b2, if_pos ⟨b1, fun hh => by simp at hh⟩]
    unfold sgn
    rw [if_neg (by simp), if_pos (by omega)]
    congr 1
    omega
theorem back_text (l : List UInt8) (x : Int) (h : readOf l = (x, 0)) : textL x = l := by
  unfold readOf at h
  by_cases hk : okBody (bodyOf l) ∧ ¬ (minusOf l = true ∧ bodyOf l = [48, 46, 48, 48])
  · rw [if_pos hk] at h
    obtain ⟨w, a, b, e, e1, e2, l1, l17, hw, ha, hb, hh⟩ := body_split _ hk.1
    rw [e1, e2] at h
    obtain ⟨ea, a10⟩ := byte_of a ha
    obtain ⟨eb, b10⟩ := byte_of b hb
    have hdw := dec_of _ w rfl hw (by intro h0; rw [h0] at l1; simp at l1) hh
    have hn : numOf (w ++ [a, b]) = numOf w * 100 + (a.toNat - 48) * 10 + (b.toNat - 48) := by
      rw [show w ++ [a, b] = (w ++ [a]) ++ [b] by simp, numOf_snoc, numOf_snoc]
      omega
    have hbl : bodyL (numOf (w ++ [a, b])) = bodyOf l := by
      rw [e]
      unfold bodyL
      rw [hn, show (numOf w * 100 + (a.toNat - 48) * 10 + (b.toNat - 48)) / 100 = numOf w by omega, hdw,
        show (numOf w * 100 + (a.toNat - 48) * 10 + (b.toNat - 48)) % 100 / 10 = a.toNat - 48 by omega, show (numOf w * 100 + (a.toNat - 48) * 10 + (b.toNat - 48)) % 100 % 10 = b.toNat - 48 by omega, ← ea, ← eb]
    generalize hN : numOf (w ++ [a, b]) = N at *
    unfold sgn at h
    cases hm : minusOf l
    · rw [hm, if_neg (by simp)] at h
      split at h
      · have hx : x = N := by have := congrArg Prod.fst h; simpa using this.symm
        subst hx
        unfold textL
        rw [if_neg (by omega), show (N : Int).natAbs = N by omega, hbl]
        unfold bodyOf
        rw [hm, if_neg (by simp)]
      · have := congrArg Prod.snd h
        simp at this
    · rw [hm, if_pos rfl] at h
      split at h
      · have hx : x = -(N : Int) := by have := congrArg Prod.fst h; simpa using this.symm
        subst hx
        have hl : l = 45 :: bodyOf l := by
          unfold bodyOf
          rw [if_pos hm]
          unfold minusOf at hm
          rcases l with _ | ⟨c, l⟩
          · simp at hm
          · have : c = 45 := by simpa using hm
            subst this
            rfl
        have hpos : 0 < N := by
          rcases Nat.eq_zero_or_pos N with h0 | h0
          · exfalso
            refine hk.2 ⟨hm, ?_⟩
            rw [← hbl, h0]
            decide +kernel
          · exact h0
        unfold textL
        rw [if_pos (by omega), show (-(N : Int)).natAbs = N by omega, hbl]
        exact hl.symm
      · have := congrArg Prod.snd h
        simp at this
  · rw [if_neg hk] at h
    have := congrArg Prod.snd h
    simp at this
end Go.Proofs.YtjniclalobggpaaDoor
