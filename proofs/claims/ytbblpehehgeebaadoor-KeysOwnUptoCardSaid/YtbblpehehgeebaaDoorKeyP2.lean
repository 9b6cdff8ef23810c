/-
  Plain laws on keys: how rows are written and read. No program in sight.
-/
import Derived.Test.YtbblpehehgeebaaDoorKeyP
namespace Go.Proofs.YtbblpehehgeebaaDoor
open Go.RowKit
set_option linter.unusedVariables false

/-- A part of a row. -/
structure PartV where
  isText : Bool
  num : Int
  text : List UInt8
def PartV.ok (p : PartV) : Prop := -9223372036854775808 ≤ p.num ∧ p.num ≤ 9223372036854775807
def PartV.odd (p : PartV) : Bool := if p.isText = true then decide (p.num ≠ 0) else decide (p.text ≠ [])
def PartV.long (p : PartV) : Bool := p.isText && decide (64 < p.text.length)
def esc : List UInt8 → List UInt8
  | [] => []
  | c :: l => if c = 0 then 0 :: 255 :: esc l else c :: esc l
def be8 (v : Nat) : List UInt8 := [UInt8.ofNat (v / 72057594037927936), UInt8.ofNat (v / 281474976710656), UInt8.ofNat (v / 1099511627776), UInt8.ofNat (v / 4294967296), UInt8.ofNat (v / 16777216), UInt8.ofNat (v / 65536), UInt8.ofNat (v / 256), UInt8.ofNat v]
def partE (p : PartV) : List UInt8 := if p.isText = true then 2 :: (esc p.text ++ [0, 1]) else 1 :: be8 (p.num + 9223372036854775808).toNat
def encL (ps : List PartV) : List UInt8 := ps.flatMap partE
/-- What Encode answers. -/
def encOf (ps : List PartV) : List UInt8 × Int :=
  if 8 < ps.length ∨ ps.any PartV.long = true then ([], 3)
  else if ps.any PartV.odd = true then ([], 2)
  else if (encL ps).length = 0 ∨ 200 < (encL ps).length then ([], 30)
  else (encL ps, 0)
/-- A text up to its end: error, text, rest. -/
def textRd : List UInt8 → Int × List UInt8 × List UInt8
  | [] => (10, [], [])
  | [x] => (10, [], [])
  | x :: y :: l =>
    if x = 0 then (if y = 255 then ((textRd l).1, 0 :: (textRd l).2.1, (textRd l).2.2) else if y = 1 then (0, [], l) else (11, [], []))
    else ((textRd (y :: l)).1, x :: (textRd (y :: l)).2.1, (textRd (y :: l)).2.2)
def numB (l : List UInt8) : Nat := l.foldl (fun v c => v * 256 + c.toNat) 0
/-- One part: error, part, rest. -/
def partRd : List UInt8 → Int × PartV × List UInt8
  | [] => (10, ⟨false, 0, []⟩, [])
  | c :: l =>
    if c = 1 then (if l.length < 8 then (10, ⟨false, 0, []⟩, []) else (0, ⟨false, (numB (l.take 8) : Int) - 9223372036854775808, []⟩, l.drop 8))
    else if c = 2 then ((textRd l).1, ⟨true, 0, (textRd l).2.1⟩, (textRd l).2.2)
    else (11, ⟨false, 0, []⟩, [])
theorem partRd_cons (c : UInt8) (l : List UInt8) : partRd (c :: l) = if c = 1 then (if l.length < 8 then (10, ⟨false, 0, []⟩, []) else (0, ⟨false, (numB (l.take 8) : Int) - 9223372036854775808, []⟩, l.drop 8))
    else if c = 2 then ((textRd l).1, ⟨true, 0, (textRd l).2.1⟩, (textRd l).2.2)
    else (11, ⟨false, 0, []⟩, []) := rfl
theorem textRd_rest : ∀ l : List UInt8, (textRd l).2.2.length ≤ l.length
  | [] => by simp [textRd]
  | [x] => by simp [textRd]
  | x :: y :: l => by
    have h1 := textRd_rest l
    have h2 := textRd_rest (y :: l)
    unfold textRd
    split
    · split
      · simp; omega
      · split
        · simp; omega
        · simp
    · simp at h2 ⊢; omega
theorem partRd_rest (c : UInt8) (l : List UInt8) : (partRd (c :: l)).2.2.length ≤ l.length := by
  rw [partRd_cons]
  split
  · split
    · simp
    · simp
  · split
    · exact textRd_rest l
    · simp
/-- All parts: error, parts. -/
def partsRd : Nat → List UInt8 → Int × List PartV
  | 0, _ => (0, [])
  | _ + 1, [] => (0, [])
  | f + 1, c :: l => if (partRd (c :: l)).1 = 0 then ((partsRd f (partRd (c :: l)).2.2).1, (partRd (c :: l)).2.1 :: (partsRd f (partRd (c :: l)).2.2).2) else ((partRd (c :: l)).1, [])
/-- What Decode answers. -/
def decOf (b : List UInt8) : List PartV × Int :=
  if (partsRd (b.length + 1) b).1 ≠ 0 then ([], (partsRd (b.length + 1) b).1)
  else if 8 < (partsRd (b.length + 1) b).2.length ∨ (partsRd (b.length + 1) b).2.any PartV.long = true then ([], 3)
  else if b.length = 0 ∨ 200 < b.length then ([], 30)
  else ((partsRd (b.length + 1) b).2, 0)
theorem textRd_esc (t l : List UInt8) : textRd (esc t ++ (0 :: 1 :: l)) = (0, t, l) := by
  induction t with
  | nil => simp [esc, textRd]
  | cons c t ih =>
    unfold esc
    by_cases h : c = 0
    · subst h
      rw [if_pos rfl, List.cons_append, List.cons_append]
      unfold textRd
      rw [if_pos rfl, if_pos rfl, ih]
    · rw [if_neg h, List.cons_append]
      obtain ⟨y, r, hr⟩ : ∃ y r, esc t ++ 0 :: 1 :: l = y :: r := by
        rcases esc t with _ | ⟨y, r⟩
        · exact ⟨0, _, rfl⟩
        · exact ⟨y, _, rfl⟩
      rw [hr] at ih ⊢
      unfold textRd
      rw [if_neg h, ih]
theorem be8_len (v : Nat) : (be8 v).length = 8 := rfl
theorem be8_num (v : Nat) (h : v < 18446744073709551616) : numB (be8 v) = v := by
  unfold be8 numB
  simp [UInt8.toNat_ofNat']
  omega
theorem partRd_enc (p : PartV) (l : List UInt8) (hp : p.ok) (ho : p.odd = false) : partRd (partE p ++ l) = (0, p, l) := by
  obtain ⟨h0, h1⟩ := hp
  rcases p with ⟨b, n, t⟩
  rcases b with _ | _
  · simp [PartV.odd] at ho
    subst ho
    simp only [partE, Bool.false_eq_true, if_false, List.cons_append]
    rw [partRd_cons, if_pos rfl, if_neg (by rw [List.length_append, be8_len]; omega), List.take_left' (be8_len _), List.drop_left' (be8_len _), be8_num _ (by simp only at h0 h1; omega)]
    simp only at h0 h1
    congr 3
    omega
  · simp [PartV.odd] at ho
    subst ho
    simp only [partE, if_true, List.cons_append]
    rw [partRd_cons, if_neg (by decide), if_pos rfl, List.append_assoc]
    have e : esc t ++ ([0, 1] ++ l) = esc t ++ (0 :: 1 :: l) := rfl
    rw [e, textRd_esc]
end Go.Proofs.YtbblpehehgeebaaDoor
