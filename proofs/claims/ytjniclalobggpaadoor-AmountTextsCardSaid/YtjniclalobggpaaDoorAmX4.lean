/-
  Plain laws on the reading of amounts, for both readers. No program in sight.
-/
import Derived.Test.YtjniclalobggpaaDoorAmX3
import Derived.Lib.IndexLaws
namespace Go.Proofs.YtjniclalobggpaaDoor
open Go.RowKit
set_option linter.unusedVariables false

theorem readOf_bad (l : List UInt8) (h : ¬ okBody (bodyOf l)) : readOf l = (0, 7) := by
  unfold readOf
  rw [if_neg fun hh => h hh.1]
theorem readOf_bad0 (l : List UInt8) (h : minusOf l = true) (h2 : bodyOf l = [48, 46, 48, 48]) : readOf l = (0, 7) := by
  unfold readOf
  rw [if_neg fun hh => hh.2 ⟨h, h2⟩]
theorem readOf_good (l : List UInt8) (h : okBody (bodyOf l)) (h2 : ¬ (minusOf l = true ∧ bodyOf l = [48, 46, 48, 48])) : readOf l = sgn (numOf (whole (bodyOf l) ++ cents (bodyOf l))) (minusOf l) := by
  unfold readOf
  rw [if_pos ⟨h, h2⟩]
theorem dot_first (d : List UInt8) (h : okBody d) : Lib.indexByte d 46 = ((d.length - 3 : Nat) : Int) := by
  have hge := Lib.indexByte_ge d 46
  rcases (show Lib.indexByte d 46 < 0 ∨ 0 ≤ Lib.indexByte d 46 by omega) with h1 | h1
  · exact absurd h.dot (Lib.indexByte_none (show Lib.indexByte d 46 = -1 by omega) _)
  · obtain ⟨j, hj⟩ := Int.eq_ofNat_of_zero_le h1
    obtain ⟨k1, k2⟩ := Lib.indexByte_some hj
    rw [hj]
    rcases Nat.lt_trichotomy j (d.length - 3) with hlt | he | hgt
    · exfalso
      have hm : (46 : UInt8) ∈ whole d := by
        refine List.mem_of_getElem? (i := j) ?_
        unfold whole
        rw [List.getElem?_take, if_pos hlt, k1]
      have := List.all_eq_true.1 h.hw 46 hm
      simp [digitB] at this
    · rw [he]
    · exact absurd h.dot (k2 _ hgt)
theorem body_parts (d : List UInt8) (j : Nat) (h : d.length = j + 3) : whole d = d.take j ∧ cents d = d.drop (j + 1) := by
  unfold whole cents
  rw [h, show j + 3 - 3 = j by omega, show j + 3 - 2 = j + 1 by omega]
  exact ⟨rfl, rfl⟩
theorem impl_ok (d : List UInt8) (j : Nat) (hj : Lib.indexByte d 46 = (j : Int)) (h0 : d.length = j + 3) (h1 : 1 ≤ j) (h2 : j ≤ 17) (h3 : (d.take j).all digitB = true) (h4 : (d.drop (j + 1)).all digitB = true) (h5 : ¬ (1 < j ∧ d[0]? = some 48)) : okBody d := by
  obtain ⟨e1, e2⟩ := body_parts d j h0
  refine ⟨by omega, by omega, ?_, by rw [e1]; exact h3, by rw [e2]; exact h4, fun h => h5 ⟨by omega, h.2⟩⟩
  rw [h0, show j + 3 - 3 = j by omega]
  exact (Lib.indexByte_some hj).1
theorem impl_back (d : List UInt8) (j : Nat) (hj : Lib.indexByte d 46 = (j : Int)) (h : okBody d) : d.length = j + 3 ∧ 1 ≤ j ∧ j ≤ 17 ∧ (d.take j).all digitB = true ∧ (d.drop (j + 1)).all digitB = true ∧ ¬ (1 < j ∧ d[0]? = some 48) := by
  have e := dot_first d h
  rw [hj] at e
  have h4 := h.h4
  have h20 := h.h20
  have hl : d.length = j + 3 := by omega
  obtain ⟨e1, e2⟩ := body_parts d j hl
  have hw := h.hw
  have hc := h.hc
  rw [e1] at hw
  rw [e2] at hc
  exact ⟨hl, by omega, by omega, hw, hc, fun hh => h.hd ⟨by omega, hh.2⟩⟩
theorem neg_zero_iff (l : List UInt8) : (minusOf l = true ∧ bodyOf l = [48, 46, 48, 48]) ↔ l = [45, 48, 46, 48, 48] := by
  constructor
  · rintro ⟨h1, h2⟩
    unfold bodyOf at h2
    rw [if_pos h1] at h2
    unfold minusOf at h1
    rcases l with _ | ⟨c, l⟩
    · simp at h1
    · have : c = 45 := by simpa using h1
      subst this
      have : l = [48, 46, 48, 48] := h2
      subst this
      rfl
  · rintro rfl
    exact ⟨by decide, by decide⟩
/-- What has been read behind i bytes. -/
def proc (d : List UInt8) (i : Nat) : List UInt8 := if i ≤ d.length - 3 then d.take i else d.take (d.length - 3) ++ (d.drop (d.length - 3 + 1)).take (i - (d.length - 3) - 1)
theorem proc_zero (d : List UInt8) : proc d 0 = [] := by unfold proc; rw [if_pos (by omega), List.take_zero]
theorem proc_step (d : List UInt8) (i : Nat) (h : i < d.length) (hk : i ≠ d.length - 3) : proc d (i + 1) = proc d i ++ [d[i]] := by
  unfold proc
  by_cases h1 : i ≤ d.length - 3
  · rw [if_pos h1, if_pos (by omega), List.take_succ_eq_append_getElem h]
  · rw [if_neg h1, if_neg (by omega), List.append_assoc]
    congr 1
    have h2 : i - (d.length - 3) - 1 < (d.drop (d.length - 3 + 1)).length := by rw [List.length_drop]; omega
    rw [show i + 1 - (d.length - 3) - 1 = i - (d.length - 3) - 1 + 1 by omega, List.take_succ_eq_append_getElem h2]
    congr 2
    rw [List.getElem_drop]
    congr 1
    omega
theorem proc_dot (d : List UInt8) (h : 4 ≤ d.length) : proc d (d.length - 3 + 1) = proc d (d.length - 3) := by
  unfold proc
  rw [if_neg (by omega), if_pos (Nat.le_refl _), show d.length - 3 + 1 - (d.length - 3) - 1 = 0 by omega, List.take_zero, List.append_nil]
theorem proc_end (d : List UInt8) (h : 4 ≤ d.length) : proc d d.length = whole d ++ cents d := by
  unfold proc whole cents
  rw [if_neg (by omega)]
  congr 1
  rw [show d.length - 3 + 1 = d.length - 2 by omega]
  refine List.take_of_length_le ?_
  rw [List.length_drop]
  omega
theorem proc_len (d : List UInt8) (i : Nat) (h : i ≤ d.length) : (proc d i).length ≤ i := by
  unfold proc
  split
  · rw [List.length_take]; omega
  · rw [List.length_append, List.length_take, List.length_take]; omega
theorem proc_all (d : List UInt8) (h4 : 4 ≤ d.length) (h20 : d.length ≤ 20) (hdot : d[d.length - 3]? = some 46) (hd : ¬ (5 ≤ d.length ∧ d[0]? = some 48)) (h : (proc d d.length).all digitB = true) : okBody d := by
  rw [proc_end d h4, List.all_append, Bool.and_eq_true] at h
  exact ⟨h4, h20, hdot, h.1, h.2, hd⟩
theorem bad_digit (d : List UInt8) (i : Nat) (hi : i < d.length) (hne : i ≠ d.length - 3) (h4 : 4 ≤ d.length) (hb : digitB d[i] = false) : ¬ okBody d := by
  intro h
  rcases Nat.lt_or_ge i (d.length - 3) with h1 | h1
  · have hm : d[i] ∈ whole d := by
      refine List.mem_of_getElem? (i := i) ?_
      unfold whole
      rw [List.getElem?_take, if_pos h1, List.getElem?_eq_getElem hi]
    have := List.all_eq_true.1 h.hw _ hm
    rw [hb] at this
    cases this
  · have hm : d[i] ∈ cents d := by
      refine List.mem_of_getElem? (i := i - (d.length - 2)) ?_
      unfold cents
      rw [List.getElem?_drop, show d.length - 2 + (i - (d.length - 2)) = i by omega, List.getElem?_eq_getElem hi]
    have := List.all_eq_true.1 h.hc _ hm
    rw [hb] at this
    cases this
end Go.Proofs.YtjniclalobggpaaDoor
