/-
  Plain laws: a loan that is posted from state to state. No statement is proved here.
-/
import Derived.Test.YtpmbbhefcejjlaaLedS
namespace Go.Proofs.Ytpmbbhefcejjlaa
open Go.RowKit
set_option linter.unusedVariables false

theorem w64_id (x : Int) (h1 : -9223372036854775808 ≤ x) (h2 : x ≤ 9223372036854775807) : w64 x = x := by
  unfold w64
  rw [IntKind.wrap_i64]
  omega
theorem addT_other (f : Int → Int) (x : Int × Int) (a : Int) (h : a ≠ x.1) : addT f x a = f a := by unfold addT; rw [if_neg h]
theorem addT_same (f : Int → Int) (x : Int × Int) : addT f x x.1 = w64 (f x.1 + x.2) := by unfold addT; rw [if_pos rfl]
theorem totF_append (xs ys : List (Int × Int)) : totF (xs ++ ys) = ys.foldl addT (totF xs) := by simp [totF]
theorem fold_upTo (s t : St) (f : Int → Int) (j i : Nat) (hj : j ≤ 7) (hi : i < 7) :
    (upTo s t j).foldl addT f ((i : Int) + 1) = if i < j ∧ (amts t).getD i 0 ≠ (amts s).getD i 0 then w64 (f ((i : Int) + 1) + ((amts t).getD i 0 - (amts s).getD i 0)) else f ((i : Int) + 1) := by
  induction j with
  | zero => simp [upTo]
  | succ j ih =>
    have ih := ih (by omega)
    by_cases he : (amts t).getD j 0 = (amts s).getD j 0
    · rw [upTo_skip s t j (by omega) he, ih]
      by_cases h1 : i = j
      · subst h1
        rw [if_neg (fun h => h.2 he), if_neg (fun h => h.2 he)]
      · have e : (i < j ∧ (amts t).getD i 0 ≠ (amts s).getD i 0) = (i < j + 1 ∧ (amts t).getD i 0 ≠ (amts s).getD i 0) := by
          rw [eq_iff_iff]
          constructor <;> rintro ⟨h2, h3⟩ <;> exact ⟨by omega, h3⟩
        simp only [e]
    · rw [upTo_add s t j (by omega) he, List.foldl_append, List.foldl_cons, List.foldl_nil]
      by_cases h1 : i = j
      · subst h1
        rw [if_pos ⟨by omega, he⟩]
        rw [if_neg (by omega)] at ih
        rw [addT_same, ih]
      · rw [addT_other _ _ _ (by simp; omega), ih]
        have e : (i < j ∧ (amts t).getD i 0 ≠ (amts s).getD i 0) = (i < j + 1 ∧ (amts t).getD i 0 ≠ (amts s).getD i 0) := by
          rw [eq_iff_iff]
          constructor <;> rintro ⟨h2, h3⟩ <;> exact ⟨by omega, h3⟩
        simp only [e]
theorem tot_lines (s t : St) (xs : List (Int × Int)) (ht : Within t) (h : ∀ i : Nat, i < 7 → totF xs ((i : Int) + 1) = (amts s).getD i 0) (i : Nat) (hi : i < 7) : totF (xs ++ linesOf s t) ((i : Int) + 1) = (amts t).getD i 0 := by
  rw [totF_append, ← upTo_all, fold_upTo s t _ 7 i (Nat.le_refl _) hi, h i hi]
  have hf := amt_fits ht i hi
  by_cases he : (amts t).getD i 0 = (amts s).getD i 0
  · rw [if_neg (fun h => h.2 he), he]
  · rw [if_pos ⟨hi, he⟩, show (amts s).getD i 0 + ((amts t).getD i 0 - (amts s).getD i 0) = (amts t).getD i 0 by omega]
    exact w64_id _ (by omega) (by omega)
theorem rows_lines (F : Int → Int) (t : St) (h : ∀ i : Nat, i < 7 → F ((i : Int) + 1) = (amts t).getD i 0) (k : Nat) (hk : k ≤ 7) : rowsT F k = upTo S0 t k := by
  have h0 : ∀ i : Nat, i < 7 → (amts S0).getD i 0 = 0 := by decide
  induction k with
  | zero => rfl
  | succ k ih =>
    have ih := ih (by omega)
    rw [rowsT_step, ih, h k (by omega)]
    by_cases he : (amts t).getD k 0 = 0
    · rw [upTo_skip S0 t k (by omega) (by rw [he, h0 k (by omega)]), he]
      simp
    · rw [upTo_add S0 t k (by omega) (by rw [h0 k (by omega)]; exact he), h0 k (by omega)]
      have : ((amts t).getD k 0 != 0) = true := by rw [bne_iff_ne]; exact he
      rw [if_pos this]
      simp
/-- What holds while a loan is posted from state to state. -/
structure SumInv (ps : List PV) (s : St) (day : Int) (loan : ByteArray) : Prop where
  within : Within s
  even : Even s
  tot : ∀ i : Nat, i < 7 → totF (flatL ps) ((i : Int) + 1) = (amts s).getD i 0
  all : ∀ p ∈ ps, p.loan = loan ∧ p.day = day
theorem within0 : Within S0 := by
  intro x hx
  unfold eight S0 at hx
  simp at hx
  subst hx
  unfold fits
  omega
theorem even0 : Even S0 := by unfold Even S0; rfl
theorem SumInv.start (day : Int) (loan : ByteArray) : SumInv [] S0 day loan := ⟨within0, even0, fun i hi => by
  have h0 : ∀ i : Nat, i < 7 → (amts S0).getD i 0 = 0 := by decide
  rw [h0 i hi]
  rfl, by simp⟩
theorem linesAt_zero {s t : St} (h : (linesAt s t).2 = 0) : Within t ∧ Even t ∧ (linesAt s t).1 = linesOf s t := by
  by_cases h1 : Within s ∧ Within t
  · by_cases h2 : Even s ∧ Even t
    · exact ⟨h1.2, h2.2, by rw [linesAt_ok h1.1 h1.2 h2.1 h2.2]⟩
    · rw [linesAt_odd h1.1 h1.2 h2] at h; simp at h
  · rw [linesAt_far h1] at h; simp at h
def stepS (day : Int) (loan : ByteArray) (r : List PV × St) (t : St) : List PV × St :=
  let q := postR r.1.length (-719163) day loan r.2 t
  (match q.2 with | none => r.1 | some p => r.1 ++ [p], if q.1 = 0 then t else r.2)
theorem SumInv.step {ps : List PV} {s : St} {day : Int} {loan : ByteArray} (h : SumInv ps s day loan) (t : St) : SumInv (stepS day loan (ps, s) t).1 (stepS day loan (ps, s) t).2 day loan := by
  unfold stepS
  dsimp only
  unfold postR
  by_cases h1 : day < -719162 ∨ 2932896 < day
  · rw [if_pos h1]; exact h
  rw [if_neg h1]
  by_cases h2 : nameOk loan = false
  · rw [if_pos h2]; exact h
  rw [if_neg h2]
  by_cases h3 : (linesAt s t).2 ≠ 0
  · rw [if_pos h3]
    dsimp only
    rw [if_neg h3]
    exact h
  rw [if_neg h3]
  by_cases h4 : ps.length = 65536
  · rw [if_pos h4]; exact h
  rw [if_neg h4]
  by_cases h5 : 2932896 < max day (-719163 + 1)
  · rw [if_pos h5]; exact h
  rw [if_neg h5]
  obtain ⟨hw, he, hl⟩ := linesAt_zero (by simpa using h3 : (linesAt s t).2 = 0)
  by_cases h6 : (linesAt s t).1 = []
  · rw [if_pos h6]
    refine ⟨hw, he, fun i hi => ?_, h.all⟩
    have := tot_lines s t (flatL ps) hw h.tot i hi
    rw [← hl, h6, List.append_nil] at this
    exact this
  · rw [if_neg h6]
    refine ⟨hw, he, fun i hi => ?_, fun p hp => ?_⟩
    · show totF (flatL (ps ++ [_])) _ = _
      rw [flatL_snoc]
      dsimp only
      rw [hl]
      exact tot_lines s t (flatL ps) hw h.tot i hi
    · rcases List.mem_append.1 hp with h7 | h7
      · exact h.all p h7
      · obtain rfl := List.mem_singleton.1 h7
        exact ⟨rfl, by dsimp only; omega⟩
theorem SumInv.want {ps : List PV} {s : St} {day : Int} {loan : ByteArray} (h : SumInv ps s day loan) : linesAt S0 s = (sumsOf ps, 0) := by
  rw [linesAt_ok within0 h.within even0 h.even]
  unfold sumsOf
  rw [rows_lines _ s h.tot 7 (Nat.le_refl _), upTo_all]
theorem SumInv.days {ps : List PV} {s : St} {day : Int} {loan : ByteArray} (h : SumInv ps s day loan) : ps.filter (inDays day day) = ps := by
  rw [List.filter_eq_self]
  intro p hp
  have := (h.all p hp).2
  unfold inDays
  rw [this]
  simp
end Go.Proofs.Ytpmbbhefcejjlaa
