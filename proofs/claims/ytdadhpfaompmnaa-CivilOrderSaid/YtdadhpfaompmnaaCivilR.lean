/-
  The plain law of a text read as a day.
-/
import Derived.Test.YtdadhpfaompmnaaCivilW7
namespace Go.Proofs.Ytdadhpfaompmnaa
set_option linter.unusedVariables false
set_option linter.unusedSimpArgs false

instance (y m d : Nat) : Decidable (Valid y m d) := by unfold Valid; infer_instance
def ofAt (y m d : Nat) : Int × Int := if Valid y m d then (dayOf y m d, 0) else (0, 6)
/-- A number by its digits. -/
def num (l : List UInt8) : Nat := l.foldl (fun a x => a * 10 + (x.toNat - 48)) 0
theorem num_snoc (l : List UInt8) (x : UInt8) : num (l ++ [x]) = num l * 10 + (x.toNat - 48) := by simp [num]
def isd (x : UInt8) : Prop := 48 ≤ x.toNat ∧ x.toNat ≤ 57
/-- A text is a day's, as the document says it: the place's byte is a dash or a digit. -/
def okAt (l : List UInt8) (j : Nat) : Prop := if j = 4 ∨ j = 7 then (l.getD j 0).toNat = 45 else isd (l.getD j 0)
def Good (l : List UInt8) : Prop := l.length = 10 ∧ ∀ j, j < 10 → okAt l j
def ReadAs (l : List UInt8) (p : Int × Int) : Prop := (Good l ∧ p = ofAt (num (l.take 4)) (num ((l.drop 5).take 2)) (num ((l.drop 8).take 2))) ∨ (¬ Good l ∧ p = (0, 7))
theorem readAs (l : List UInt8) : ∃ p, ReadAs l p := by
  by_cases h : Good l
  · exact ⟨_, .inl ⟨h, rfl⟩⟩
  · exact ⟨_, .inr ⟨h, rfl⟩⟩
theorem ReadAs.bad {l : List UInt8} {p : Int × Int} (h : ReadAs l p) (j : Nat) (hj : j < 10) (hb : ¬ okAt l j) : p = (0, 7) := by
  rcases h with ⟨h, _⟩ | ⟨_, h⟩
  · exact absurd (h.2 j hj) hb
  · exact h
theorem ReadAs.short {l : List UInt8} {p : Int × Int} (h : ReadAs l p) (hb : l.length ≠ 10) : p = (0, 7) := by
  rcases h with ⟨h, _⟩ | ⟨_, h⟩
  · exact absurd h.1 hb
  · exact h
theorem ReadAs.good {l : List UInt8} {p : Int × Int} (h : ReadAs l p) (hg : Good l) : p = ofAt (num (l.take 4)) (num ((l.drop 5).take 2)) (num ((l.drop 8).take 2)) := by
  rcases h with ⟨_, h⟩ | ⟨h, _⟩
  · exact h
  · exact absurd hg h
/-- One digit more. -/
theorem num_take (l : List UInt8) (i : Nat) (h : i < l.length) : num (l.take (i + 1)) = num (l.take i) * 10 + ((l.getD i 0).toNat - 48) := by
  rw [take_snoc' l i h, num_snoc]
  simp [List.getD, List.getElem?_eq_getElem h]
theorem num_drop (l : List UInt8) (k i : Nat) (h : k + i < l.length) : num ((l.drop k).take (i + 1)) = num ((l.drop k).take i) * 10 + ((l.getD (k + i) 0).toNat - 48) := by
  rw [num_take (l.drop k) i (by rw [List.length_drop]; omega)]
  simp [List.getD, List.getElem?_drop]
theorem num_digs (k v : Nat) (h : v < 10 ^ k) : num (digs k v) = v := by
  induction k generalizing v with
  | zero => simp at h; subst h; rfl
  | succ k ih =>
    rw [digs, num_snoc, dig_toNat, ih (v / 10) (by rw [Nat.pow_succ] at h; omega)]
    omega
theorem isd_dig (v : Nat) : isd (dig v) := by unfold isd; rw [dig_toNat]; omega
/-- A day's text is read as the day. -/
theorem ReadAs.txt {y m a : Nat} (h : Valid y m a) {p : Int × Int} (hp : ReadAs (txt y m a) p) : p = (dayOf y m a, 0) := by
  have hd := (dim_le y m).2
  have e4 : digs 4 y = [dig (y / 10 / 10 / 10), dig (y / 10 / 10), dig (y / 10), dig y] := rfl
  have e2 : ∀ v, digs 2 v = [dig (v / 10), dig v] := fun v => rfl
  have hl : Proofs.Ytdadhpfaompmnaa.txt y m a = digs 4 y ++ ([45] ++ (digs 2 m ++ ([45] ++ digs 2 a))) := by simp [Proofs.Ytdadhpfaompmnaa.txt]
  have hg : Good (Proofs.Ytdadhpfaompmnaa.txt y m a) := by
    refine ⟨txt_length y m a, fun j hj => ?_⟩
    rw [hl, e4, e2, e2]
    unfold okAt
    rcases (show j = 0 ∨ j = 1 ∨ j = 2 ∨ j = 3 ∨ j = 4 ∨ j = 5 ∨ j = 6 ∨ j = 7 ∨ j = 8 ∨ j = 9 by omega) with rfl | rfl | rfl | rfl | rfl | rfl | rfl | rfl | rfl | rfl
    all_goals simp [isd_dig]
  rw [hp.good hg]
  have t1 : (Proofs.Ytdadhpfaompmnaa.txt y m a).take 4 = digs 4 y := by rw [hl, e4]; rfl
  have t2 : ((Proofs.Ytdadhpfaompmnaa.txt y m a).drop 5).take 2 = digs 2 m := by rw [hl, e4, e2, e2]; rfl
  have t3 : ((Proofs.Ytdadhpfaompmnaa.txt y m a).drop 8).take 2 = digs 2 a := by rw [hl, e4, e2, e2]; rfl
  have := h.2.2.2.2.2
  rw [t1, t2, t3, num_digs 4 y (by have := h.2.1; omega), num_digs 2 m (by have := h.2.2.2.1; omega), num_digs 2 a (by omega)]
  unfold ofAt
  rw [if_pos h]
end Go.Proofs.Ytdadhpfaompmnaa
