/-
  A map as a list of pairs: its laws, whatever its keys and values. No statement is proved here.
-/
import Derived.MapKept
import Derived.WalkKit
import Derived.WalkLawsBesides
import Derived.WalkSpells
namespace Go.Proofs.YtcbopgopegphlaaGreat
open Go.RowKit
set_option linter.unusedVariables false
set_option linter.unusedSimpArgs false
section
variable {κ ν : Type} [DecidableEq κ] (ke : κ → Value) (ve : ν → Value)
def mapG : List (κ × ν) → Nat → List MapEntry
  | [], _ => []
  | x :: l, i => ⟨ke x.1, ve x.2, i⟩ :: mapG l (i + 1)
def getG : List (κ × ν) → κ → Option ν
  | [], _ => none
  | x :: l, k => if k = x.1 then some x.2 else getG l k
def idxG : List (κ × ν) → κ → Nat → Option (Nat × ν)
  | [], _, _ => none
  | x :: l, k, i => if k = x.1 then some (i, x.2) else idxG l k (i + 1)
def setG : List (κ × ν) → κ → ν → List (κ × ν)
  | [], k, v => [(k, v)]
  | x :: l, k, v => if k = x.1 then (k, v) :: l else x :: setG l k v
theorem get_set (l : List (κ × ν)) (k k' : κ) (v : ν) : getG (setG l k v) k' = if k' = k then some v else getG l k' := by
  induction l with
  | nil => rfl
  | cons x l ih =>
    unfold setG
    by_cases h : k = x.1
    · rw [if_pos h]
      unfold getG
      by_cases h2 : k' = k
      · rw [if_pos h2, if_pos h2]
      · rw [if_neg h2, if_neg h2, if_neg (by rw [← h]; exact h2)]
    · rw [if_neg h]
      unfold getG
      by_cases h2 : k' = x.1
      · rw [if_pos h2, if_pos h2, if_neg (fun e => h (by rw [← e]; exact h2))]
      · rw [if_neg h2, if_neg h2, ih]
theorem idx_get (l : List (κ × ν)) (k : κ) (i : Nat) : (idxG l k i).map (·.2) = getG l k := by
  induction l generalizing i with
  | nil => rfl
  | cons x l ih =>
    unfold idxG getG
    by_cases h : k = x.1
    · rw [if_pos h, if_pos h]; rfl
    · rw [if_neg h, if_neg h, ih]
theorem set_none (l : List (κ × ν)) (k : κ) (v : ν) (i : Nat) (h : idxG l k i = none) : setG l k v = l ++ [(k, v)] ∧ mapG ke ve (setG l k v) i = mapG ke ve l i ++ [⟨ke k, ve v, i + l.length⟩] := by
  induction l generalizing i with
  | nil => exact ⟨rfl, rfl⟩
  | cons x l ih =>
    unfold idxG at h
    by_cases hx : k = x.1
    · rw [if_pos hx] at h; cases h
    · rw [if_neg hx] at h
      obtain ⟨h1, h2⟩ := ih (i + 1) h
      unfold setG
      rw [if_neg hx]
      refine ⟨by rw [h1]; rfl, ?_⟩
      simp only [mapG, h2, List.cons_append, List.length_cons]
      rw [show i + 1 + l.length = i + (l.length + 1) by omega]
theorem set_some (l : List (κ × ν)) (k : κ) (v u : ν) (i j : Nat) (h : idxG l k i = some (j, u)) : ∃ q, j = i + q ∧ (mapG ke ve l i)[q]? = some ⟨ke k, ve u, j⟩ ∧ (setG l k v).length = l.length ∧
    mapG ke ve (setG l k v) i = (mapG ke ve l i).modify q (fun e => { e with key := ke k, val := ve v }) := by
  induction l generalizing i with
  | nil => cases h
  | cons x l ih =>
    unfold idxG at h
    by_cases hx : k = x.1
    · rw [if_pos hx] at h
      injection h with h
      injection h with h1 h2
      subst h1 h2
      refine ⟨0, rfl, by simp [mapG, hx], by simp [setG, hx], ?_⟩
      unfold setG
      rw [if_pos hx]
      simp [mapG, hx]
    · rw [if_neg hx] at h
      obtain ⟨q, h1, h2, h3, h4⟩ := ih (i + 1) h
      refine ⟨q + 1, by omega, by simpa [mapG] using h2, by simp [setG, hx, h3], ?_⟩
      unfold setG
      rw [if_neg hx]
      simp only [mapG, h4, List.modify_succ_cons]
/-- What is asked of keys. -/
structure KeyOk (P : Program) (K : TypeId) : Prop where
  find : ∀ (l : List (κ × ν)) k w, (Instr.findKey K (ke k) (mapG ke ve l 0)).run P w = .ok ((idxG l k 0).map fun p => (p.1, ve p.2)) w
  check : ∀ e k w, (Instr.checkKey e 10000 K (ke k)).run P w = .ok () w
  stays : ∀ k w, (Instr.keyThatStays (ke k) (ke k)).run P w = .ok (ke k) w
structure MapG (g : Nat) (w w' : World) (l : List (κ × ν)) : Prop where
  os : w'.os = w.os
  tape : w'.tape = w.tape
  output : w'.output = w.output
  size : w'.heap.size = w.heap.size
  block : ∀ k, k ≠ g → w'.heap[k]? = w.heap[k]?
  here : w'.heap[g]? = some (.map (mapG ke ve l 0).toArray l.length)
variable {P : Program} {T K E : TypeId}
theorem look_two (hK : KeyOk ke ve P K) (hT : P.underlying T = some (.map K E)) (z : Value) (hz : ∀ w, (zeroValue E).run P w = .ok z w) (w : World) (g : Nat) (l : List (κ × ν)) (n : Nat) (k : κ) (hg : w.heap[g]? = some (.map (mapG ke ve l 0).toArray n)) :
    (Instr.lookup T (.map (some g)) (ke k) true).run P w = .ok (.tuple #[((getG l k).map ve).getD z, .bool (getG l k).isSome]) w := by
  have h1 : (getObj g).run P w = .ok (.map (mapG ke ve l 0).toArray n) w := by simp [getObj, Sem.run, hg]
  have h2 := fun e => hK.check e k w
  have h3 := hK.find l k w
  have h4 := hz w
  have h5 := run_underlying hT w
  have h6 := idx_get l k 0
  unfold Instr.lookup
  cases hp : idxG l k 0 with
  | none =>
    rw [hp] at h3 h6
    rw [← h6]
    simp [h1, h2, h3, h4, h5]
  | some p =>
    rw [hp] at h3 h6
    rw [← h6]
    simp [h1, h2, h3, h4, h5]
theorem look_one (hK : KeyOk ke ve P K) (hT : P.underlying T = some (.map K E)) (z : Value) (hz : ∀ w, (zeroValue E).run P w = .ok z w) (w : World) (g : Nat) (l : List (κ × ν)) (n : Nat) (k : κ) (hg : w.heap[g]? = some (.map (mapG ke ve l 0).toArray n)) :
    (Instr.lookup T (.map (some g)) (ke k) false).run P w = .ok (((getG l k).map ve).getD z) w := by
  have h1 : (getObj g).run P w = .ok (.map (mapG ke ve l 0).toArray n) w := by simp [getObj, Sem.run, hg]
  have h2 := fun e => hK.check e k w
  have h3 := hK.find l k w
  have h4 := hz w
  have h5 := run_underlying hT w
  have h6 := idx_get l k 0
  unfold Instr.lookup
  cases hp : idxG l k 0 with
  | none =>
    rw [hp] at h3 h6
    rw [← h6]
    simp [h1, h2, h3, h4, h5]
  | some p =>
    rw [hp] at h3 h6
    rw [← h6]
    simp [h1, h2, h3, h4, h5]
theorem upd_one (hK : KeyOk ke ve P K) (hT : P.underlying T = some (.map K E)) (w : World) (g : Nat) (l : List (κ × ν)) (k : κ) (v : ν) (hg : w.heap[g]? = some (.map (mapG ke ve l 0).toArray l.length)) :
    ∃ w', (Instr.mapUpdate T (.map (some g)) (ke k) (ve v)).run P w = .ok () w' ∧ MapG ke ve g w w' (setG l k v) := by
  have h2 := fun e => hK.check e k w
  have h3 := hK.find l k w
  have h5 := run_underlying hT w
  have h6 := hK.stays k w
  cases hp : idxG l k 0 with
  | none =>
    rw [hp] at h3
    obtain ⟨s1, s2⟩ := set_none ke ve l k v 0 hp
    refine ⟨{ w with heap := w.heap.setIfInBounds g (.map ((mapG ke ve l 0).toArray.push ⟨ke k, ve v, l.length⟩) (l.length + 1)) }, ?_, ?_⟩
    · unfold Instr.mapUpdate
      simp only [Sem.run_bind, h5, Result.andThen, MapKept.run_getObj_map hg, h2, h3, Option.map_none, MapKept.run_setObj_map _ hg, Sem.run_pure]
    · refine ⟨rfl, rfl, rfl, by simp, fun k hk => (MapKept.heap_set hg).2 k hk, ?_⟩
      rw [(MapKept.heap_set hg).1, s2, s1]
      simp
  | some p =>
    rw [hp] at h3
    obtain ⟨q, h1, hat, hlen, s2⟩ := set_some ke ve l k v p.2 0 p.1 hp
    have hq : p.1 = q := by omega
    rw [hq] at hat
    have hat' : (mapG ke ve l 0).toArray[q]? = some ⟨ke k, ve p.2, q⟩ := by simpa using hat
    refine ⟨{ w with heap := w.heap.setIfInBounds g (.map ((mapG ke ve l 0).toArray.modify q fun e => { e with key := ke k, val := ve v }) l.length) }, ?_, ?_⟩
    · unfold Instr.mapUpdate
      simp only [Sem.run_bind, h5, Result.andThen, MapKept.run_getObj_map hg, h2, h3, Option.map_some, hq, hat', Option.getD_some, h6, MapKept.run_setObj_map _ hg, Sem.run_pure]
    · refine ⟨rfl, rfl, rfl, by simp, fun k hk => (MapKept.heap_set hg).2 k hk, ?_⟩
      rw [(MapKept.heap_set hg).1, s2, hlen, List.modify_toArray]
end
theorem mapG_len {κ ν : Type} (ke : κ → Value) (ve : ν → Value) (l : List (κ × ν)) (i : Nat) : (mapG ke ve l i).length = l.length := by
  induction l generalizing i with
  | nil => rfl
  | cons x l ih => simp [mapG, ih]
theorem MapG.below {κ ν : Type} (ke : κ → Value) (ve : ν → Value) {g B : Nat} {w w' : World} {l : List (κ × ν)} (h : MapG ke ve g w w' l) (hg : B ≤ g) {a : World} (hb : Below B a w) : Below B a w' :=
  ⟨h.os.trans hb.os, h.tape.trans hb.tape, h.output.trans hb.output, by rw [h.size]; exact hb.size, fun k hk => (h.block k (by omega)).trans (hb.block k hk)⟩
/-! ### keys that are ints -/
def keI (a : Int) : Value := .int .i64 a
theorem findNow_int {ν : Type} (ve : ν → Value) (l : List (Int × ν)) (k : Int) (b i : Nat) : Instr.findNow (.int .i64) (keI k) (mapG keI ve l b) i = some ((idxG l k i).map fun p => (p.1, ve p.2)) := by
  induction l generalizing b i with
  | nil => rfl
  | cons x l ih =>
    unfold mapG idxG Instr.findNow
    by_cases h : k = x.1
    · rw [if_pos h]
      simp [Instr.sameNow, keI, h]
    · rw [if_neg h]
      have h2 : (k == x.1) = false := by rw [beq_eq_false_iff_ne]; exact h
      simp only [Instr.sameNow, keI, h2, if_true]
      exact ih (b + 1) (i + 1)
theorem keyOk_int {ν : Type} (ve : ν → Value) (P : Program) (K : TypeId) (hK : P.underlying K = some (.int .i64)) : KeyOk keI ve P K where
  find l k w := by
    unfold Instr.findKey
    simp [run_underlying hK w, findNow_int]
  check e k w := by
    unfold Instr.checkKey
    simp [run_underlying hK w, keI]
  stays k w := by simp [Instr.keyThatStays, Instr.sameBits, keI]
end Go.Proofs.YtcbopgopegphlaaGreat
