/-
  A map whose keys are columns: its laws. No statement is proved here.
-/
import Derived.MapKept
import Derived.Test.YtpmbbhefcejjlaaLedW5
import Derived.Test.YtpmbbhefcejjlaaLedN
namespace Go.Proofs.Ytpmbbhefcejjlaa
open Go.RowKit
set_option linter.unusedVariables false

def colV (a : Int) : Value := .agg #[.int .i64 a]
theorem col_fields : Try.prog.fieldsOf 84 = #[{ name := "account", type := 3, offset := 0, embedded := false, tag := "", pkgPath := "usance/ledger", byteOffset := 0 }] := by
  unfold Program.fieldsOf
  rw [Try.underlying84]
theorem col_struct : Try.prog.underlying 84 = some (.struct (Try.prog.fieldsOf 84)) := by
  rw [col_fields, Try.underlying84]
theorem col_held : Try.prog.stoodInHeld 84 = false := by kernel_rfl
theorem col_equal (a b : Int) (w : World) : (Op.equalIn 10000 84 (colV a) (colV b)).run Try.prog w = .ok (a == b) w := by
  unfold colV
  rw [run_equalIn_agg w 9999 _ _ _ col_struct col_held, col_fields]
  have p1 : ∀ a : Int, (part 3 #[.int .i64 a] 0).run Try.prog w = .ok (.int .i64 a) w := fun a => by kernel_rfl
  have e1 := fun a b => run_equalIn_int (P := Try.prog) w 9998 3 .i64 .i64 a b Try.underlying3
  simp only [Op.eqFields]
  by_cases h1 : a = b <;> simp [h1, p1, e1]
/-- The map's entries, from a stamp on. -/
def mapL : List (Int × Int) → Nat → List MapEntry
  | [], _ => []
  | x :: l, i => ⟨colV x.1, .int .i64 x.2, i⟩ :: mapL l (i + 1)
def posL : List (Int × Int) → Int → Nat → Option (Nat × Int)
  | [], _, _ => none
  | x :: l, a, i => if a = x.1 then some (i, x.2) else posL l a (i + 1)
theorem mapL_len (l : List (Int × Int)) (i : Nat) : (mapL l i).length = l.length := by
  induction l generalizing i with
  | nil => rfl
  | cons x l ih => simp [mapL, ih]
theorem mapL_snoc (l : List (Int × Int)) (x : Int × Int) (i : Nat) : mapL (l ++ [x]) i = mapL l i ++ [⟨colV x.1, .int .i64 x.2, i + l.length⟩] := by
  induction l generalizing i with
  | nil => rfl
  | cons y l ih =>
    simp only [List.cons_append, mapL, ih, List.length_cons]
    rw [show i + (l.length + 1) = i + 1 + l.length by omega]
theorem asking_col (l : List (Int × Int)) (a : Int) (b i : Nat) (w : World) : (Instr.findAsking 84 (colV a) (mapL l b) i).run Try.prog w = .ok ((posL l a i).map fun p => (p.1, .int .i64 p.2)) w := by
  induction l generalizing b i with
  | nil => rfl
  | cons x l ih =>
    have e : (Op.equal 84 (colV a) (colV x.1)).run Try.prog w = .ok (a == x.1) w := col_equal a x.1 w
    unfold mapL posL Instr.findAsking
    by_cases h : a = x.1
    · have h2 : (a == x.1) = true := by simp [h]
      rw [if_pos h]
      rw [h2] at e
      simp [e]
    · have h2 : (a == x.1) = false := by rw [beq_eq_false_iff_ne]; exact h
      simp [e, h, h2, ih]
theorem findKey_col (l : List (Int × Int)) (a : Int) (w : World) : (Instr.findKey 84 (colV a) (mapL l 0)).run Try.prog w = .ok ((posL l a 0).map fun p => (p.1, .int .i64 p.2)) w := by
  unfold Instr.findKey
  cases l with
  | nil => kernel_rfl
  | cons x l =>
    have hn : Instr.findNow (.struct (Try.prog.fieldsOf 84)) (colV a) (mapL (x :: l) 0) 0 = none := by
      unfold mapL Instr.findNow Instr.sameNow colV
      rfl
    have := asking_col (x :: l) a 0 0 w
    simp [run_underlying col_struct w, hn, this]
theorem check_col (e : Bool) (a : Int) (w : World) : (Instr.checkKey e 10000 84 (colV a)).run Try.prog w = .ok () w := by
  cases e <;> kernel_rfl
theorem stays_col (a : Int) (w : World) : (Instr.keyThatStays (colV a) (colV a)).run Try.prog w = .ok (colV a) w := by
  have : Instr.sameBits 10000 (colV a) (colV a) = true := by simp [Instr.sameBits, colV]
  simp [Instr.keyThatStays, this]
/-- What the map holds of an account. -/
def valL (l : List (Int × Int)) (a : Int) : Int := ((posL l a 0).map (·.2)).getD 0
theorem zero_int (w : World) : (zeroValue 2).run Try.prog w = .ok (.int .i64 0) w := by kernel_rfl
theorem look_col (w : World) (g : Nat) (l : List (Int × Int)) (n : Nat) (a : Int) (hg : w.heap[g]? = some (.map (mapL l 0).toArray n)) : (Instr.lookup 82 (.map (some g)) (.agg #[.int .i64 a]) false).run Try.prog w = .ok (.int .i64 (valL l a)) w := by
  have h1 : (getObj g).run Try.prog w = .ok (.map (mapL l 0).toArray n) w := by simp [getObj, Sem.run, hg]
  have h2 := fun e => check_col e a w
  have h3 := findKey_col l a w
  have h4 := zero_int w
  have h5 := run_underlying Try.underlying82 w
  unfold colV at h2 h3
  unfold Instr.lookup valL
  cases hp : posL l a 0 with
  | none =>
    rw [hp] at h3
    simp [h1, h2, h3, h4, h5]
  | some p =>
    rw [hp] at h3
    simp [h1, h2, h3, h4, h5]
/-- What changes where only the map changes. -/
structure MapTo (g : Nat) (w w' : World) (l : List (Int × Int)) : Prop where
  os : w'.os = w.os
  tape : w'.tape = w.tape
  output : w'.output = w.output
  size : w'.heap.size = w.heap.size
  block : ∀ k, k ≠ g → w'.heap[k]? = w.heap[k]?
  here : w'.heap[g]? = some (.map (mapL l 0).toArray l.length)
/-- The map with an entry for an account. -/
def insL (l : List (Int × Int)) (a : Int) : List (Int × Int) := if (posL l a 0).isSome then l else l ++ [(a, 0)]
def setL : List (Int × Int) → Int → Int → List (Int × Int)
  | [], _, _ => []
  | y :: l, a, x => if a = y.1 then (y.1, x) :: l else y :: setL l a x
theorem posL_snoc (l : List (Int × Int)) (a b x : Int) (i : Nat) : posL (l ++ [(b, x)]) a i = match posL l a i with | some p => some p | none => if a = b then some (i + l.length, x) else none := by
  induction l generalizing i with
  | nil => simp [posL]
  | cons y l ih =>
    simp only [List.cons_append, posL]
    by_cases h : a = y.1
    · simp [h]
    · rw [if_neg h, if_neg h, ih]
      simp only [List.length_cons]
      rw [show i + (l.length + 1) = i + 1 + l.length by omega]
theorem pos_ins (l : List (Int × Int)) (a : Int) : ∃ j, posL (insL l a) a 0 = some (j, valL l a) := by
  unfold insL valL
  cases h : posL l a 0 with
  | some p => exact ⟨p.1, by simp [h]⟩
  | none => exact ⟨0 + l.length, by simp [posL_snoc, h]⟩
theorem val_ins (l : List (Int × Int)) (a b : Int) : valL (insL l a) b = valL l b := by
  unfold insL valL
  cases h : posL l a 0 with
  | some p => simp
  | none =>
    simp only [Option.isSome_none, Bool.false_eq_true, if_false, posL_snoc]
    cases h2 : posL l b 0 with
    | some q => simp
    | none => by_cases h3 : b = a <;> simp [h3]
theorem pos_set (l : List (Int × Int)) (a b x : Int) (i : Nat) : posL (setL l a x) b i = (posL l b i).map fun p => if b = a then (p.1, x) else p := by
  induction l generalizing i with
  | nil => rfl
  | cons y l ih =>
    unfold setL
    by_cases h : a = y.1
    · rw [if_pos h]
      unfold posL
      by_cases h2 : b = y.1
      · simp [h2, h]
      · have h3 : ¬ b = a := by rw [h]; exact h2
        simp only [h2, h3, if_false]
        cases posL l b (i + 1) <;> simp
    · rw [if_neg h]
      unfold posL
      by_cases h2 : b = y.1
      · have h3 : ¬ b = a := fun e => h (by rw [← e]; exact h2)
        simp [h2, h3]
        intro e
        exact absurd (by rw [← e]) h
      · simp only [h2, if_false, ih]
theorem val_set (l : List (Int × Int)) (a b x : Int) (h : ∃ p, posL l a 0 = some p) : valL (setL l a x) b = if b = a then x else valL l b := by
  unfold valL
  rw [pos_set]
  by_cases hb : b = a
  · subst hb
    obtain ⟨p, hp⟩ := h
    simp [hp]
  · cases posL l b 0 <;> simp [hb]
theorem pos_at (l : List (Int × Int)) (a : Int) (i j : Nat) (v : Int) (h : posL l a i = some (j, v)) : ∃ k, j = i + k ∧ k < l.length ∧ (mapL l i)[k]? = some ⟨colV a, .int .i64 v, j⟩ ∧ (mapL l i).findIdx? (fun e => (e.born : Int) == (j : Int)) = some k ∧ ∀ x, (mapL l i).modify k (fun e => { e with val := .int .i64 x }) = mapL (setL l a x) i := by
  induction l generalizing i with
  | nil => simp [posL] at h
  | cons y l ih =>
    unfold posL at h
    by_cases hy : a = y.1
    · rw [if_pos hy] at h
      injection h with h
      injection h with h1 h2
      subst h1 h2
      refine ⟨0, by omega, by simp, ?_, ?_, fun x => ?_⟩
      · simp [mapL, hy]
      · simp [mapL, List.findIdx?_cons]
      · simp [mapL, setL, hy]
    · rw [if_neg hy] at h
      obtain ⟨k, h1, h2, h3, h4, h5⟩ := ih (i + 1) h
      refine ⟨k + 1, by omega, by simp; omega, by simpa [mapL] using h3, ?_, fun x => ?_⟩
      · have hne : ((i : Int) == (j : Int)) = false := by rw [beq_eq_false_iff_ne]; omega
        simp [mapL, List.findIdx?_cons, hne, h4]
      · simp only [mapL, setL, if_neg hy, List.modify_succ_cons, h5]
theorem len_ins (l : List (Int × Int)) (a : Int) : (insL l a).length = if (posL l a 0).isSome then l.length else l.length + 1 := by
  unfold insL
  split <;> simp
theorem len_set (l : List (Int × Int)) (a x : Int) : (setL l a x).length = l.length := by
  induction l with
  | nil => rfl
  | cons y l ih =>
    unfold setL
    split <;> simp [ih]
theorem entry_col (w : World) (g : Nat) (l : List (Int × Int)) (a : Int) (hg : w.heap[g]? = some (.map (mapL l 0).toArray l.length)) :
    ∃ j w', (Instr.mapEntry 82 (.map (some g)) (.agg #[.int .i64 a])).run Try.prog w = .ok (.tuple #[.int .i64 (valL l a), .int .i64 (j : Nat)]) w' ∧ posL (insL l a) a 0 = some (j, valL l a) ∧ MapTo g w w' (insL l a) := by
  have h2 := check_col false a w
  have h3 := findKey_col l a w
  have h4 := zero_int w
  have h5 := run_underlying Try.underlying82 w
  have h6 := stays_col a w
  obtain ⟨j, hj⟩ := pos_ins l a
  unfold colV at h2 h3 h6
  cases hp : posL l a 0 with
  | none =>
    rw [hp] at h3
    have hi : insL l a = l ++ [(a, 0)] := by unfold insL; rw [hp]; simp
    have hv : valL l a = 0 := by unfold valL; rw [hp]; rfl
    have hjl : j = l.length := by
      rw [hi, posL_snoc, hp] at hj
      simp at hj
      exact hj.1.symm
    refine ⟨j, { w with heap := w.heap.setIfInBounds g (.map ((mapL l 0).toArray.push ⟨.agg #[.int .i64 a], .int .i64 0, l.length⟩) (l.length + 1)) }, ?_, hj, ?_⟩
    · unfold Instr.mapEntry
      simp only [Sem.run_bind, h5, Result.andThen, MapKept.run_getObj_map hg, h2, h3, h4, Option.map_none, MapKept.run_setObj_map _ hg, Sem.run_pure]
      rw [hv, hjl]
      rfl
    · refine ⟨rfl, rfl, rfl, by simp, fun k hk => (MapKept.heap_set hg).2 k hk, ?_⟩
      rw [(MapKept.heap_set hg).1, hi, mapL_snoc]
      simp [colV]
  | some p =>
    rw [hp] at h3
    have hi : insL l a = l := by unfold insL; rw [hp]; simp
    have hv : valL l a = p.2 := by unfold valL; rw [hp]; rfl
    rw [hi] at hj
    rw [hj] at hp
    obtain ⟨k, hk1, hk2, hk3, _, _⟩ := pos_at l a 0 j _ hj
    obtain rfl : k = j := by omega
    injection hp with hp
    subst hp
    have hat : (mapL l 0).toArray[k]? = some ⟨colV a, .int .i64 (valL l a), k⟩ := by simpa using hk3
    have hmod : ((mapL l 0).toArray.modify k fun e => { e with key := .agg #[.int .i64 a] }) = (mapL l 0).toArray := by
      apply Array.ext
      · simp
      · intro q h1 h2
        rw [Array.getElem_modify]
        split
        · rename_i e
          subst e
          have h7 := Array.getElem?_eq_some_iff.1 hat
          obtain ⟨_, h8⟩ := h7
          rw [h8]
          rfl
        · rfl
    refine ⟨k, { w with heap := w.heap.setIfInBounds g (.map ((mapL l 0).toArray.modify k fun e => { e with key := .agg #[.int .i64 a] }) l.length) }, ?_, by rw [hi]; exact hj, ?_⟩
    · unfold Instr.mapEntry
      simp only [Sem.run_bind, h5, Result.andThen, MapKept.run_getObj_map hg, h2, h3, Option.map_some, hat, Option.getD_some, colV, h6, MapKept.run_setObj_map _ hg, Sem.run_pure]
      rfl
    · refine ⟨rfl, rfl, rfl, by simp, fun q hq => (MapKept.heap_set hg).2 q hq, ?_⟩
      rw [(MapKept.heap_set hg).1, hi, hmod]
theorem store_col (w : World) (g : Nat) (l : List (Int × Int)) (a x : Int) (j : Nat) (v : Int) (hg : w.heap[g]? = some (.map (mapL l 0).toArray l.length)) (hj : posL l a 0 = some (j, v)) :
    ∃ w', (Instr.entryStore 82 (.map (some g)) (.int .i64 (j : Int)) (.int .i64 x)).run Try.prog w = .ok () w' ∧ MapTo g w w' (setL l a x) := by
  obtain ⟨k, hk1, hk2, hk3, hk4, hk5⟩ := pos_at l a 0 j v hj
  obtain rfl : k = j := by omega
  refine ⟨{ w with heap := w.heap.setIfInBounds g (.map ((mapL l 0).toArray.modify k fun e => { e with val := .int .i64 x }) l.length) }, ?_, ?_⟩
  · unfold Instr.entryStore
    have hf : (mapL l 0).toArray.findIdx? (fun e => (e.born : Int) == (k : Int)) = some k := by
      rw [List.findIdx?_toArray]; exact hk4
    simp only [Sem.run_bind, Result.andThen, MapKept.run_getObj_map hg, asInt, asIntOf, Sem.run_pure, hf, MapKept.run_setObj_map _ hg]
  · refine ⟨rfl, rfl, rfl, by simp, fun q hq => (MapKept.heap_set hg).2 q hq, ?_⟩
    rw [(MapKept.heap_set hg).1, List.modify_toArray, hk5, len_set]
end Go.Proofs.Ytpmbbhefcejjlaa
