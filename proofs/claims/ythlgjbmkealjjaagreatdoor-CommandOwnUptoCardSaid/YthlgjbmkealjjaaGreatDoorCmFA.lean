/-
  Joined texts: CmF0 CmF1. No statement is proved here.
-/
import Derived.Test.YthlgjbmkealjjaaGreatDoorCmOR
import Derived.Test.YthlgjbmkealjjaaGreatDoorRegA
import Derived.Deep.CutBlock
import Derived.Deep.CutRange
namespace Go.Proofs.YthlgjbmkealjjaaGreatDoor
open Go.RowKit
set_option linter.unusedVariables false
/-! ### keys that are strings -/
def keS (a : ByteArray) : Value := .string a
theorem ba_beq (a b : ByteArray) : (a == b) = decide (a = b) := by
  cases a with | mk a => cases b with | mk b =>
  show (a == b) = _
  rw [Bool.eq_iff_iff]
  simp
theorem findNow_str {ν : Type} (ve : ν → Value) (l : List (ByteArray × ν)) (k : ByteArray) (b i : Nat) : Instr.findNow .string (keS k) (mapG keS ve l b) i = some ((idxG l k i).map fun p => (p.1, ve p.2)) := by
  induction l generalizing b i with
  | nil => rfl
  | cons x l ih =>
    unfold mapG idxG Instr.findNow
    by_cases h : k = x.1
    · rw [if_pos h]
      simp [Instr.sameNow, keS, h, ba_beq]
    · rw [if_neg h]
      have h2 : (k == x.1) = false := by rw [ba_beq]; exact decide_eq_false h
      simp only [Instr.sameNow, keS, h2]
      exact ih (b + 1) (i + 1)
theorem keyOk_str {ν : Type} (ve : ν → Value) (P : Program) (K : TypeId) (hK : P.underlying K = some .string) : KeyOk keS ve P K where
  find l k w := by
    unfold Instr.findKey
    simp [run_underlying hK w, findNow_str]
  check e k w := by
    unfold Instr.checkKey
    simp [run_underlying hK w, keS]
  stays k w := by simp [Instr.keyThatStays, Instr.sameBits, keS, ba_beq]
/-! ### rows of operands -/
def opCells (bn bt : Nat) (f : List Kd) : List Value := f.flatMap fun k => (kc bn bt k).toList
/-- A literal row of operands. -/
def OpS (bn bt : Nat) (v : World) (f : List Kd) (u : Value) : Prop := ∃ g, bn ≤ g ∧ u = .slice (some ⟨g, 0, none⟩) f.length f.length ∧ v.heap[g]? = some (.cells (opCells bn bt f).toArray 50 (0, 0))
/-- Where each form is put, and which it is. -/
def insOf (op : List UInt8) : Option (Nat × List Kd) :=
  if op = [111, 112, 101, 110] then some (4, [.n, .t])
  else if op = [111, 117, 116] then some (9, [.n, .d, .m])
  else if op = [112, 97, 121] then some (14, [.n, .d, .m])
  else if op = [102, 101, 101] then some (19, [.n, .d, .m])
  else if op = [114, 97, 116, 101] then some (24, [.n, .d, .i])
  else if op = [115, 116, 97, 116, 101] then some (29, [.n, .d, .i])
  else if op = [114, 101, 118, 101, 114, 115, 101] then some (33, [.n, .i])
  else if op = [100, 97, 121] then some (36, [.d])
  else if op = [99, 108, 111, 115, 101] then some (39, [.d])
  else if op = [97, 99, 99, 114, 117, 101] then some (42, [.n])
  else if op = [101, 118, 101, 110, 116, 115] then some (45, [.n])
  else if op = [116, 114, 105, 97, 108] then some (49, [.d, .d])
  else if op = [108, 97, 115, 116] then some (51, [])
  else none
theorem ins_tab (op : List UInt8) : (insOf op).map (·.2) = formTab op := by
  unfold insOf formTab
  simp only [apply_ite (Option.map (fun x : Nat × List Kd => x.2)), Option.map_some, Option.map_none]
theorem ins_at {op : List UInt8} {j : Nat} {f : List Kd} (h : insOf op = some (j, f)) : (j, op) ∈ [(4, [111, 112, 101, 110]), (9, [111, 117, 116]), (14, [112, 97, 121]), (19, [102, 101, 101]), (24, [114, 97, 116, 101]), (29, [115, 116, 97, 116, 101]), (33, [114, 101, 118, 101, 114, 115, 101]), (36, [100, 97, 121]), (39, [99, 108, 111, 115, 101]), (42, [97, 99, 99, 114, 117, 101]), (45, [101, 118, 101, 110, 116, 115]), (49, [116, 114, 105, 97, 108]), (51, [108, 97, 115, 116])] := by
  unfold insOf at h
  by_cases e : op = [111, 112, 101, 110]
  · rw [if_pos e] at h
    injection h with h
    injection h with h1 _
    subst h1 e
    decide
  rw [if_neg e] at h
  clear e
  by_cases e : op = [111, 117, 116]
  · rw [if_pos e] at h
    injection h with h
    injection h with h1 _
    subst h1 e
    decide
  rw [if_neg e] at h
  clear e
  by_cases e : op = [112, 97, 121]
  · rw [if_pos e] at h
    injection h with h
    injection h with h1 _
    subst h1 e
    decide
  rw [if_neg e] at h
  clear e
  by_cases e : op = [102, 101, 101]
  · rw [if_pos e] at h
    injection h with h
    injection h with h1 _
    subst h1 e
    decide
  rw [if_neg e] at h
  clear e
  by_cases e : op = [114, 97, 116, 101]
  · rw [if_pos e] at h
    injection h with h
    injection h with h1 _
    subst h1 e
    decide
  rw [if_neg e] at h
  clear e
  by_cases e : op = [115, 116, 97, 116, 101]
  · rw [if_pos e] at h
    injection h with h
    injection h with h1 _
    subst h1 e
    decide
  rw [if_neg e] at h
  clear e
  by_cases e : op = [114, 101, 118, 101, 114, 115, 101]
  · rw [if_pos e] at h
    injection h with h
    injection h with h1 _
    subst h1 e
    decide
  rw [if_neg e] at h
  clear e
  by_cases e : op = [100, 97, 121]
  · rw [if_pos e] at h
    injection h with h
    injection h with h1 _
    subst h1 e
    decide
  rw [if_neg e] at h
  clear e
  by_cases e : op = [99, 108, 111, 115, 101]
  · rw [if_pos e] at h
    injection h with h
    injection h with h1 _
    subst h1 e
    decide
  rw [if_neg e] at h
  clear e
  by_cases e : op = [97, 99, 99, 114, 117, 101]
  · rw [if_pos e] at h
    injection h with h
    injection h with h1 _
    subst h1 e
    decide
  rw [if_neg e] at h
  clear e
  by_cases e : op = [101, 118, 101, 110, 116, 115]
  · rw [if_pos e] at h
    injection h with h
    injection h with h1 _
    subst h1 e
    decide
  rw [if_neg e] at h
  clear e
  by_cases e : op = [116, 114, 105, 97, 108]
  · rw [if_pos e] at h
    injection h with h
    injection h with h1 _
    subst h1 e
    decide
  rw [if_neg e] at h
  clear e
  by_cases e : op = [108, 97, 115, 116]
  · rw [if_pos e] at h
    injection h with h
    injection h with h1 _
    subst h1 e
    decide
  rw [if_neg e] at h
  clear e
  cases h
/-- Some cells' blocks are as they were. -/
def CellsK (v v2 : World) : Prop := ∀ (g : Nat) (cs : Array Value) (t : TypeId) (fr : Nat × Nat), v.heap[g]? = some (.cells cs t fr) → v2.heap[g]? = some (.cells cs t fr)
theorem CellsK.below {v v2 : World} (h : Below v.heap.size v v2) : CellsK v v2 := fun g cs t fr hg => (h.block _ (Array.getElem?_eq_some_iff.1 hg).1).trans hg
theorem OpS.keep {bn bt : Nat} {v v2 : World} {f : List Kd} {u : Value} (h : OpS bn bt v f u) (hk : CellsK v v2) : OpS bn bt v2 f u := by
  obtain ⟨g, h0, h1, h2⟩ := h
  exact ⟨g, h0, h1, hk _ _ _ _ h2⟩
/-- What the map holds, L told which forms are in. -/
def MapSays (bn bt : Nat) (L : Nat → Bool) (l : List (ByteArray × Value)) (v : World) : Prop :=
  ∀ op : ByteArray, match insOf op.data.toList with
    | none => getG l op = none
    | some (j, f) => (L j = false → getG l op = none) ∧ (L j = true → ∃ u, getG l op = some u ∧ OpS bn bt v f u)
theorem MapSays.keep {bn bt : Nat} {L L' : Nat → Bool} {l : List (ByteArray × Value)} {v v2 : World} (h : MapSays bn bt L l v) (hk : CellsK v v2) (hL : ∀ op j f, insOf op = some (j, f) → L' j = L j) : MapSays bn bt L' l v2 := fun op => by
  have h1 := h op
  cases hi : insOf op.data.toList with
  | none => rw [hi] at h1; exact h1
  | some p =>
    obtain ⟨j, f⟩ := p
    rw [hi] at h1
    dsimp only at h1 ⊢
    rw [hL _ j f hi]
    exact ⟨h1.1, fun h2 => by obtain ⟨u, h3, h4⟩ := h1.2 h2; exact ⟨u, h3, h4.keep hk⟩⟩
theorem MapSays.ins {bn bt i : Nat} {L : Nat → Bool} {l : List (ByteArray × Value)} {v v2 : World} {K : ByteArray} {f : List Kd} {u : Value} (h : MapSays bn bt L l v) (hk : CellsK v v2) (hK : insOf K.data.toList = some (i, f)) (hinj : ∀ op f', insOf op = some (i, f') → op = K.data.toList) (hu : OpS bn bt v f u) : MapSays bn bt (upd L i) (setG l K u) v2 := fun op => by
  have h1 := h op
  rw [get_set]
  by_cases he : op = K
  · subst he
    rw [if_pos rfl, hK]
    dsimp only
    refine ⟨fun h2 => ?_, fun _ => ⟨u, rfl, hu.keep hk⟩⟩
    rw [upd_self] at h2
    cases h2
  · rw [if_neg he]
    cases hi : insOf op.data.toList with
    | none => rw [hi] at h1; exact h1
    | some p =>
      obtain ⟨j, f'⟩ := p
      have hne : j ≠ i := by
        rintro rfl
        have e := hinj _ _ hi
        exact he (ByteArray.ext (Array.toList_inj.mp e))
      rw [hi] at h1
      dsimp only at h1 ⊢
      rw [upd_other hne]
      exact ⟨h1.1, fun h2 => by obtain ⟨u', h3, h4⟩ := h1.2 h2; exact ⟨u', h3, h4.keep hk⟩⟩
/-- The map, as a value. -/
def MapV (bn bt B : Nat) (L : Nat → Bool) (u : Value) (v : World) : Prop := ∃ gm l, u = .map (some gm) ∧ B ≤ gm ∧ v.heap[gm]? = some (.map (mapG keS id l 0).toArray l.length) ∧ MapSays bn bt L l v
theorem MapV.keep {bn bt B : Nat} {L L' : Nat → Bool} {u : Value} {v v2 : World} (h : MapV bn bt B L u v) (hb : Below v.heap.size v v2) (hL : ∀ op j f, insOf op = some (j, f) → L' j = L j) : MapV bn bt B L' u v2 := by
  obtain ⟨gm, l, h1, h2, h3, h4⟩ := h
  exact ⟨gm, l, h1, h2, (hb.block _ (Array.getElem?_eq_some_iff.1 h3).1).trans h3, h4.keep (.below hb) hL⟩
theorem info_map : Tryz.prog.underlying 75 = some (.map 9 41) := by kernel_rfl
theorem MapV.insert {bn bt B i : Nat} {L : Nat → Bool} {m : Value} {v : World} {K : ByteArray} {f : List Kd} {u : Value} (h : MapV bn bt B L m v) (hK : insOf K.data.toList = some (i, f)) (hinj : ∀ op f', insOf op = some (i, f') → op = K.data.toList) (hu : OpS bn bt v f u) :
    ∃ gm v2, m = .map (some gm) ∧ B ≤ gm ∧ (Instr.mapUpdate 75 m (.string K) u).run Tryz.prog v = .ok () v2 ∧ MapV bn bt B (upd L i) m v2 ∧ (∀ k, k ≠ gm → v2.heap[k]? = v.heap[k]?) ∧ CellsK v v2 ∧ v2.os = v.os ∧ v2.tape = v.tape ∧ v2.output = v.output ∧ v2.heap.size = v.heap.size := by
  obtain ⟨gm, l, rfl, h2, h3, h4⟩ := h
  obtain ⟨v2, hr, hm⟩ := upd_one keS id (keyOk_str id Tryz.prog 9 (by kernel_rfl)) info_map v gm l K u h3
  have hck : CellsK v v2 := fun g cs t fr hg => by
    have hne : g ≠ gm := by
      rintro rfl
      rw [h3] at hg
      cases hg
    exact (hm.block g hne).trans hg
  exact ⟨gm, v2, rfl, h2, hr, ⟨gm, _, rfl, h2, hm.here, h4.ins hck hK hinj hu⟩, hm.block, hck, hm.os, hm.tape, hm.output, hm.size⟩
end Go.Proofs.YthlgjbmkealjjaaGreatDoor

namespace Go.Proofs.YthlgjbmkealjjaaGreatDoor
open Go.RowKit
set_option linter.unusedVariables false
theorem ins_all {p : Nat → Prop} (hp : p 4 ∧ p 9 ∧ p 14 ∧ p 19 ∧ p 24 ∧ p 29 ∧ p 33 ∧ p 36 ∧ p 39 ∧ p 42 ∧ p 45 ∧ p 49 ∧ p 51) {op : List UInt8} {j : Nat} {f : List Kd} (h : insOf op = some (j, f)) : p j := by
  have h1 := ins_at h
  simp only [List.mem_cons, Prod.mk.injEq, List.not_mem_nil, or_false] at h1
  obtain ⟨q0, q1, q2, q3, q4, q5, q6, q7, q8, q9, q10, q11, q12⟩ := hp
  rcases h1 with ⟨rfl, _⟩ | ⟨rfl, _⟩ | ⟨rfl, _⟩ | ⟨rfl, _⟩ | ⟨rfl, _⟩ | ⟨rfl, _⟩ | ⟨rfl, _⟩ | ⟨rfl, _⟩ | ⟨rfl, _⟩ | ⟨rfl, _⟩ | ⟨rfl, _⟩ | ⟨rfl, _⟩ | ⟨rfl, _⟩ <;> assumption
theorem no_ins (i : Nat) (hi : ([4, 9, 14, 19, 24, 29, 33, 36, 39, 42, 45, 49, 51]).all (fun k => k != i) = true) (op : List UInt8) (j : Nat) (f : List Kd) (h : insOf op = some (j, f)) : j ≠ i := by
  have h1 := ins_at h
  have h2 : j ∈ [4, 9, 14, 19, 24, 29, 33, 36, 39, 42, 45, 49, 51] := by
    have := List.mem_map_of_mem (f := Prod.fst) h1
    simpa using this
  have h3 := List.all_eq_true.1 hi j h2
  simpa using h3
theorem ins_uni {i : Nat} {k op : List UInt8} {f : List Kd} (hk : [(4, [111, 112, 101, 110]), (9, [111, 117, 116]), (14, [112, 97, 121]), (19, [102, 101, 101]), (24, [114, 97, 116, 101]), (29, [115, 116, 97, 116, 101]), (33, [114, 101, 118, 101, 114, 115, 101]), (36, [100, 97, 121]), (39, [99, 108, 111, 115, 101]), (42, [97, 99, 99, 114, 117, 101]), (45, [101, 118, 101, 110, 116, 115]), (49, [116, 114, 105, 97, 108]), (51, [108, 97, 115, 116])].all (fun x => x.1 != i || decide (x.2 = k)) = true) (h : insOf op = some (i, f)) : op = k := by
  have h1 := List.all_eq_true.1 hk _ (ins_at h)
  simpa using h1
structure GF (bn bt g6 g7 : Nat) (w0 v : World) : Prop where
  row6 : v.heap[g6]? = some (.cells (kcN bn) 50 (0, 0))
  row7 : v.heap[g7]? = some (.cells (kcN bt) 50 (0, 0))
  boxn : v.heap[bn]? = some (.cells #[.func (.func 34) #[] #[]] 73 (0, 0))
  boxt : v.heap[bt]? = some (.cells #[.func (.func 35) #[] #[]] 73 (0, 0))
  low : Below w0.heap.size w0 v
def GFL (bn bt g6 g7 : Nat) (w0 : World) (_ : Nat → Bool) (v : World) : Prop := GF bn bt g6 g7 w0 v
section
variable {bn bt g6 g7 : Nat} {w0 v v2 : World} {L L' : Nat → Bool}
theorem GF.bnle (h : GF bn bt g6 g7 w0 v) : bn ≤ v.heap.size := Nat.le_of_lt (Array.getElem?_eq_some_iff.1 h.boxn).1
theorem GF.size (h : GF bn bt g6 g7 w0 v) : w0.heap.size ≤ v.heap.size := h.low.size
theorem GF.below (h : GF bn bt g6 g7 w0 v) (hb : Below v.heap.size v v2) : GF bn bt g6 g7 w0 v2 :=
  ⟨CellsK.below hb _ _ _ _ h.row6, CellsK.below hb _ _ _ _ h.row7, CellsK.below hb _ _ _ _ h.boxn, CellsK.below hb _ _ _ _ h.boxt, h.low.trans (hb.mono h.low.size)⟩
theorem GF.insert (h : GF bn bt g6 g7 w0 v) {gm : Nat} (hgm : w0.heap.size ≤ gm) (ho : ∀ k, k ≠ gm → v2.heap[k]? = v.heap[k]?) (hk : CellsK v v2) (k1 : v2.os = v.os) (k2 : v2.tape = v.tape) (k3 : v2.output = v.output) (k4 : v2.heap.size = v.heap.size) : GF bn bt g6 g7 w0 v2 :=
  ⟨hk _ _ _ _ h.row6, hk _ _ _ _ h.row7, hk _ _ _ _ h.boxn, hk _ _ _ _ h.boxt, ⟨k1.trans h.low.os, k2.trans h.low.tape, k3.trans h.low.output, by rw [k4]; exact h.low.size, fun k hlt => (ho k (by omega)).trans (h.low.block k hlt)⟩⟩
theorem MapV.new {B : Nat} (hB : B ≤ v.heap.size) (hL : ∀ op j f, insOf op = some (j, f) → L j = false) : MapV bn bt B L (.map (some v.heap.size)) (v.alloc (.map #[] 0)) := by
  refine ⟨v.heap.size, [], rfl, hB, heap_alloc_new _ _, fun op => ?_⟩
  cases hi : insOf op.data.toList with
  | none => rfl
  | some p =>
    obtain ⟨j, f⟩ := p
    dsimp only
    refine ⟨fun _ => rfl, fun h => ?_⟩
    rw [hL _ j f hi] at h
    cases h
def TF (bn bt B : Nat) (L : Nat → Bool) (i : Nat) (u : Value) (v : World) : Prop :=
  match i with
  | 0 => MapV bn bt B L u v
  | 1 => u = .agg (kcN bn)
  | 2 => u = .agg (kcN bt)
  | 3 => OpS bn bt v [.n, .t] u
  | 5 => u = .agg (kcN bn)
  | 6 => u = .agg (kcD)
  | 7 => u = .agg (kcM)
  | 8 => OpS bn bt v [.n, .d, .m] u
  | 10 => u = .agg (kcN bn)
  | 11 => u = .agg (kcD)
  | 12 => u = .agg (kcM)
  | 13 => OpS bn bt v [.n, .d, .m] u
  | 15 => u = .agg (kcN bn)
  | 16 => u = .agg (kcD)
  | 17 => u = .agg (kcM)
  | 18 => OpS bn bt v [.n, .d, .m] u
  | 20 => u = .agg (kcN bn)
  | 21 => u = .agg (kcD)
  | 22 => u = .agg (kcI)
  | 23 => OpS bn bt v [.n, .d, .i] u
  | 25 => u = .agg (kcN bn)
  | 26 => u = .agg (kcD)
  | 27 => u = .agg (kcI)
  | 28 => OpS bn bt v [.n, .d, .i] u
  | 30 => u = .agg (kcN bn)
  | 31 => u = .agg (kcI)
  | 32 => OpS bn bt v [.n, .i] u
  | 34 => u = .agg (kcD)
  | 35 => OpS bn bt v [.d] u
  | 37 => u = .agg (kcD)
  | 38 => OpS bn bt v [.d] u
  | 40 => u = .agg (kcN bn)
  | 41 => OpS bn bt v [.n] u
  | 43 => u = .agg (kcN bn)
  | 44 => OpS bn bt v [.n] u
  | 46 => u = .agg (kcD)
  | 47 => u = .agg (kcD)
  | 48 => OpS bn bt v [.d, .d] u
  | 50 => OpS bn bt v [] u
  | 52 => MapV bn bt B (fun _ => true) u v
  | 53 => MapV bn bt B (fun _ => true) u v
  | _ => True
theorem TF_keep {B i jj : Nat} {u : Value} (hb : Below v.heap.size v v2) (hni : ∀ op j f, insOf op = some (j, f) → j ≠ i) (h : TF bn bt B L jj u v) : TF bn bt B (upd L i) jj u v2 := by
  unfold TF at h ⊢
  split at h <;> first
    | exact MapV.keep h hb (fun op j f hh => upd_other (hni op j f hh))
    | exact MapV.keep h hb (fun _ _ _ _ => rfl)
    | exact OpS.keep h (.below hb)
    | exact h
theorem TF_ins {B i jj : Nat} {u : Value} (hk : CellsK v v2) (h0 : jj ≠ 0) (h52 : jj ≠ 52) (h53 : jj ≠ 53) (h : TF bn bt B L jj u v) : TF bn bt B (upd L i) jj u v2 := by
  unfold TF at h ⊢
  split at h <;> first
    | exact absurd rfl h0
    | exact absurd rfl h52
    | exact absurd rfl h53
    | exact OpS.keep h hk
    | exact h
end
section
variable {ev : Operand → Value} {o : Oper} {v v2 : World}
theorem exec_mkmap {P : Program} {T : TypeId} (ho : o.op = .makeMap T none) : (execOp ev o).run P v = .ok (.value (.map (some v.heap.size))) (v.alloc (.map #[] 0)) := by
  unfold execOp
  simp only [ho, Option.map_none, Sem.run_bind, run_makeMap, Result.andThen_ok]
  rfl
theorem exec_insert {P : Program} {T : TypeId} {m k x : Operand} {mv kv : Value} (ho : o.op = .insert T m k x) (hm : ev m = mv) (hk : ev k = kv) (hr : (Instr.mapUpdate T mv kv (ev x)).run P v = .ok () v2) : (execOp ev o).run P v = .ok .skip v2 := by
  unfold execOp
  simp only [ho, hm, hk, Sem.run_bind, hr, Result.andThen_ok]
  rfl
theorem exec_opd0 {P : Program} {T : TypeId}  {u : Value} (ho : o.op = .buildSlice T 0 #[])  (hr : (Instr.buildSlice T 0 #[]).run P v = .ok u v2) : (execOp ev o).run P v = .ok (.value u) v2 := by
  unfold execOp
  simp only [ho, List.map_toArray, List.map_nil, Sem.run_bind, hr, Result.andThen_ok]
  rfl
theorem exec_opd1 {P : Program} {T : TypeId} {x0 : Operand} {y0 : Value} {u : Value} (ho : o.op = .buildSlice T 1 #[(0, x0)]) (hx0 : ev x0 = y0) (hr : (Instr.buildSlice T 1 #[(0, y0)]).run P v = .ok u v2) : (execOp ev o).run P v = .ok (.value u) v2 := by
  unfold execOp
  simp only [ho, List.map_toArray, List.map_cons, List.map_nil, hx0, Sem.run_bind, hr, Result.andThen_ok]
  rfl
theorem exec_opd2 {P : Program} {T : TypeId} {x0 : Operand} {y0 : Value} {x1 : Operand} {y1 : Value} {u : Value} (ho : o.op = .buildSlice T 2 #[(0, x0), (1, x1)]) (hx0 : ev x0 = y0) (hx1 : ev x1 = y1) (hr : (Instr.buildSlice T 2 #[(0, y0), (1, y1)]).run P v = .ok u v2) : (execOp ev o).run P v = .ok (.value u) v2 := by
  unfold execOp
  simp only [ho, List.map_toArray, List.map_cons, List.map_nil, hx0, hx1, Sem.run_bind, hr, Result.andThen_ok]
  rfl
theorem exec_opd3 {P : Program} {T : TypeId} {x0 : Operand} {y0 : Value} {x1 : Operand} {y1 : Value} {x2 : Operand} {y2 : Value} {u : Value} (ho : o.op = .buildSlice T 3 #[(0, x0), (1, x1), (2, x2)]) (hx0 : ev x0 = y0) (hx1 : ev x1 = y1) (hx2 : ev x2 = y2) (hr : (Instr.buildSlice T 3 #[(0, y0), (1, y1), (2, y2)]).run P v = .ok u v2) : (execOp ev o).run P v = .ok (.value u) v2 := by
  unfold execOp
  simp only [ho, List.map_toArray, List.map_cons, List.map_nil, hx0, hx1, hx2, Sem.run_bind, hr, Result.andThen_ok]
  rfl
theorem lit_e {bn bt : Nat} : (Instr.buildSlice 41 0 #[]).run Tryz.prog v = .ok (.slice (some ⟨v.heap.size, 0, none⟩) 0 0) (v.alloc (.cells (opCells bn bt []).toArray 50)) := by
  unfold opCells
  go_simp
theorem lit_d {bn bt : Nat} : (Instr.buildSlice 41 1 #[(0, .agg (kcD))]).run Tryz.prog v = .ok (.slice (some ⟨v.heap.size, 0, none⟩) 1 1) (v.alloc (.cells (opCells bn bt [.d]).toArray 50)) := by
  unfold opCells
  simp only [List.flatMap_cons, List.flatMap_nil, kc]
  unfold kcD
  go_simp
theorem lit_dd {bn bt : Nat} : (Instr.buildSlice 41 2 #[(0, .agg (kcD)), (1, .agg (kcD))]).run Tryz.prog v = .ok (.slice (some ⟨v.heap.size, 0, none⟩) 2 2) (v.alloc (.cells (opCells bn bt [.d, .d]).toArray 50)) := by
  unfold opCells
  simp only [List.flatMap_cons, List.flatMap_nil, kc]
  unfold kcD
  go_simp
theorem lit_n {bn bt : Nat} : (Instr.buildSlice 41 1 #[(0, .agg (kcN bn))]).run Tryz.prog v = .ok (.slice (some ⟨v.heap.size, 0, none⟩) 1 1) (v.alloc (.cells (opCells bn bt [.n]).toArray 50)) := by
  unfold opCells
  simp only [List.flatMap_cons, List.flatMap_nil, kc]
  unfold kcN
  go_simp
theorem lit_ndi {bn bt : Nat} : (Instr.buildSlice 41 3 #[(0, .agg (kcN bn)), (1, .agg (kcD)), (2, .agg (kcI))]).run Tryz.prog v = .ok (.slice (some ⟨v.heap.size, 0, none⟩) 3 3) (v.alloc (.cells (opCells bn bt [.n, .d, .i]).toArray 50)) := by
  unfold opCells
  simp only [List.flatMap_cons, List.flatMap_nil, kc]
  unfold kcD kcI kcN
  go_simp
theorem lit_ndm {bn bt : Nat} : (Instr.buildSlice 41 3 #[(0, .agg (kcN bn)), (1, .agg (kcD)), (2, .agg (kcM))]).run Tryz.prog v = .ok (.slice (some ⟨v.heap.size, 0, none⟩) 3 3) (v.alloc (.cells (opCells bn bt [.n, .d, .m]).toArray 50)) := by
  unfold opCells
  simp only [List.flatMap_cons, List.flatMap_nil, kc]
  unfold kcD kcM kcN
  go_simp
theorem lit_ni {bn bt : Nat} : (Instr.buildSlice 41 2 #[(0, .agg (kcN bn)), (1, .agg (kcI))]).run Tryz.prog v = .ok (.slice (some ⟨v.heap.size, 0, none⟩) 2 2) (v.alloc (.cells (opCells bn bt [.n, .i]).toArray 50)) := by
  unfold opCells
  simp only [List.flatMap_cons, List.flatMap_nil, kc]
  unfold kcI kcN
  go_simp
theorem lit_nt {bn bt : Nat} : (Instr.buildSlice 41 2 #[(0, .agg (kcN bn)), (1, .agg (kcN bt))]).run Tryz.prog v = .ok (.slice (some ⟨v.heap.size, 0, none⟩) 2 2) (v.alloc (.cells (opCells bn bt [.n, .t]).toArray 50)) := by
  unfold opCells
  simp only [List.flatMap_cons, List.flatMap_nil, kc]
  unfold kcN
  go_simp
end
end Go.Proofs.YthlgjbmkealjjaaGreatDoor
