/-
  Joined texts: RangeO CmP CmI CmJ. No statement is proved here.
-/
import Derived.RangeFuncNested
import Derived.RangeFuncBound
import Derived.RangeFuncCalls
import Derived.RangeFuncLeaves
import Derived.Test.YthlgjbmkealjjaaGreatDoorLib
import Derived.Lib.Join
import Derived.Lib.IndexLaws
import Derived.Lib.ParseIntB
import Derived.Test.YthlgjbmkealjjaaGreatDoorCivB
import Derived.Test.YthlgjbmkealjjaaGreatDoorAmXA
import Derived.Test.YthlgjbmkealjjaaGreatDoorAcA
import Derived.Shelf.Abstract
import Derived.Shelf.RegionOpen
import Derived.WalkKit
import Derived.OwnWalkIn
import Derived.TacticsInMore
import Derived.LoopNIn
import Derived.LoopIn
import Derived.Test.YthlgjbmkealjjaaGreatDoorCmS
namespace Go.Proofs.YthlgjbmkealjjaaGreatDoor
open Go.RowKit
set_option linter.unusedVariables false

/-- All but some blocks are as they were; blocks may be new. -/
structure Turns (O : Nat → Prop) (w w' : World) : Prop where
  os : w'.os = w.os
  tape : w'.tape = w.tape
  output : w'.output = w.output
  size : w.heap.size ≤ w'.heap.size
  block : ∀ k, k < w.heap.size → ¬ O k → w'.heap[k]? = w.heap[k]?
theorem Turns.refl (O : Nat → Prop) (w : World) : Turns O w w := ⟨rfl, rfl, rfl, Nat.le_refl _, fun _ _ _ => rfl⟩
theorem Turns.trans {O : Nat → Prop} {a b c : World} (h : Turns O a b) (k : Turns O b c) : Turns O a c := ⟨k.os.trans h.os, k.tape.trans h.tape, k.output.trans h.output, Nat.le_trans h.size k.size, fun i hi hb => (k.block i (Nat.lt_of_lt_of_le hi h.size) hb).trans (h.block i hi hb)⟩
theorem Turns.of_below {O : Nat → Prop} {w w' : World} (h : Below w.heap.size w w') : Turns O w w' := ⟨h.os, h.tape, h.output, h.size, fun k hk _ => h.block k hk⟩
theorem Turns.mono {O O' : Nat → Prop} {w w' : World} (h : Turns O w w') (ho : ∀ k, O k → O' k) : Turns O' w w' := ⟨h.os, h.tape, h.output, h.size, fun k hk hn => h.block k hk fun e => hn (ho k e)⟩
theorem Turns.set {O : Nat → Prop} {w a : World} {g : Nat} (h : Turns O w a) (hg : O g) (j : Nat) (v : Value) : Turns O w (a.setCell ⟨g, j, none⟩ v) := by
  have hb := (Below.refl 0 a).setCell (p := ⟨g, j, none⟩) (Nat.zero_le _) v
  exact ⟨hb.os.trans h.os, hb.tape.trans h.tape, hb.output.trans h.output, Nat.le_trans h.size hb.size, fun k hk hn => (heap_setCell_other _ _ _ _ (by intro e; have e2 : k = g := (by first | exact e | exact e.symm); exact hn (by rw [e2]; exact hg))).trans (h.block k hk hn)⟩
theorem Turns.putObj {O : Nat → Prop} {w a : World} {g : Nat} (h : Turns O w a) (hg : O g) (o : Obj) : Turns O w (a.putObj g o) :=
  ⟨h.os, h.tape, h.output, by simpa using h.size, fun k hk hn => (World.putObj_heap_other (fun e => hn (by rw [e]; exact hg))).trans (h.block k hk hn)⟩
/-- Some blocks are as they were. -/
structure Keeps (O : Nat → Prop) (w w' : World) : Prop where
  size : w.heap.size ≤ w'.heap.size
  block : ∀ k, k < w.heap.size → O k → w'.heap[k]? = w.heap[k]?
theorem Keeps.trans {O : Nat → Prop} {a b c : World} (h : Keeps O a b) (k : Keeps O b c) : Keeps O a c := ⟨Nat.le_trans h.size k.size, fun i hi ho => (k.block i (Nat.lt_of_lt_of_le hi h.size) ho).trans (h.block i hi ho)⟩
theorem Keeps.of_below {O : Nat → Prop} {w w' : World} (h : Below w.heap.size w w') : Keeps O w w' := ⟨h.size, fun k hk _ => h.block k hk⟩
theorem Keeps.refl (O : Nat → Prop) (w : World) : Keeps O w w := ⟨Nat.le_refl _, fun _ _ _ => rfl⟩
theorem Keeps.mono {O O' : Nat → Prop} {w w' : World} (h : Keeps O w w') (ho : ∀ k, O' k → O k) : Keeps O' w w' := ⟨h.size, fun k hk hn => h.block k hk (ho k hn)⟩
theorem Turns.keeps {O O' : Nat → Prop} {w w' : World} (h : Turns O w w') (ho : ∀ k, O' k → ¬ O k) : Keeps O' w w' := ⟨h.size, fun k hk hn => h.block k hk (ho k hn)⟩
/-- What abides whatever happens in some blocks. -/
def Abides (O : Nat → Prop) (J : World → Prop) : Prop := ∀ A A', J A → Turns O A A' → J A'
/-- What is owed of the iterator, begun at W: it gives xs one by one, or stops where a round says so. O: its own blocks. -/
def Gives {α : Type} (n : Nat) (P : Program) (g : Nat) (lb : Array Value) (encs : α → Array Value) (O : Nat → Prop) (W : World) (xs : List α) : Prop :=
  ∀ (l : Nat) (J : List α → World → Prop) (JX : World → Prop), (∀ pre, Abides O (J pre)) → Abides O JX →
    (∀ pre x A, pre ++ [x] <+: xs → (∀ k, O k → k < A.heap.size) → J pre A → YieldAt Fence.wide (n - 1) P l (encs x) A fun e A' => Keeps O A A' ∧ ((e = .returned (.bool true) ∧ J (pre ++ [x]) A') ∨ (e = .returned (.bool false) ∧ JX A'))) →
    J [] W → CallsIn Fence.wide n P g (#[.func (.yield l) #[] #[]] ++ lb) W fun e W' => (∃ v, e = .returned v) ∧ (J xs W' ∨ JX W')
theorem range_gives {α : Type} {P : Program} {n : Nat} {g : Operand} {ps : Array Tmp} {assign body : Code} {Q : Exit → Act → World → Prop} {a : Act} {w : World}
    {gf : Nat} {lb : Array Value} (hg : a.eval g = .func (.func gf) #[] lb) (eg : ∀ args w, (callFunc gf args).run P w = .ok (.enter gf args) w)
    {encs : α → Array Value} (hps : ∀ x, (encs x).size = ps.size) (xs : List α) (O : Nat → Prop) (hO : ∀ k, O k → k ≠ w.heap.size ∧ k ≠ w.heap.size + 1)
    (hit : ∀ W1, Below w.heap.size w W1 → W1.heap.size = w.heap.size + 2 → Gives (n - 1) P gf lb encs O W1 xs)
    (I : List α → World → Prop) (IX : World → Prop)
    (hI : ∀ pre, Abides (fun k => O k ∨ k = w.heap.size ∨ k = w.heap.size + 1) (I pre)) (hIX : Abides (fun k => O k ∨ k = w.heap.size ∨ k = w.heap.size + 1) IX)
    (h0 : I [] w) (a₁ : α → Act)
    (hassign : ∀ (l : Nat) (x : α) (W : World) (K : Act → World → Prop), K (a₁ x) W →
      assign.wpIn (Fence.wide.inRound l) (n - 1 - 1) P (Exit.then K (fun _ _ _ => False)) { tmps := (ps.zip (encs x)).foldl (fun t (p, v) => t.setIfInBounds p v) a.tmps, defers := [] } W)
    (hbody : ∀ (l : Nat) (pre : List α) (x : α) (W : World), pre ++ [x] <+: xs → (∀ k, O k → k < W.heap.size) → I pre W → w.heap.size + 2 ≤ W.heap.size → body.wpIn (Fence.wide.inRound l) (n - 1 - 1) P (fun e _ W' => Keeps (fun k => O k ∨ k = w.heap.size ∨ k = w.heap.size + 1) W W' ∧ ((e = .normal ∧ I (pre ++ [x]) W') ∨ (e = .ret ∧ IX W'))) (a₁ x) W)
    (hdone : ∀ (W : World), I xs W → W.heap[w.heap.size]? = some (.deferred (some [])) → Q .normal { a with defers := { target := .collected w.heap.size, args := #[] } :: a.defers } W)
    (hstop : ∀ (W : World), IX W → W.heap[w.heap.size]? = some (.deferred (some [])) → Q .ret { a with defers := { target := .collected w.heap.size, args := #[] } :: a.defers } W) :
    (Code.rangeFunc g ps assign body).wpIn Fence.wide n P Q a w := by
  refine wpIn_rangeFunc ?_
  intro fn hfn
  obtain ⟨rec, hrec⟩ : ∃ rec : LoopState → Option Code → Loop, rec = fun st pe => { state := st, pending := pe, fn, tmps := a.tmps, params := ps, assign, body, defers := w.heap.size } := ⟨_, rfl⟩
  obtain ⟨W1, hW1⟩ : ∃ W1, W1 = (w.alloc (.deferred (some []))).alloc (.loop (rec .ready none)) := ⟨_, rfl⟩
  have hz1 : W1.heap.size = w.heap.size + 2 := by rw [hW1]; simp
  have hb1 : Below w.heap.size w W1 := by rw [hW1]; exact ((Below.refl _ _).alloc (Nat.le_refl _) _).alloc (by simp) _
  have hL1 : W1.heap[w.heap.size + 1]? = some (.loop (rec .ready none)) := by
    have := World.alloc_heap_new (w.alloc (.deferred (some []))) (.loop (rec .ready none))
    rw [World.size_alloc] at this
    rw [hW1]; exact this
  have hK1 : W1.heap[w.heap.size]? = some (.deferred (some [])) := by
    rw [hW1]; exact (Below.heap_alloc _ _ _ (by simp)).trans (World.alloc_heap_new w _)
  refine ⟨w.heap.size + 1, [{ target := .collected w.heap.size, args := #[] }], W1, { target := .fn (.func gf) lb, args := #[.func (.yield (w.heap.size + 1)) #[] #[]] }, W1, gf,
    #[.func (.yield (w.heap.size + 1)) #[] #[]] ++ lb, W1, ?_, ?_, ?_, ?_, ?_, ?_⟩
  · rw [hW1, hrec]; exact run_enterLoop_outer _ _ _ _ _
  · simp only [resolve, hg]
    simp [go_sem]
  · intro f' _; trivial
  · simp [invoke, go_sem, eg]
  · intro h; simp [Fence.wide] at h
  · have hit1 := hit W1 hb1 hz1
    refine (hit1 (w.heap.size + 1) (fun pre A => I pre A ∧ A.heap[w.heap.size + 1]? = some (.loop (rec .ready none)) ∧ A.heap[w.heap.size]? = some (.deferred (some [])))
      (fun A => IX A ∧ A.heap[w.heap.size + 1]? = some (.loop (rec .done (some .ret))) ∧ A.heap[w.heap.size]? = some (.deferred (some []))) ?_ ?_ ?_ ⟨hI [] w W1 h0 (.of_below hb1), hL1, hK1⟩).mono ?_
    · rintro pre A A' ⟨h1, h2, h3⟩ ht
      exact ⟨hI pre A A' h1 (ht.mono fun k hk => .inl hk), (ht.block _ (Array.getElem?_eq_some_iff.1 h2).1 (fun e => (hO _ e).2 rfl)).trans h2, (ht.block _ (Array.getElem?_eq_some_iff.1 h3).1 (fun e => (hO _ e).1 rfl)).trans h3⟩
    · rintro A A' ⟨h1, h2, h3⟩ ht
      exact ⟨hIX A A' h1 (ht.mono fun k hk => .inl hk), (ht.block _ (Array.getElem?_eq_some_iff.1 h2).1 (fun e => (hO _ e).2 rfl)).trans h2, (ht.block _ (Array.getElem?_eq_some_iff.1 h3).1 (fun e => (hO _ e).1 rfl)).trans h3⟩
    · rintro pre x A hpre hbd ⟨hi, hl, hk⟩
      have hlt : w.heap.size + 1 < A.heap.size := (Array.getElem?_eq_some_iff.1 hl).1
      have hy := run_yield (P := P) (args := encs x) hl (by rw [hrec]; exact hps x)
      rw [hrec] at hy
      refine ⟨fn, _, assign, body, hy, roundIn_of_wpIn hfn (hassign _ x A _ ?_)⟩
      refine ⟨_, run_beginRound hl (by rw [hrec]), ?_⟩
      obtain ⟨A2, hA2⟩ : ∃ A2, A2 = A.putObj (w.heap.size + 1) (.loop { rec .ready none with state := .busy }) := ⟨_, rfl⟩
      have hz2 : A2.heap.size = A.heap.size := by rw [hA2]; simp
      have hl2 : A2.heap[w.heap.size + 1]? = some (.loop { rec .ready none with state := .busy }) := by rw [hA2]; exact World.putObj_heap_same hlt
      have hk2 : A2.heap[w.heap.size]? = some (.deferred (some [])) := by rw [hA2]; exact (World.putObj_heap_other (by omega)).trans hk
      have hi2 : I pre A2 := by rw [hA2]; exact hI pre A _ hi ((Turns.refl _ A).putObj (.inr (.inr rfl)) _)
      have ho2 : ∀ k, O k → A2.heap[k]? = A.heap[k]? := fun k hk => by rw [hA2]; exact World.putObj_heap_other (hO k hk).2
      rw [← hA2]
      refine wpIn_mono (hbody _ pre x A2 hpre (fun k hk => by rw [hz2]; exact hbd k hk) hi2 (by omega)) ?_
      rintro e a3 A3 ⟨hk3, hp⟩
      have hl3 := (hk3.block _ (by omega) (.inr (.inr rfl))).trans hl2
      have hk4 := (hk3.block _ (by omega) (.inr (.inl rfl))).trans hk2
      have hko : ∀ (o : Obj), Keeps O A (A3.putObj (w.heap.size + 1) o) := fun o => ⟨by have := hk3.size; simp; omega, fun k hk ho => (World.putObj_heap_other (hO k ho).2).trans ((hk3.block k (by omega) (.inl ho)).trans (ho2 k ho))⟩
      rcases hp with ⟨rfl, hi3⟩ | ⟨rfl, hi3⟩
      · have hr := run_endRound (P := P) none hl3
        refine ⟨_, _, hr, hko _, .inl ⟨rfl, hI _ A3 _ hi3 ((Turns.refl _ A3).putObj (.inr (.inr rfl)) _), ?_, (World.putObj_heap_other (by omega)).trans hk4⟩⟩
        rw [World.putObj_heap_same (Array.getElem?_eq_some_iff.1 hl3).1, hrec]
        rfl
      · have hr := run_endRound (P := P) (some .ret) hl3
        refine ⟨_, _, hr, hko _, .inr ⟨rfl, hIX A3 _ hi3 ((Turns.refl _ A3).putObj (.inr (.inr rfl)) _), ?_, (World.putObj_heap_other (by omega)).trans hk4⟩⟩
        rw [World.putObj_heap_same (Array.getElem?_eq_some_iff.1 hl3).1, hrec]
        rfl
    · rintro e W2 ⟨⟨v, rfl⟩, (⟨hf, hl, hk⟩ | ⟨hf, hl, hk⟩)⟩
      · have hr := run_endLoop (P := P) hl (by rw [hrec]; simp)
        rw [hrec] at hr
        exact ⟨none, _, hr, hdone _ (hI xs W2 _ hf ((Turns.refl _ W2).putObj (.inr (.inr rfl)) _)) ((World.putObj_heap_other (by omega)).trans hk)⟩
      · have hr := run_endLoop (P := P) hl (by rw [hrec]; simp)
        rw [hrec] at hr
        refine ⟨some .ret, _, hr, ?_⟩
        exact wpIn_ret (hstop _ (hIX W2 _ hf ((Turns.refl _ W2).putObj (.inr (.inr rfl)) _)) ((World.putObj_heap_other (by omega)).trans hk))
end Go.Proofs.YthlgjbmkealjjaaGreatDoor

namespace Go.Proofs.YthlgjbmkealjjaaGreatDoor
open Go.RowKit
set_option linter.unusedVariables false

inductive Kd where
  | n | t | d | m | i
structure Cm where
  op : ByteArray
  name : ByteArray
  text : ByteArray
  args : List Int
def bs (l : List UInt8) : ByteArray := ⟨l.toArray⟩
def noneC : Cm := ⟨⟨#[]⟩, ⟨#[]⟩, ⟨#[]⟩, []⟩
/-- The words of a line. -/
def wordsOf : List UInt8 → List (List UInt8)
  | [] => [[]]
  | c :: r => if c = 32 then [] :: wordsOf r else (c :: (wordsOf r).headD []) :: (wordsOf r).tail
theorem words_ne (l : List UInt8) : wordsOf l ≠ [] := by
  cases l with
  | nil => simp [wordsOf]
  | cons c r => unfold wordsOf; split <;> simp
theorem words_len (l : List UInt8) : (wordsOf l).length = l.count 32 + 1 := by
  induction l with
  | nil => rfl
  | cons c r ih =>
    unfold wordsOf
    have h0 : 0 < (wordsOf r).length := by rw [ih]; omega
    by_cases h : c = 32
    · rw [if_pos h, h, List.length_cons, ih, List.count_cons_self]
    · rw [if_neg h, List.length_cons, List.length_tail, ih, List.count_cons_of_ne h]
      omega
theorem words_join (l : List UInt8) : Lib.join (wordsOf l) [32] = l := by
  induction l with
  | nil => rfl
  | cons c r ih =>
    unfold wordsOf
    by_cases h : c = 32
    · rw [if_pos h]
      cases hw : wordsOf r with
      | nil => exact absurd hw (words_ne r)
      | cons w ws =>
        rw [hw] at ih
        rw [h, Lib.join_cons, ← ih]
        simp [Lib.joinTail, Lib.join_cons]
    · rw [if_neg h]
      cases hw : wordsOf r with
      | nil => exact absurd hw (words_ne r)
      | cons w ws =>
        rw [hw] at ih
        rw [List.headD_cons, List.tail_cons, Lib.join_cons, List.cons_append, ← Lib.join_cons w, ih]
theorem words_none (l : List UInt8) (h : ∀ k : Nat, l[k]? ≠ some 32) : wordsOf l = [l] := by
  induction l with
  | nil => rfl
  | cons c r ih =>
    have h0 : c ≠ 32 := fun e => h 0 (by rw [e]; rfl)
    rw [wordsOf, if_neg h0, ih (fun k => by simpa using h (k + 1))]
    rfl
theorem words_some (l : List UInt8) : ∀ o : Nat, l[o]? = some 32 → (∀ k, k < o → l[k]? ≠ some 32) → wordsOf l = l.take o :: wordsOf (l.drop (o + 1)) := by
  induction l with
  | nil => intro o h; simp at h
  | cons c r ih =>
    intro o h hk
    cases o with
    | zero =>
      have h0 : c = 32 := by simpa using h
      rw [show wordsOf (c :: r) = [] :: wordsOf r by rw [wordsOf, if_pos h0]]
      rfl
    | succ o =>
      have h0 : c ≠ 32 := fun e => hk 0 (by omega) (by rw [e]; rfl)
      have := ih o (by simpa using h) (fun k hlt => by simpa using hk (k + 1) (by omega))
      rw [wordsOf, if_neg h0, this]
      rfl
def prodB : List UInt8 := [112, 114, 111, 100, 117, 99, 116]
def formTab (op : List UInt8) : Option (List Kd) :=
  if op = [111, 112, 101, 110] then some [.n, .t]
  else if op = [111, 117, 116] then some [.n, .d, .m]
  else if op = [112, 97, 121] then some [.n, .d, .m]
  else if op = [102, 101, 101] then some [.n, .d, .m]
  else if op = [114, 97, 116, 101] then some [.n, .d, .i]
  else if op = [115, 116, 97, 116, 101] then some [.n, .d, .i]
  else if op = [114, 101, 118, 101, 114, 115, 101] then some [.n, .i]
  else if op = [100, 97, 121] then some [.d]
  else if op = [99, 108, 111, 115, 101] then some [.d]
  else if op = [97, 99, 99, 114, 117, 101] then some [.n]
  else if op = [101, 118, 101, 110, 116, 115] then some [.n]
  else if op = [116, 114, 105, 97, 108] then some [.d, .d]
  else if op = [108, 97, 115, 116] then some []
  else none
def formOf (op : List UInt8) (k : Int) : Option (List Kd) := if op = prodB ∧ 7 ≤ k ∧ k ≤ 15 then some (.n :: List.replicate k.toNat .i) else formTab op
def numOk (l : List UInt8) : Bool := !l.isEmpty && (decide (l.length ≤ 18) && (l.all digitB && !(decide (1 < l.length) && l[0]? == some 48)))
open Classical in
noncomputable def civOf (l : List UInt8) : Int × Int := if Good l then ofAt (num (l.take 4)) (num ((l.drop 5).take 2)) (num ((l.drop 8).take 2)) else (0, 7)
theorem civOf_as (l : List UInt8) : ReadAs l (civOf l) := by
  unfold civOf ReadAs
  by_cases h : Good l
  · rw [if_pos h]; exact .inl ⟨h, rfl⟩
  · rw [if_neg h]; exact .inr ⟨h, rfl⟩
theorem civOf_err (l : List UInt8) : (civOf l).2 = 0 ∨ (civOf l).2 = 6 ∨ (civOf l).2 = 7 := by
  unfold civOf
  split
  · unfold ofAt
    split
    · exact .inl rfl
    · exact .inr (.inl rfl)
  · exact .inr (.inr rfl)
theorem civOf_in (l : List UInt8) (h : (civOf l).2 = 0) : -719162 ≤ (civOf l).1 ∧ (civOf l).1 ≤ 2932896 := by
  unfold civOf at h ⊢
  split
  · rename_i hg
    rw [if_pos hg] at h
    unfold ofAt at h ⊢
    split
    · rename_i hv; exact dayOf_range hv
    · rename_i hv; rw [if_neg hv] at h; simp at h
  · rename_i hg; rw [if_neg hg] at h; simp at h
def monOk (p : Int × Int) : Bool := decide (p.2 = 0) && (decide (1 ≤ p.1) && decide (p.1 ≤ 1000000000000000))
noncomputable def readW (k : Kd) (c : Cm) (w : List UInt8) : Cm × Int :=
  match k with
  | .n => ({ c with name := bs w }, if nameOk (bs w) then 0 else 7)
  | .t => ({ c with text := bs w }, if nameOk (bs w) then 0 else 7)
  | .d => ({ c with args := c.args ++ [(civOf w).1] }, (civOf w).2)
  | .m => ({ c with args := c.args ++ [(readOf w).1] }, if monOk (readOf w) then 0 else 7)
  | .i => ({ c with args := c.args ++ [(numOf w : Int)] }, if numOk w then 0 else 7)
theorem readW_err (k : Kd) (c : Cm) (w : List UInt8) : (readW k c w).2 = 0 ∨ (readW k c w).2 = 6 ∨ (readW k c w).2 = 7 := by
  cases k <;> simp only [readW]
  case d => exact civOf_err w
  all_goals (split <;> simp)
/-- One word more; none: refused. -/
noncomputable def stepW (st : Option (Cm × Int)) (x : Kd × List UInt8) : Option (Cm × Int) :=
  st.bind fun s => if (readW x.1 s.1 x.2).2 = 0 then some ((readW x.1 s.1 x.2).1, s.2) else if (readW x.1 s.1 x.2).2 = 6 then some ((readW x.1 s.1 x.2).1, 6) else none
noncomputable def runW (op : List UInt8) (l : List (Kd × List UInt8)) : Option (Cm × Int) := l.foldl stepW (some (⟨bs op, ⟨#[]⟩, ⟨#[]⟩, []⟩, 0))
theorem runW_snoc (op : List UInt8) (l : List (Kd × List UInt8)) (x : Kd × List UInt8) : runW op (l ++ [x]) = stepW (runW op l) x := by unfold runW; rw [List.foldl_append]; rfl
theorem stepW_none (l : List (Kd × List UInt8)) : l.foldl stepW none = none := by
  induction l with
  | nil => rfl
  | cons x l ih => exact ih
theorem runW_none (op : List UInt8) (l m : List (Kd × List UInt8)) (h : runW op l = none) : runW op (l ++ m) = none := by
  unfold runW at h ⊢
  rw [List.foldl_append, h, stepW_none]
def endW (r : Option (Cm × Int)) : Cm × Int := match r with | none => (noneC, 7) | some s => if s.2 ≠ 0 then (noneC, s.2) else (s.1, 0)
noncomputable def parseW : List (List UInt8) → Cm × Int
  | [] => (noneC, 7)
  | op :: r => match formOf op ((r.length : Int) - 1) with
    | none => (noneC, 7)
    | some f => if f.length ≠ r.length then (noneC, 7) else endW (runW op (f.zip r))
noncomputable def parseAns (l : List UInt8) : Cm × Int := if 400 < l.length then (noneC, 3) else parseW (wordsOf l)
end Go.Proofs.YthlgjbmkealjjaaGreatDoor

namespace Go.Proofs.YthlgjbmkealjjaaGreatDoor
open Go.RowKit Go.Shelf
set_option linter.unusedVariables false
attribute [local go_sem] Oper.semAt_some

theorem bs_size (l : List UInt8) : (bs l).size = l.length := by show l.toArray.size = _; simp
theorem bs_list (l : List UInt8) : (bs l).data.toList = l := by simp [bs]
theorem cut_to (l : List UInt8) (o : Nat) (h : o ≤ l.length) (I : Int) (hI : I = (o : Int)) (W : World) : (Instr.slice 9 (.string (bs l)) none (some (.int .i64 I)) none).run Tryz.prog W = .ok (.string (bs (l.take o))) W := by
  subst hI
  rw [run_slice_string_h W 9 _ Tryz.underlying9 .i64 _ (by omega) (by rw [bs_size]; omega), Int.toNat_natCast]
  unfold bs
  rw [ByteArray.extract_mk]
  simp
theorem cut_from (l : List UInt8) (o : Nat) (h : o ≤ l.length) (I : Int) (hI : I = (o : Int)) (W : World) : (Instr.slice 9 (.string (bs l)) (some (.int .i64 I)) none none).run Tryz.prog W = .ok (.string (bs (l.drop o))) W := by
  subst hI
  rw [run_slice_string_l W 9 _ Tryz.underlying9 .i64 _ (by omega) (by rw [bs_size]; omega), Int.toNat_natCast, bs_size]
  unfold bs
  rw [ByteArray.extract_mk]
  simp [List.take_of_length_le]
/-- How much of the text is left. -/
def leftS (g : Nat) (W : World) : Nat := match W.cell? ⟨g, 0, none⟩ with | some (.string s) => s.size | _ => 0
theorem leftS_eq {g : Nat} {W : World} {l : List UInt8} (h : W.cell? ⟨g, 0, none⟩ = some (.string (bs l))) : leftS g W = l.length := by
  unfold leftS
  rw [h]
  exact bs_size l
theorem box_set {W : World} {g : Nat} {u : Value} {t : TypeId} (h : W.heap[g]? = some (.cells #[u] t (0, 0))) (v : Value) : (W.setCell ⟨g, 0, none⟩ v).heap[g]? = some (.cells #[v] t (0, 0)) := by
  rw [heap_setCell_same W g 0 _ _ v h]; rfl
theorem box_cell {W : World} {g : Nat} {u : Value} {t : TypeId} (h : W.heap[g]? = some (.cells #[u] t (0, 0))) : W.cell? ⟨g, 0, none⟩ = some u := by rw [cell_of_row _ _ _ _ _ _ h]; rfl
theorem set_oth (W : World) (g j : Nat) (v : Value) (k : Nat) (h : g ≠ k) : (W.setCell ⟨g, j, none⟩ v).heap[k]? = W.heap[k]? := heap_setCell_other _ _ _ _ (by intro e; first | exact h e | exact h e.symm)
theorem box_free {W : World} {g : Nat} {u : Value} {t : TypeId} (h : W.heap[g]? = some (.cells #[u] t (0, 0))) : W.frozen? ⟨g, 0, none⟩ = false := by simp [World.frozen?, h]
set_option maxRecDepth 100000 in
set_option maxHeartbeats 4000000 in
theorem split_gives (n : Nat) (gs gp gv : Nat) (line : List UInt8) (W : World) (hs : W.heap[gs]? = some (.cells #[.string (bs line)] 9 (0, 0))) (hp : W.heap[gp]? = some (.cells #[.string ⟨#[32]⟩] 9 (0, 0))) (hv : W.heap[gv]? = some (.cells #[.int .i64 0] 3 (0, 0))) (hsp : gs ≠ gp) (hsv : gs ≠ gv) (hl : line.length ≤ 4611686018427387904) :
    Gives n Tryz.prog 82 #[.pointer (some ⟨gp, 0, none⟩), .pointer (some ⟨gs, 0, none⟩), .pointer (some ⟨gv, 0, none⟩)] (fun w : List UInt8 => #[.string (bs w)]) (fun k => k = gs ∨ k = gp ∨ k = gv) W (wordsOf line) := by
  intro l J JX hJ hJX hY h0
  have HJ := Lib.hid hJ
  have HY := Lib.hid hY
  have HS := Lib.hid hs
  have HP := Lib.hid hp
  have HV := Lib.hid hv
  have c0 := box_cell hp
  clear hJ hJX hY hs hp hv
  refine callsIn_of_wp Tryz.func82 rfl trivial ?_
  simp only [Tryz.ntmps82, List.size_toArray, List.length_cons, List.length_nil, Nat.reduceAdd, Nat.reduceSub, Array.replicate_succ, Array.replicate_zero, List.push_toArray, List.append_toArray, List.nil_append, List.cons_append]
  gi_wp2
  gi_loopw [] (fun wr => ∃ (pre : List (List UInt8)) (rest : List UInt8), Hid (wordsOf line = pre ++ wordsOf rest) ∧ rest.length ≤ line.length ∧ Hid (wr.heap[gs]? = some (.cells #[.string (bs rest)] 9 (0, 0))) ∧ Hid (wr.heap[gp]? = some (.cells #[.string ⟨#[32]⟩] 9 (0, 0))) ∧ Hid (wr.heap[gv]? = some (.cells #[.int .i64 0] 3 (0, 0))) ∧ Hid (J pre wr)) (fun wr => leftS gs wr)
  case atStart => exact ⟨[], line, Lib.hid rfl, Nat.le_refl _, HS, HP, HV, Lib.hid h0⟩
  case round =>
    clear HS HP HV h0 c0
    obtain ⟨pre, rest, HW, hrl, HS, HP, HV, HJJ⟩ := hrel
    obtain ⟨wa, rfl⟩ : ∃ x, x = wr := ⟨_, rfl⟩
    have c1 := box_cell HS.out
    have c2 := box_cell HP.out
    have c3 := box_cell HV.out
    have f1 := box_free HS.out
    have IX := Lib.hid (strings_Index_one (bs rest) 32 wa)
    rw [bs_list] at IX
    have hge := Lib.indexByte_ge rest 32
    have HLS := Lib.hid (leftS_eq c1)
    rcases (show Lib.indexByte rest 32 = -1 ∨ 0 ≤ Lib.indexByte rest 32 by omega) with hi | hi
    · have hwd := words_none rest (Lib.indexByte_none hi)
      rw [hi] at IX
      have hxs : wordsOf line = pre ++ [rest] := by rw [HW.out, hwd]
      obtain ⟨fn, tmps, assign, body, hy, hR⟩ := HY.out pre rest wa (by rw [hxs]; exact List.prefix_refl _) (by rintro k (rfl | rfl | rfl) <;> first | exact (Array.getElem?_eq_some_iff.1 HS.out).1 | exact (Array.getElem?_eq_some_iff.1 HP.out).1 | exact (Array.getElem?_eq_some_iff.1 HV.out).1) HJJ.out
      have HRR := Lib.hid hR
      have HXS := Lib.hid hxs
      clear hi hge hwd hxs hR
      gi_wp2_with fail
      refine ⟨trivial, fun h => by simp [Fence.wide] at h, (callsIn_wide.2 IX.out).mono ?_⟩
      rintro e1 w1 ⟨rfl, hw1⟩
      obtain rfl := hw1
      gi_wp2
      refine ⟨fun h => by simp [Fence.wide] at h, HRR.out.mono ?_⟩
      rintro e2 w3 ⟨hk3, (⟨rfl, hj3⟩ | ⟨rfl, hjx⟩)⟩
      · have HE : Hid (J (wordsOf line) w3) := Lib.hid (by rw [HXS.out]; exact hj3)
        clear c1 c2 c3 f1 hk3 hy HRR IX hj3
        gi_wp2
        refine bodyPost_end (results_none rfl _ _ _) rfl ?_
        exact ⟨⟨_, rfl⟩, .inl HE.out⟩
      · clear c1 c2 c3 f1 hk3 hy HRR IX
        gi_wp2
        refine bodyPost_end (results_none rfl _ _ _) rfl ?_
        exact ⟨⟨_, rfl⟩, .inr hjx⟩
    · obtain ⟨o, ho⟩ := Int.eq_ofNat_of_zero_le hi
      obtain ⟨h1, h2⟩ := Lib.indexByte_some ho
      have hol : o < rest.length := (List.getElem?_eq_some_iff.1 h1).1
      have hwd := words_some rest o h1 h2
      rw [ho] at IX
      have s1 := cut_to rest o (by omega) (o : Int) rfl
      have s2 := cut_from rest (o + 1) (by omega) ((o : Int) + 1) (by omega)
      have hpre : pre ++ [rest.take o] <+: wordsOf line := by rw [HW.out, hwd]; exact ⟨wordsOf (rest.drop (o + 1)), by simp⟩
      obtain ⟨fn, tmps, assign, body, hy, hR⟩ := HY.out pre (rest.take o) wa hpre (by rintro k (rfl | rfl | rfl) <;> first | exact (Array.getElem?_eq_some_iff.1 HS.out).1 | exact (Array.getElem?_eq_some_iff.1 HP.out).1 | exact (Array.getElem?_eq_some_iff.1 HV.out).1) HJJ.out
      have HRR := Lib.hid hR
      have HW2 : Hid (wordsOf line = (pre ++ [rest.take o]) ++ wordsOf (rest.drop (o + 1))) := Lib.hid (by rw [HW.out, hwd]; simp)
      clear hi ho h1 h2 hge hwd hpre hR
      gi_wp2_with fail
      refine ⟨trivial, fun h => by simp [Fence.wide] at h, (callsIn_wide.2 IX.out).mono ?_⟩
      rintro e1 w1 ⟨rfl, hw1⟩
      obtain rfl := hw1
      gi_wp2
      refine ⟨fun h => by simp [Fence.wide] at h, HRR.out.mono ?_⟩
      rintro e2 w3 ⟨hk3, (⟨rfl, hj3⟩ | ⟨rfl, hjx⟩)⟩
      · have hS3 := (hk3.block gs (Array.getElem?_eq_some_iff.1 HS.out).1 (.inl rfl)).trans HS.out
        have hP3 := (hk3.block gp (Array.getElem?_eq_some_iff.1 HP.out).1 (.inr (.inl rfl))).trans HP.out
        have hV3 := (hk3.block gv (Array.getElem?_eq_some_iff.1 HV.out).1 (.inr (.inr rfl))).trans HV.out
        have d1 := box_cell hS3
        have d2 := box_cell hP3
        have d3 := box_free hS3
        have HJ3 := Lib.hid (HJ.out _ _ _ hj3 ((Turns.refl _ w3).set (g := gs) (.inl rfl) 0 (.string (bs (rest.drop (o + 1))))))
        have HS3 := Lib.hid (box_set hS3 (.string (bs (rest.drop (o + 1)))))
        have HP3 := Lib.hid ((set_oth w3 gs 0 (.string (bs (rest.drop (o + 1)))) gp hsp).trans hP3)
        have HV3 := Lib.hid ((set_oth w3 gs 0 (.string (bs (rest.drop (o + 1)))) gv hsv).trans hV3)
        have hlen : (rest.drop (o + 1)).length < rest.length := by rw [List.length_drop]; omega
        have HLT : Hid (leftS gs (w3.setCell ⟨gs, 0, none⟩ (.string (bs (rest.drop (o + 1))))) < leftS gs w1) := Lib.hid (by rw [leftS_eq (box_cell HS3.out), HLS.out]; exact hlen)
        clear c1 c2 c3 f1 hk3 hj3 hS3 hP3 hV3 hy HRR IX s1
        gi_wp2
        go_roundw
        case rel => exact ⟨pre ++ [rest.take o], rest.drop (o + 1), HW2, by omega, HS3, HP3, HV3, HJ3⟩
        case measure => exact HLT.out
      · clear c1 c2 c3 f1 hk3 hy HRR IX s1
        gi_wp2
        refine bodyPost_ret (results_none rfl _ _ _) rfl ?_
        exact ⟨⟨_, rfl⟩, .inr hjx⟩
end Go.Proofs.YthlgjbmkealjjaaGreatDoor

namespace Go.Proofs.YthlgjbmkealjjaaGreatDoor
open Go.RowKit Go.Shelf
set_option linter.unusedVariables false
attribute [local go_sem] Oper.semAt_some

theorem round_any {m m' l2 : Nat} {P : Program} {l : Nat} {f : FuncId} {tmps : Array Value} {assign body : Code} {w : World} {R : Ending → World → Prop}
    (h : RoundIn Fence.wide m P l f tmps assign body w R) : RoundIn (Fence.wide.inRound l2) m' P l f tmps assign body w R := ⟨h.1, fun c cs _ => h.2 c cs (fun d hd => by cases hd)⟩
theorem heapN_old {W : World} {g : Nat} {p o : Obj} (h : W.heap[g]? = some o) : (W.alloc p).heap[g]? = some o := by
  have hlt := (Array.getElem?_eq_some_iff.1 h).1
  have e : (W.alloc p).heap[g]? = W.heap[g]? := by
    show (W.heap.push p)[g]? = _
    rw [Array.getElem?_push, if_neg (Nat.ne_of_lt hlt)]
  exact e.trans h
set_option maxRecDepth 100000 in
theorem splitSeq_any (s : ByteArray) (w : World) :
    Calls Tryz.prog 32 #[.string s, .string ⟨#[32]⟩] w fun e w' => e = .returned (.func (.func 82) #[] #[.pointer (some ⟨w.heap.size + 1, 0, none⟩), .pointer (some ⟨w.heap.size, 0, none⟩), .pointer (some ⟨w.heap.size + 2, 0, none⟩)]) ∧ w'.heap.size = w.heap.size + 3 ∧ Below w.heap.size w w' ∧ w'.heap[w.heap.size]? = some (.cells #[.string s] 9 (0, 0)) ∧ w'.heap[w.heap.size + 1]? = some (.cells #[.string ⟨#[32]⟩] 9 (0, 0)) ∧ w'.heap[w.heap.size + 2]? = some (.cells #[.int .i64 0] 3 (0, 0)) := by
  have C : Hid (Calls Tryz.prog 53 #[.string s, .string ⟨#[32]⟩, .int .i64 0] w fun e w' => e = .returned (.func (.func 82) #[] #[.pointer (some ⟨w.heap.size + 1, 0, none⟩), .pointer (some ⟨w.heap.size, 0, none⟩), .pointer (some ⟨w.heap.size + 2, 0, none⟩)]) ∧ w' = ((w.alloc (.cells #[.string s] 9)).alloc (.cells #[.string ⟨#[32]⟩] 9)).alloc (.cells #[.int .i64 0] 3)) := Lib.hid (by
    go_enter Tryz.func53, Tryz.ntmps53
    go_wp2
    go_ret
    exact ⟨rfl, rfl⟩)
  go_enter Tryz.func32, Tryz.ntmps32
  go_wp2_with fail
  refine C.out.mono ?_
  rintro e w' ⟨rfl, hw⟩
  have HW := Lib.hid hw
  clear hw
  go_wp2
  go_ret
  refine ⟨rfl, by rw [HW.out]; simp, ?_, ?_, ?_, ?_⟩
  · rw [HW.out]; exact (((Below.refl _ _).alloc (Nat.le_refl _) _).alloc (by simp) _).alloc (by simp; omega) _
  · rw [HW.out]; exact heapN_old (heapN_old (heap_alloc_new _ _))
  · rw [HW.out, ← World.size_alloc w]; exact heapN_old (heap_alloc_new _ _)
  · rw [HW.out, show w.heap.size + 2 = ((w.alloc (.cells #[.string s] 9)).alloc (.cells #[.string ⟨#[32]⟩] 9)).heap.size by simp]; exact heap_alloc_new _ _
def encW (x : List UInt8 × Nat) : Array Value := #[.int .i64 (x.2 : Int), .string (bs x.1)]
theorem zip_snoc (pre : List (List UInt8)) (w : List UInt8) : (pre ++ [w]).zipIdx = pre.zipIdx ++ [(w, pre.length)] := by simp [List.zipIdx_append]
theorem zip_prefix {pre xs : List (List UInt8)} (h : pre <+: xs) : pre.zipIdx <+: xs.zipIdx := by
  obtain ⟨t, rfl⟩ := h
  rw [List.zipIdx_append]
  exact ⟨_, rfl⟩
set_option maxRecDepth 100000 in
set_option maxHeartbeats 4000000 in
theorem words_gives (n : Nat) (gl : Nat) (line : List UInt8) (W : World) (hl0 : W.heap[gl]? = some (.cells #[.string (bs line)] 9 (0, 0))) (hl : line.length ≤ 1000000) :
    Gives n Tryz.prog 31 #[.pointer (some ⟨gl, 0, none⟩)] encW (fun k => W.heap.size ≤ k ∧ k < W.heap.size + 7) W (wordsOf line).zipIdx := by
  intro l J JX hJ hJX hY h0
  have HJ := Lib.hid hJ
  have HJX := Lib.hid hJX
  have HY := Lib.hid hY
  have c0 := box_cell hl0
  have hgl : gl < W.heap.size := (Array.getElem?_eq_some_iff.1 hl0).1
  have HH0 := Lib.hid h0
  clear hJ hJX hY h0
  refine callsIn_of_wp_marks Tryz.func31 rfl trivial ?_
  simp only [Tryz.ntmps31, List.size_toArray, List.length_cons, List.length_nil, Nat.reduceAdd, Nat.reduceSub, Array.replicate_succ, Array.replicate_zero, List.push_toArray, List.append_toArray, List.nil_append, List.cons_append]
  gi_wp2_with fail
  refine ⟨trivial, fun h => by simp [Fence.wide] at h, (callsIn_wide.2 (splitSeq_any _ _)).mono ?_⟩
  rintro e w5 ⟨rfl, hz5, hb5, hs5, hp5, hv5⟩
  have e2 : ((W.alloc (.cells #[.func (.yield l) #[] #[]] 67)).alloc (.cells #[.int .i64 0] 3)).heap.size = W.heap.size + 2 := by simp
  rw [e2] at hz5 hs5 hp5 hv5 hb5 ⊢
  have hy5 : w5.heap[W.heap.size]? = some (.cells #[.func (.yield l) #[] #[]] 67 (0, 0)) := (hb5.block _ (by omega)).trans (heapN_old (heap_alloc_new _ _))
  have hc5 : w5.heap[W.heap.size + 1]? = some (.cells #[.int .i64 0] 3 (0, 0)) := (hb5.block _ (by omega)).trans (by rw [← World.size_alloc W]; exact heap_alloc_new _ _)
  have hb05 : Below W.heap.size W w5 := (((Below.refl _ W).alloc (Nat.le_refl _) _).alloc (by simp) _).trans (hb5.mono (by omega))
  have HJ5 := Lib.hid (HJ.out [] W w5 HH0.out (.of_below hb05))
  have HY5 := Lib.hid hy5
  have HC5 := Lib.hid hc5
  have HB5 := Lib.hid hb05
  clear e2 hb5 c0 HH0 hy5 hc5 hb05
  generalize hN : W.heap.size = N at *
  gi_wp2_with fail
  refine range_gives (gf := 82) (lb := #[.pointer (some ⟨N + 3, 0, none⟩), .pointer (some ⟨N + 2, 0, none⟩), .pointer (some ⟨N + 4, 0, none⟩)]) rfl (enters_of Tryz.func82 (by kernel_rfl) rfl) (encs := fun w : List UInt8 => #[.string (bs w)]) (fun x => rfl) (wordsOf line) (fun k => k = N + 2 ∨ k = N + 3 ∨ k = N + 4) (fun k hk => by omega)
    (fun W1 hb1 hz1 => split_gives _ (N + 2) (N + 3) (N + 4) line W1 ((hb1.block _ (by omega)).trans hs5) ((hb1.block _ (by omega)).trans hp5) ((hb1.block _ (by omega)).trans hv5) (by omega) (by omega) (by omega))
    (fun pre A => J pre.zipIdx A ∧ A.heap[N]? = some (.cells #[.func (.yield l) #[] #[]] 67 (0, 0)) ∧ A.heap[N + 1]? = some (.cells #[.int .i64 (pre.length : Int)] 3 (0, 0)))
    JX ?hI ?hIX ⟨HJ5.out, HY5.out, HC5.out⟩
    (fun w => { tmps := #[.func (.yield l) #[] #[], .pointer (some ⟨gl, 0, none⟩), .pointer (some ⟨N, 0, none⟩), .pointer (some ⟨N + 1, 0, none⟩), .string (bs w), .string (bs line), .func (.func 82) #[] #[.pointer (some ⟨N + 3, 0, none⟩), .pointer (some ⟨N + 2, 0, none⟩), .pointer (some ⟨N + 4, 0, none⟩)], .string (bs w), undef, undef, undef, undef, undef, undef, undef], defers := [] }) ?assign ?body ?done ?stop
  case hI =>
    rintro pre A A' ⟨h1, h2, h3⟩ ht
    rw [hz5] at ht
    exact ⟨HJ.out _ A A' h1 (ht.mono fun k hk => by omega), (ht.block _ (Array.getElem?_eq_some_iff.1 h2).1 (by omega)).trans h2, (ht.block _ (Array.getElem?_eq_some_iff.1 h3).1 (by omega)).trans h3⟩
  case hIX =>
    rintro A A' h1 ht
    rw [hz5] at ht
    exact HJX.out A A' h1 (ht.mono fun k hk => by omega)
  case assign =>
    intro l2 x W2 K hK
    gi_wp2
    exact hK
  case body =>
    rintro l2 pre x A hpre hbd ⟨h1, h2, h3⟩ hzA
    clear hbd
    have hpl : pre.length ≤ 1000001 := by
      have := List.IsPrefix.length_le hpre
      rw [words_len] at this
      have := List.count_le_length (a := (32 : UInt8)) (l := line)
      simp at *
      omega
    have hzp := zip_prefix hpre
    rw [zip_snoc] at hzp
    obtain ⟨fn, tmps, assign, body, hy, hR⟩ := HY.out pre.zipIdx (x, pre.length) A hzp (fun k hk => by omega) h1
    unfold encW at hy
    dsimp only at hy
    have HRR := Lib.hid hR
    have c1 := box_cell h2
    have c2 := box_cell h3
    have H2 := Lib.hid h2
    have H3 := Lib.hid h3
    clear h1 h2 h3 hR hzp
    gi_wp2
    refine ⟨fun h => by simp [Fence.wide] at h, (round_any HRR.out).mono ?_⟩
    rintro e2 w3 ⟨hk3, (⟨rfl, hj3⟩ | ⟨rfl, hjx⟩)⟩
    · have g2 := (hk3.block N (Array.getElem?_eq_some_iff.1 H2.out).1 (by omega)).trans H2.out
      have g3 := (hk3.block (N + 1) (Array.getElem?_eq_some_iff.1 H3.out).1 (by omega)).trans H3.out
      have d2 := box_cell g3
      have d3 := box_free g3
      have HK := Lib.hid hk3
      have HG2 := Lib.hid g2
      have HG3 := Lib.hid g3
      have HJ3 := Lib.hid hj3
      clear c1 c2 hk3 hj3 g2 g3 hy HRR
      gi_wp2
      refine ⟨⟨by have := HK.out.size; simpa [World.setCell] using this, fun k hk ho => (set_oth w3 (N + 1) 0 _ k (by omega)).trans (HK.out.block k hk (by omega))⟩, ?_, (set_oth w3 (N + 1) 0 _ N (by omega)).trans HG2.out, box_set HG3.out _⟩
      rw [zip_snoc]
      exact HJ.out _ _ _ HJ3.out ((Turns.refl _ w3).set (g := N + 1) ⟨by omega, by omega⟩ 0 _)
    · have HK : Hid (Keeps (fun k => (k = N + 2 ∨ k = N + 3 ∨ k = N + 4) ∨ k = N + 2 + 3 ∨ k = N + 2 + 3 + 1) A w3) := Lib.hid (hk3.mono fun k hk => by omega)
      clear c1 c2 hk3 hy HRR
      gi_wp2
      exact ⟨by first | exact HK.out | (rw [hz5]; exact HK.out), hjx⟩
  case done =>
    rintro A ⟨h1, _, _⟩ hD
    gi_wp2
    refine ⟨by simp, .inl ⟨_, _, rfl, run_takeDeferred hD, ?_⟩⟩
    exact ⟨_, results_none rfl _ _ _, ⟨_, rfl⟩, .inl (HJ.out _ _ _ h1 ((Turns.refl _ A).putObj ⟨by omega, by omega⟩ _))⟩
  case stop =>
    intro A h1 hD
    refine ⟨by simp, .inl ⟨_, _, rfl, run_takeDeferred hD, ?_⟩⟩
    exact ⟨_, results_none rfl _ _ _, ⟨_, rfl⟩, .inr (HJX.out _ _ h1 ((Turns.refl _ A).putObj ⟨by omega, by omega⟩ _))⟩
end Go.Proofs.YthlgjbmkealjjaaGreatDoor
