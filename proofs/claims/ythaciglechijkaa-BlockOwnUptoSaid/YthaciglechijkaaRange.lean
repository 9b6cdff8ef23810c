/-
  A loop over a function whose iterator may write memory of its caller's: one invariant, fixed by the caller, holds between the rounds; the body never leaves the loop. No statement is proved here.
-/
import Derived.RangeFuncNested
import Derived.RangeFuncBound
import Derived.RangeFuncCalls
import Derived.RangeFuncLeaves
import Derived.Test.YthaciglechijkaaLib
namespace Go.Proofs.Ythaciglechijkaa
open Go.RowKit
set_option linter.unusedVariables false

/-- What abides a turn of a block, at B or beyond, that holds no cells. -/
def Stays (B : Nat) (J : World → Prop) : Prop := ∀ (W : World) (k : Nat) (o o' : Obj), B ≤ k → W.heap[k]? = some o → o.isCells = false → J W → J (W.putObj k o')
/-- What is owed of the iterator: from J [] on it calls yield where N holds, each round leads to J again; it ends in Fin. BK is the loop's own book. -/
def Iterates {α : Type} (n : Nat) (P : Program) (g : Nat) (lb : Array Value) (encs : α → Array Value) (B : Nat) (J : List α → World → Prop) (N : List α → α → World → Prop) (Fin : World → Prop) : Prop :=
  ∀ (l : Nat) (BK : World → Prop) (W : World), (∀ A A' : World, BK A → KeepsFrom B A A' → BK A') →
    (∀ pre x A, N pre x A → BK A → YieldAt Fence.wide (n - 1) P l (encs x) A fun e A' => e = .returned (.bool true) ∧ J (pre ++ [x]) A' ∧ BK A') →
    J [] W → BK W → CallsIn Fence.wide n P g (#[.func (.yield l) #[] #[]] ++ lb) W fun e W' => (∃ v, e = .returned v) ∧ Fin W' ∧ BK W'
theorem range_runs {α : Type} {P : Program} {n : Nat} {g : Operand} {ps : Array Tmp} {assign body : Code} {Q : Exit → Act → World → Prop} {a : Act} {w : World}
    {gf : Nat} {lb : Array Value} (hg : a.eval g = .func (.func gf) #[] lb) (eg : ∀ args w, (callFunc gf args).run P w = .ok (.enter gf args) w)
    {encs : α → Array Value} (hps : ∀ x, (encs x).size = ps.size) (J : List α → World → Prop) (N : List α → α → World → Prop) (Fin : World → Prop)
    (hit : Iterates (n - 1) P gf lb encs w.heap.size J N Fin)
    (hJ : ∀ pre, Stays w.heap.size (J pre)) (hN : ∀ pre x, Stays w.heap.size (N pre x)) (hF : Stays w.heap.size Fin)
    (h0 : ∀ o o' : Obj, J [] ((w.alloc o).alloc o')) (a₁ : α → Act)
    (hassign : ∀ (l : Nat) (x : α) (W : World) (K : Act → World → Prop), K (a₁ x) W →
      assign.wpIn (Fence.wide.inRound l) (n - 1 - 1) P (Exit.then K (fun _ _ _ => False)) { tmps := (ps.zip (encs x)).foldl (fun t (p, v) => t.setIfInBounds p v) a.tmps, defers := [] } W)
    (hbody : ∀ (l : Nat) (pre : List α) (x : α) (W : World), N pre x W → body.wpIn (Fence.wide.inRound l) (n - 1 - 1) P (fun e _ W' => e = .normal ∧ KeepsFrom w.heap.size W W' ∧ J (pre ++ [x]) W') (a₁ x) W)
    (hdone : ∀ (W : World), Fin W → W.heap[w.heap.size]? = some (.deferred (some [])) → Q .normal { a with defers := { target := .collected w.heap.size, args := #[] } :: a.defers } W) :
    (Code.rangeFunc g ps assign body).wpIn Fence.wide n P Q a w := by
  refine wpIn_rangeFunc ?_
  intro fn hfn
  obtain ⟨rec, hrec⟩ : ∃ rec : LoopState → Option Code → Loop, rec = fun st pe => { state := st, pending := pe, fn, tmps := a.tmps, params := ps, assign, body, defers := w.heap.size } := ⟨_, rfl⟩
  obtain ⟨W1, hW1⟩ : ∃ W1, W1 = (w.alloc (.deferred (some []))).alloc (.loop (rec .ready none)) := ⟨_, rfl⟩
  have hL1 : W1.heap[w.heap.size + 1]? = some (.loop (rec .ready none)) := by
    have := World.alloc_heap_new (w.alloc (.deferred (some []))) (.loop (rec .ready none))
    rw [World.size_alloc] at this
    rw [hW1]; exact this
  have hK1 : W1.heap[w.heap.size]? = some (.deferred (some [])) := by
    rw [hW1]; exact (Below.heap_alloc _ _ _ (by simp)).trans (World.alloc_heap_new w _)
  have hJ1 : J [] W1 := by rw [hW1]; exact h0 _ _
  refine ⟨w.heap.size + 1, [{ target := .collected w.heap.size, args := #[] }], W1, { target := .fn (.func gf) lb, args := #[.func (.yield (w.heap.size + 1)) #[] #[]] }, W1, gf,
    #[.func (.yield (w.heap.size + 1)) #[] #[]] ++ lb, W1, ?_, ?_, ?_, ?_, ?_, ?_⟩
  · rw [hW1, hrec]; exact run_enterLoop_outer _ _ _ _ _
  · simp only [resolve, hg]
    simp [go_sem]
  · intro f' _; trivial
  · simp [invoke, go_sem, eg]
  · intro h; simp [Fence.wide] at h
  · have hBK : ∀ A A' : World, (A.heap[w.heap.size + 1]? = some (.loop (rec .ready none)) ∧ A.heap[w.heap.size]? = some (.deferred (some []))) → KeepsFrom w.heap.size A A' → (A'.heap[w.heap.size + 1]? = some (.loop (rec .ready none)) ∧ A'.heap[w.heap.size]? = some (.deferred (some []))) :=
      fun A A' h hk => ⟨hk.same _ _ (by omega) h.1 rfl, hk.same _ _ (Nat.le_refl _) h.2 rfl⟩
    refine (hit (w.heap.size + 1) (fun A => A.heap[w.heap.size + 1]? = some (.loop (rec .ready none)) ∧ A.heap[w.heap.size]? = some (.deferred (some []))) W1 hBK ?_ hJ1 ⟨hL1, hK1⟩).mono ?_
    · rintro pre x A hn ⟨hl, hk⟩
      have hlt : w.heap.size + 1 < A.heap.size := (Array.getElem?_eq_some_iff.1 hl).1
      have hy := run_yield (P := P) (args := encs x) hl (by rw [hrec]; exact hps x)
      rw [hrec] at hy
      refine ⟨fn, _, assign, body, hy, roundIn_of_wpIn hfn (hassign _ x A _ ?_)⟩
      refine ⟨_, run_beginRound hl (by rw [hrec]), ?_⟩
      have hl2 : (A.putObj (w.heap.size + 1) (.loop { rec .ready none with state := .busy })).heap[w.heap.size + 1]? = some (.loop { rec .ready none with state := .busy }) := World.putObj_heap_same hlt
      have hk2 : (A.putObj (w.heap.size + 1) (.loop { rec .ready none with state := .busy })).heap[w.heap.size]? = some (.deferred (some [])) := (World.putObj_heap_other (by omega)).trans hk
      refine wpIn_mono (hbody _ pre x _ (hN pre x A _ _ _ (by omega) hl rfl hn)) ?_
      rintro e a3 A3 ⟨rfl, hk3, hj3⟩
      have hl3 := hk3.same _ _ (by omega) hl2 rfl
      have hk4 := hk3.same _ _ (Nat.le_refl _) hk2 rfl
      have hr := run_endRound (P := P) none hl3
      refine ⟨_, _, hr, rfl, hJ _ A3 _ _ _ (by omega) hl3 rfl hj3, ?_, (World.putObj_heap_other (by omega)).trans hk4⟩
      rw [World.putObj_heap_same (Array.getElem?_eq_some_iff.1 hl3).1, hrec]
      rfl
    · rintro e W2 ⟨⟨v, rfl⟩, hf, hl, hk⟩
      have hr := run_endLoop (P := P) hl (by rw [hrec]; simp)
      rw [hrec] at hr
      exact ⟨none, _, hr, hdone _ (hF W2 _ _ _ (by omega) hl rfl hf) ((World.putObj_heap_other (by omega)).trans hk)⟩
end Go.Proofs.Ythaciglechijkaa
