/-
  A loop over a function whose variable lies in memory of its own, made anew each round. No statement is proved here.
-/
import Derived.Test.YthaciglechijkaaRange
namespace Go.Proofs.Ythaciglechijkaa
open Go.RowKit
set_option linter.unusedVariables false

theorem range_runs_box {α : Type} {P : Program} {n : Nat} {g : Operand} {ps : Array Tmp} {assign body : Code} {Q : Exit → Act → World → Prop} {a : Act} {w : World}
    {gf : Nat} {lb : Array Value} (hg : a.eval g = .func (.func gf) #[] lb) (eg : ∀ args w, (callFunc gf args).run P w = .ok (.enter gf args) w)
    {encs : α → Array Value} (hps : ∀ x, (encs x).size = ps.size) (J : List α → World → Prop) (N : List α → α → World → Prop) (Fin : World → Prop)
    (hit : Iterates (n - 1) P gf lb encs w.heap.size J N Fin)
    (hJ : ∀ pre, Stays w.heap.size (J pre)) (hN : ∀ pre x, Stays w.heap.size (N pre x)) (hF : Stays w.heap.size Fin)
    (N' : List α → α → Nat → World → Prop) (hN' : ∀ pre x g, Stays w.heap.size (N' pre x g)) (h0 : ∀ o o' : Obj, J [] ((w.alloc o).alloc o')) (a₁ : Nat → α → Act)
    (hassign : ∀ (l : Nat) (pre : List α) (x : α) (W : World) (K : Act → World → Prop), N pre x W → (∀ W', Below W.heap.size W W' → N' pre x W.heap.size W' → K (a₁ W.heap.size x) W') →
      assign.wpIn (Fence.wide.inRound l) (n - 1 - 1) P (Exit.then K (fun _ _ _ => False)) { tmps := (ps.zip (encs x)).foldl (fun t (p, v) => t.setIfInBounds p v) a.tmps, defers := [] } W)
    (hbody : ∀ (l : Nat) (pre : List α) (x : α) (g : Nat) (W : World), N' pre x g W → body.wpIn (Fence.wide.inRound l) (n - 1 - 1) P (fun e _ W' => e = .normal ∧ KeepsFrom w.heap.size W W' ∧ J (pre ++ [x]) W') (a₁ g x) W)
    (hdone : ∀ (W : World), Fin W → W.heap[w.heap.size]? = some (.deferred (some [])) → Q .normal { a with defers := { target := .collected w.heap.size, args := #[] } :: a.defers } W) :
    (Code.rangeFunc g ps assign body).wpIn Fence.wide n P Q a w := by
  refine wpIn_rangeFunc ?_
  intro fn hfn
  obtain ⟨rec, hrec⟩ : ∃ rec : LoopState → Option Code → Loop, rec = fun st pe => { state := st, pending := pe, fn, tmps := a.tmps, params := ps, assign, body, defers := w.heap.size } := ⟨_, rfl⟩
  obtain ⟨W1, hW1⟩ : ∃ W1, W1 = (w.alloc (.deferred (some []))).alloc (.loop (rec .ready none)) := ⟨_, rfl⟩
  have hL1 : W1.heap[w.heap.size + 1]? = some (.loop (rec .ready none)) := by
    have := World.alloc_heap_new (w.alloc (.deferred (some []))) (.loop (rec .ready none))
    rw [World.size_alloc] at this
    rw [hW1]; exact this
  have hK1 : W1.heap[w.heap.size]? = some (.deferred (some [])) := by
    rw [hW1]; exact (Below.heap_alloc _ _ _ (by simp)).trans (World.alloc_heap_new w _)
  have hJ1 : J [] W1 := by rw [hW1]; exact h0 _ _
  refine ⟨w.heap.size + 1, [{ target := .collected w.heap.size, args := #[] }], W1, { target := .fn (.func gf) lb, args := #[.func (.yield (w.heap.size + 1)) #[] #[]] }, W1, gf,
    #[.func (.yield (w.heap.size + 1)) #[] #[]] ++ lb, W1, ?_, ?_, ?_, ?_, ?_, ?_⟩
  · rw [hW1, hrec]; exact run_enterLoop_outer _ _ _ _ _
  · simp only [resolve, hg]
    simp [go_sem]
  · intro f' _; trivial
  · simp [invoke, go_sem, eg]
  · intro h; simp [Fence.wide] at h
  · have hBK : ∀ A A' : World, (A.heap[w.heap.size + 1]? = some (.loop (rec .ready none)) ∧ A.heap[w.heap.size]? = some (.deferred (some []))) → KeepsFrom w.heap.size A A' → (A'.heap[w.heap.size + 1]? = some (.loop (rec .ready none)) ∧ A'.heap[w.heap.size]? = some (.deferred (some []))) :=
      fun A A' h hk => ⟨hk.same _ _ (by omega) h.1 rfl, hk.same _ _ (Nat.le_refl _) h.2 rfl⟩
    refine (hit (w.heap.size + 1) (fun A => A.heap[w.heap.size + 1]? = some (.loop (rec .ready none)) ∧ A.heap[w.heap.size]? = some (.deferred (some []))) W1 hBK ?_ hJ1 ⟨hL1, hK1⟩).mono ?_
    · rintro pre x A hn ⟨hl, hk⟩
      have hlt : w.heap.size + 1 < A.heap.size := (Array.getElem?_eq_some_iff.1 hl).1
      have hy := run_yield (P := P) (args := encs x) hl (by rw [hrec]; exact hps x)
      rw [hrec] at hy
      refine ⟨fn, _, assign, body, hy, roundIn_of_wpIn hfn (hassign _ pre x A _ hn ?_)⟩
      intro A' hba hn'
      have hl := (hba.block _ hlt).trans hl
      have hk := (hba.block _ (Array.getElem?_eq_some_iff.1 hk).1).trans hk
      have hlt : w.heap.size + 1 < A'.heap.size := (Array.getElem?_eq_some_iff.1 hl).1
      obtain ⟨gA, hgA⟩ : ∃ gA, gA = A.heap.size := ⟨_, rfl⟩
      rw [← hgA] at hn' ⊢
      clear hgA hba hn hy
      obtain ⟨A, rfl⟩ : ∃ A, A = A' := ⟨_, rfl⟩
      refine ⟨_, run_beginRound hl (by rw [hrec]), ?_⟩
      have hl2 : (A.putObj (w.heap.size + 1) (.loop { rec .ready none with state := .busy })).heap[w.heap.size + 1]? = some (.loop { rec .ready none with state := .busy }) := World.putObj_heap_same hlt
      have hk2 : (A.putObj (w.heap.size + 1) (.loop { rec .ready none with state := .busy })).heap[w.heap.size]? = some (.deferred (some [])) := (World.putObj_heap_other (by omega)).trans hk
      refine wpIn_mono (hbody _ pre x gA _ (hN' pre x gA A _ _ _ (by omega) hl rfl hn')) ?_
      rintro e a3 A3 ⟨rfl, hk3, hj3⟩
      have hl3 := hk3.same _ _ (by omega) hl2 rfl
      have hk4 := hk3.same _ _ (Nat.le_refl _) hk2 rfl
      have hr := run_endRound (P := P) none hl3
      refine ⟨_, _, hr, rfl, hJ _ A3 _ _ _ (by omega) hl3 rfl hj3, ?_, (World.putObj_heap_other (by omega)).trans hk4⟩
      rw [World.putObj_heap_same (Array.getElem?_eq_some_iff.1 hl3).1, hrec]
      rfl
    · rintro e W2 ⟨⟨v, rfl⟩, hf, hl, hk⟩
      have hr := run_endLoop (P := P) hl (by rw [hrec]; simp)
      rw [hrec] at hr
      exact ⟨none, _, hr, hdone _ (hF W2 _ _ _ (by omega) hl rfl hf) ((World.putObj_heap_other (by omega)).trans hk)⟩
end Go.Proofs.Ythaciglechijkaa
