/-
  The walk of the reference's Over. No statement is proved here.
-/
import Derived.Test.YtjniclalobggpaaDoorAmN6
namespace Go.Proofs.YtjniclalobggpaaDoor
open Go.RowKit
set_option linter.unusedVariables false

theorem results_cells {P : Program} {fn : Func} {p u : Tmp} {ty ty' : TypeId} (h : fn.results = #[.cell p ty, .cell u ty']) (tmps : Array Value) (w : World) (g g' : Nat) (t t' : TypeId) (cs cs' : Array Value) (fr fr' : Nat × Nat) (d d' : TypeDesc)
    (hp : tmps.getD p undef = .pointer (some ⟨g, 0, none⟩)) (hg : w.heap[g]? = some (.cells cs t fr))
    (hu : P.underlying ty = some d) (hd : (match d with | .struct _ | .array _ _ => true | _ => false) = true) (hi : (P.info? ty).map (·.size) = some cs.size)
    (hp2 : tmps.getD u undef = .pointer (some ⟨g', 0, none⟩)) (hg2 : w.heap[g']? = some (.cells cs' t' fr'))
    (hu2 : P.underlying ty' = some d') (hd2 : (match d' with | .struct _ | .array _ _ => true | _ => false) = true) (hi2 : (P.info? ty').map (·.size) = some cs'.size) :
    (results fn tmps).run P w = .ok (.tuple #[.agg cs, .agg cs']) w := by
  have hp' : tmps[p]?.getD undef = .pointer (some ⟨g, 0, none⟩) := by simpa using hp
  have hp2' : tmps[u]?.getD undef = .pointer (some ⟨g', 0, none⟩) := by simpa using hp2
  simp [results, h, hp', hp2', asAddr, run_loadVar_row w g t ty cs fr d hg hu hd hi, run_loadVar_row w g' t' ty' cs' fr' d' hg2 hu2 hd2 hi2]
structure OvSt (w wr : World) (a b q r : Nat) : Prop where
  h0 : wr.heap[w.heap.size]? = some (.cells (row20 (dg a)) 59 (0, 0))
  h1 : wr.heap[w.heap.size + 1]? = some (.cells (row20 (dg b)) 59 (0, 0))
  h2 : wr.heap[w.heap.size + 2]? = some (.cells z20 59 (0, 0))
  h3 : wr.heap[w.heap.size + 3]? = some (.cells z20 59 (0, 0))
  h4 : wr.heap[w.heap.size + 4]? = some (.cells (row20 (dg q)) 59 (0, 0))
  h5 : wr.heap[w.heap.size + 5]? = some (.cells (row20 (dg r)) 59 (0, 0))
  bel : Below w.heap.size w wr
theorem heap_lt {w : World} {g : Nat} {o : Obj} (h : w.heap[g]? = some o) : g < w.heap.size := by
  rcases Nat.lt_or_ge g w.heap.size with h2 | h2
  · exact h2
  · rw [Array.getElem?_eq_none h2] at h; cases h
theorem OvSt.below {w wr w2 : World} {a b q r : Nat} (S : OvSt w wr a b q r) (hb : Below wr.heap.size wr w2) : OvSt w w2 a b q r := by
  have h := heap_lt S.h5
  exact ⟨(hb.block _ (by omega)).trans S.h0, (hb.block _ (by omega)).trans S.h1, (hb.block _ (by omega)).trans S.h2, (hb.block _ (by omega)).trans S.h3, (hb.block _ (by omega)).trans S.h4, (hb.block _ (by omega)).trans S.h5, S.bel.trans (hb.mono (by omega))⟩
theorem OvSt.set5 {w wr : World} {a b q r : Nat} (S : OvSt w wr a b q r) (r' : Nat) : OvSt w (wr.setRow (w.heap.size + 5) (row20 (dg r'))) a b q r' :=
  ⟨(setRow_other _ _ _ _ (by omega)).trans S.h0, (setRow_other _ _ _ _ (by omega)).trans S.h1, (setRow_other _ _ _ _ (by omega)).trans S.h2, (setRow_other _ _ _ _ (by omega)).trans S.h3, (setRow_other _ _ _ _ (by omega)).trans S.h4, setRow_heap _ _ _ _ _ _ S.h5, S.bel.setRow (by omega) _⟩
theorem OvSt.cell5 {w wr : World} {a b q r : Nat} (S : OvSt w wr a b q (2 * r)) (t : Nat) (ht : t < 2) : OvSt w (wr.setCell ⟨w.heap.size + 5, 0, none⟩ (.int .u64 (dg (2 * r + t) 0 : Nat))) a b q (2 * r + t) := by
  obtain ⟨d0, dj⟩ := dg0_even r t ht
  refine ⟨(heap_setCell_other _ _ _ _ (by simp)).trans S.h0, (heap_setCell_other _ _ _ _ (by (simp) <;> omega)).trans S.h1, (heap_setCell_other _ _ _ _ (by (simp) <;> omega)).trans S.h2, (heap_setCell_other _ _ _ _ (by (simp) <;> omega)).trans S.h3, (heap_setCell_other _ _ _ _ (by (simp) <;> omega)).trans S.h4, ?_, S.bel.setCell (by (simp) <;> omega) _⟩
  rw [heap_setCell_same _ _ _ _ _ _ S.h5, row20_set _ 0 _ (by omega)]
  congr 2
  apply row20_ext
  intro i hi
  by_cases e : i = 0
  · subst e; rw [if_pos rfl]
  · rw [if_neg e, dj i e]
theorem OvSt.cell4 {w wr : World} {a b q r : Nat} (S : OvSt w wr a b q r) (m i : Nat) (hi : i < 320) (hq : q = m * 2 ^ (i + 1)) : OvSt w (wr.setCell ⟨w.heap.size + 4, i / 16, none⟩ (.int .u64 (dg (m * 2 ^ (i + 1)) (i / 16) + 2 ^ (i % 16) : Nat))) a b (m * 2 ^ (i + 1) + 2 ^ i) r := by
  subst hq
  obtain ⟨dj, d0⟩ := q_bit m i
  refine ⟨(heap_setCell_other _ _ _ _ (by simp)).trans S.h0, (heap_setCell_other _ _ _ _ (by (simp) <;> omega)).trans S.h1, (heap_setCell_other _ _ _ _ (by (simp) <;> omega)).trans S.h2, (heap_setCell_other _ _ _ _ (by (simp) <;> omega)).trans S.h3, ?_, (heap_setCell_other _ _ _ _ (by (simp) <;> omega)).trans S.h5, S.bel.setCell (by (simp) <;> omega) _⟩
  rw [heap_setCell_same _ _ _ _ _ _ S.h4, row20_set _ (i / 16) _ (by omega)]
  congr 2
  apply row20_ext
  intro j hj
  by_cases e : j = i / 16
  · subst e; rw [if_pos rfl, d0]
  · rw [if_neg e, dj j e]
set_option exponentiation.threshold 400 in
theorem over_start (w : World) (a b : Nat) (ha : a / 2 ^ 320 = 0) : OvSt w ((((((w.alloc (.cells (row20 (dg a)) 59)).alloc (.cells (row20 (dg b)) 59)).alloc (.cells z20 59)).alloc (.cells z20 59)).alloc (.cells z20 59)).alloc (.cells z20 59)) a b (a / 2 ^ 320 / b * 2 ^ 320) (a / 2 ^ 320 % b) := by
  rw [ha, Nat.zero_div, Nat.zero_mul, Nat.zero_mod]
  obtain ⟨q0, q1, q2, q3⟩ := alloc4 w (.cells (row20 (dg a)) 59) (.cells (row20 (dg b)) 59) (.cells z20 59) (.cells z20 59)
  have hb4 := below4 w (.cells (row20 (dg a)) 59) (.cells (row20 (dg b)) 59) (.cells z20 59) (.cells z20 59)
  have hs : ((((w.alloc (.cells (row20 (dg a)) 59)).alloc (.cells (row20 (dg b)) 59)).alloc (.cells z20 59)).alloc (.cells z20 59)).heap.size = w.heap.size + 4 := by simp
  generalize (((w.alloc (.cells (row20 (dg a)) 59)).alloc (.cells (row20 (dg b)) 59)).alloc (.cells z20 59)).alloc (.cells z20 59) = v at *
  have hB := ((Below.refl v.heap.size v).alloc (Nat.le_refl _) (.cells z20 59)).alloc (by simp) (.cells z20 59)
  have ez : row20 (dg 0) = z20 := row20_ext _ _ fun i _ => by simp [dg]
  refine ⟨(hB.block _ (by omega)).trans q0, (hB.block _ (by omega)).trans q1, (hB.block _ (by omega)).trans q2, (hB.block _ (by omega)).trans q3, ?_, ?_, hb4.trans (hB.mono (by omega))⟩
  · rw [ez]
    have := heap_alloc2_old v (.cells z20 59) (.cells z20 59)
    rw [hs] at this
    exact this
  · rw [ez]
    have := heap_alloc2_new v (.cells z20 59) (.cells z20 59)
    rw [hs] at this
    exact this
end Go.Proofs.YtjniclalobggpaaDoor
