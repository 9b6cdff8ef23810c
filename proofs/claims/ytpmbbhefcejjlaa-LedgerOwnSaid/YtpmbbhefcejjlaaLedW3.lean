/-
  The walk of Lines.
-/
import Derived.Test.YtpmbbhefcejjlaaLedW2
import Derived.Great.BuildSlice
namespace Go.Proofs.Ytpmbbhefcejjlaa
open Go.RowKit
set_option linter.unusedVariables false

/-- The two states, as an array's cells. -/
def twoCells (s t : St) : Array Value := stCells s ++ stCells t
theorem index_two (s t : St) (W : World) : (Instr.index 64 (.agg (twoCells s t)) (.int .i64 0)).run Try.prog W = .ok s.val W ∧ (Instr.index 64 (.agg (twoCells s t)) (.int .i64 1)).run Try.prog W = .ok t.val W := by
  have hz : (sizeOf 23).run Try.prog W = .ok 12 W := by kernel_rfl
  have hg : (isAgg 23).run Try.prog W = .ok true W := by kernel_rfl
  have e1 : (twoCells s t).extract 0 12 = stCells s := by simp [twoCells, stCells]
  have e2 : (twoCells s t).extract 12 24 = stCells t := by simp [twoCells, stCells]
  have h1 : (part 23 (twoCells s t) 0).run Try.prog W = .ok s.val W := by simp [part, hz, hg, e1]; rfl
  have h2 : (part 23 (twoCells s t) 12).run Try.prog W = .ok t.val W := by simp [part, hz, hg, e2]; rfl
  refine ⟨?_, ?_⟩ <;> simp [Instr.index, asIntOf, run_underlying Try.underlying64, hz, h1, h2]
theorem index_seven (xs : List Int) (h : xs.length = 7) (j : Nat) (hj : j < 7) (W : World) : (Instr.index 66 (.agg (xs.map fun x => Value.int .i64 x).toArray) (.int .i64 (j : Int))).run Try.prog W = .ok (.int .i64 (xs.getD j 0)) W := by
  match xs, h with
  | [x0, x1, x2, x3, x4, x5, x6], _ =>
    rcases (show j = 0 ∨ j = 1 ∨ j = 2 ∨ j = 3 ∨ j = 4 ∨ j = 5 ∨ j = 6 by omega) with rfl | rfl | rfl | rfl | rfl | rfl | rfl <;> rfl
theorem built_two (s t : St) : Try.prog.built 64 [(0, .agg #[.int .i64 s.day, .int .i64 s.rate, .int .i64 s.p, .int .i64 s.i, .int .i64 s.f, .int .i64 s.c, .int .i64 s.o, .int .i64 s.n, .int .i64 s.a, .int .i64 s.ch, .int .i64 s.late, .int .i64 s.bk]), (1, .agg #[.int .i64 t.day, .int .i64 t.rate, .int .i64 t.p, .int .i64 t.i, .int .i64 t.f, .int .i64 t.c, .int .i64 t.o, .int .i64 t.n, .int .i64 t.a, .int .i64 t.ch, .int .i64 t.late, .int .i64 t.bk])] = some #[.int .i64 s.day, .int .i64 s.rate, .int .i64 s.p, .int .i64 s.i, .int .i64 s.f, .int .i64 s.c, .int .i64 s.o, .int .i64 s.n, .int .i64 s.a, .int .i64 s.ch, .int .i64 s.late, .int .i64 s.bk, .int .i64 t.day, .int .i64 t.rate, .int .i64 t.p, .int .i64 t.i, .int .i64 t.f, .int .i64 t.c, .int .i64 t.o, .int .i64 t.n, .int .i64 t.a, .int .i64 t.ch, .int .i64 t.late, .int .i64 t.bk] := by
  have h1 : ((Try.prog.info? 64).bind (·.zero)).map (·.cells.size) = some 24 := by kernel_rfl
  have h2 := Try.underlying64
  have h3 : (Try.prog.info? 23).map (·.size) = some 12 := by kernel_rfl
  cases hi : Try.prog.info? 64 with
  | none => rw [hi] at h1; simp at h1
  | some it =>
    rw [hi] at h1
    cases hz : it.zero with
    | none => simp [hz] at h1
    | some z =>
      simp only [Option.bind_some, hz, Option.map_some, Option.some.injEq] at h1
      cases hj : Try.prog.info? 23 with
      | none => rw [hj] at h3; simp at h3
      | some ie =>
        rw [hj] at h3
        simp only [Option.map_some, Option.some.injEq] at h3
        have hw := Great.fill_whole (s := 12) (by omega) [.agg #[.int .i64 s.day, .int .i64 s.rate, .int .i64 s.p, .int .i64 s.i, .int .i64 s.f, .int .i64 s.c, .int .i64 s.o, .int .i64 s.n, .int .i64 s.a, .int .i64 s.ch, .int .i64 s.late, .int .i64 s.bk], .agg #[.int .i64 t.day, .int .i64 t.rate, .int .i64 t.p, .int .i64 t.i, .int .i64 t.f, .int .i64 t.c, .int .i64 t.o, .int .i64 t.n, .int .i64 t.a, .int .i64 t.ch, .int .i64 t.late, .int .i64 t.bk]] z.cells (by intro v hv; simp only [List.mem_cons, List.not_mem_nil, or_false] at hv; rcases hv with rfl | rfl <;> rfl) (by rw [h1]; rfl)
        simp only [Program.built, hi, h2, hz, hj, h3]
        exact hw
end Go.Proofs.Ytpmbbhefcejjlaa
