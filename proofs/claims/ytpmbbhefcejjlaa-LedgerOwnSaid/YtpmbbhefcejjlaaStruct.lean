/-
  Whole structs and arrays: made, laid, read, of any length. No statement is proved here.
-/
import Derived.Great.BuildSlice
import Derived.Deep.WholeRow
import Derived.Deep.Cut
import Derived.Deep.DeepCutAuto
import Derived.Test.YtpmbbhefcejjlaaLib
namespace Go.Proofs.Ytpmbbhefcejjlaa
open Go.RowKit
set_option linter.unusedVariables false
section
variable {P : Program}

/-- An operation that yields a value by a run that is known. -/
theorem run_to {ops : Array Oper} {rest : List Oper} {o : Oper} {a : Act} {w : World} {Q : Exit → Act → World → Prop} (hg : o.guard = none) (dst : Option Tmp) (hdst : o.dst = dst)
    (v : Value) (w' : World) (hrun : (execOp a.eval o).run P w = .ok (.value v) w')
    (h : wpList P ops Q rest (a.put dst v) w') : wpList P ops Q (o :: rest) a w := by
  subst hdst
  refine wpList_plain hg fun K hK => ?_
  unfold Oper.wp
  rw [hrun, Oper.upon_value]
  exact hK _ _ h
/-- A variable is made, and a whole value laid into it. -/
theorem alloc_store {ops : Array Oper} {rest : List Oper} {o1 o2 : Oper} {a : Act} {w : World} {Q : Exit → Act → World → Prop} (hg1 : o1.guard = none) (hg2 : o2.guard = none)
    (t : TypeId) (d : Tmp) (y : Operand) (ho1 : o1.op = .alloc t) (hd1 : o1.dst = some d) (ho2 : o2.op = .store t (.tmp d) y) (hd2 : o2.dst = none) (cells : Array Value)
    (hx : (a.put (some d) (.pointer (some ⟨w.heap.size, 0, none⟩))).eval (.tmp d) = .pointer (some ⟨w.heap.size, 0, none⟩)) (hy : (a.put (some d) (.pointer (some ⟨w.heap.size, 0, none⟩))).eval y = .agg cells)
    (hz : ((P.info? t).bind (·.zero)).map (·.cells.size) = some cells.size) (hi : (P.info? t).map (·.size) = some cells.size) (h1 : cells.all (·.oneCell') = true)
    (h : wpList P ops Q rest (a.put (some d) (.pointer (some ⟨w.heap.size, 0, none⟩))) (w.alloc (.cells cells t))) : wpList P ops Q (o1 :: o2 :: rest) a w := by
  cases hq : P.info? t with
  | none => rw [hq] at hz; simp at hz
  | some it =>
    rw [hq] at hz
    cases hzz : it.zero with
    | none => simp [hzz] at hz
    | some z =>
      simp only [Option.bind_some, hzz, Option.map_some, Option.some.injEq] at hz
      refine run_to hg1 (some d) hd1 (.pointer (some ⟨w.heap.size, 0, none⟩)) (w.alloc (.cells z.cells t)) ?_ ?_
      · simp [execOp, ho1, Instr.alloc, zeroValue, typeInfo, hq, hzz, newVar, newRow]
      · refine wpList_store_rowTo hg2 t (.tmp d) y ho2 hd2 w.heap.size cells hx hy t z.cells (heap_alloc_last _ _) (by rw [hq] at hi ⊢; exact hi) hz h1 ?_
        rw [World.setRow_alloc_new]
        exact h
/-- A part of a whole value by its index. -/
theorem index_to {ops : Array Oper} {rest : List Oper} {o : Oper} {a : Act} {w : World} {Q : Exit → Act → World → Prop} (hg : o.guard = none) (dst : Option Tmp) (hdst : o.dst = dst)
    (ty : TypeId) (x i : Operand) (ho : o.op = .index ty x i) (X I v : Value) (hx : a.eval x = X) (hi : a.eval i = I) (hrun : (Instr.index ty X I).run P w = .ok v w)
    (h : wpList P ops Q rest (a.put dst v) w) : wpList P ops Q (o :: rest) a w :=
  run_to hg dst hdst v w (by simp [execOp, ho, hx, hi, hrun]) h
end
end Go.Proofs.Ytpmbbhefcejjlaa
