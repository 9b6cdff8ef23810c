/-
  Laws for a region that draws its order, over a frame that is a letter: puts, calls, allocations. No statement is proved here.
-/
import Derived.Test.YtmpbpgcmiboflaaLib
import Derived.Deep.RegionHeld3
import Derived.Laws.Rows
namespace Go.Proofs.Ytmpbpgcmiboflaa
open Go.RowKit
set_option linter.unusedVariables false

section
variable {a : Act} {d t : Nat} {v u : Value}
theorem put_none (a : Act) (v : Value) : a.put none v = a := rfl
theorem put_size (a : Act) (d : Nat) (v : Value) : (a.put (some d) v).tmps.size = a.tmps.size := by simp [Act.put]
theorem ev_same (h : d < a.tmps.size) : (a.put (some d) v).eval (.tmp d) = v := by
  simp [Act.put, Act.eval, Array.getD_eq_getD_getElem?, h]
theorem ev_other (h : d ≠ t) : (a.put (some d) v).eval (.tmp t) = a.eval (.tmp t) := by
  simp [Act.put, Act.eval, Array.getD_eq_getD_getElem?, h]
theorem put_comm (h : d ≠ t) : (a.put (some d) v).put (some t) u = (a.put (some t) u).put (some d) v := by
  simp only [Act.put]
  congr 1
  exact Array.setIfInBounds_comm v u h
end

section
variable {P : Program} {ops : Array Oper} {o : Oper} {a : Act} {w : World} {K : Act → World → Prop} {Q : Exit → Act → World → Prop} {E : Prop}
theorem step_call (hgd : o.guard = none) (f : FuncId) (xs : Array Operand) (ts : Array TypeId) (ho : o.op = .call { callee := .value (.func f), args := xs, argTypes := ts }) (vs : Array Value) (hx : xs.map a.eval = vs)
    (ent : ∀ args w, (callFunc f args).run P w = .ok (.enter f args) w) (r : Value) (hc : Calls P f vs w fun e w' => e = .returned r ∧ Below w.heap.size w w') (h : ∀ w', Below w.heap.size w w' → K (a.put o.dst r) w') :
    if Region.wanted o (yielded ops a.tmps) = true then Oper.wp P o a w K Q else E := by
  rw [if_pos (by simp [Region.wanted, hgd])]
  unfold Oper.wp execOp
  simp only [ho, resolve, Deferred.ofValue, Act.eval, invoke, Sem.run_bind, Sem.run_pure, Result.andThen_ok, Array.append_empty]
  rw [show (Array.map a.eval xs) = vs from hx]
  rw [ent, Oper.upon_enter, Array.empty_append]
  refine hc.mono ?_
  rintro e w' ⟨rfl, hb⟩
  exact h w' hb
theorem step_callX (hgd : o.guard = none) (f : FuncId) (xs : Array Operand) (ts : Array TypeId) (ho : o.op = .call { callee := .value (.func f), args := xs, argTypes := ts }) (vs : Array Value) (hx : xs.map a.eval = vs)
    (ent : ∀ args w, (callFunc f args).run P w = .ok (.enter f args) w) (R : Ending → World → Prop) (hc : Calls P f vs w R) (h : ∀ e w', R e w' → ∃ r, e = .returned r ∧ K (a.put o.dst r) w') :
    if Region.wanted o (yielded ops a.tmps) = true then Oper.wp P o a w K Q else E := by
  rw [if_pos (by simp [Region.wanted, hgd])]
  unfold Oper.wp execOp
  simp only [ho, resolve, Deferred.ofValue, Act.eval, invoke, Sem.run_bind, Sem.run_pure, Result.andThen_ok, Array.append_empty]
  rw [show (Array.map a.eval xs) = vs from hx]
  rw [ent, Oper.upon_enter, Array.empty_append]
  refine hc.mono ?_
  intro e w' hR
  obtain ⟨r, rfl, hk⟩ := h e w' hR
  exact hk
theorem step_alloc (hgd : o.guard = none) (T : TypeId) (ho : o.op = .alloc T) (cs : Array Value) (hz : (zeroValue T).run P w = .ok (.agg cs) w) (h : K (a.put o.dst (.pointer (some ⟨w.heap.size, 0, none⟩))) (w.alloc (.cells cs T))) :
    if Region.wanted o (yielded ops a.tmps) = true then Oper.wp P o a w K Q else E := by
  rw [if_pos (by simp [Region.wanted, hgd])]
  unfold Oper.wp execOp
  simp only [ho]
  go_simp
  exact h
theorem step_lit1 (hgd : o.guard = none) (T E2 : TypeId) (x : Operand) (ho : o.op = .buildSlice T 1 #[(0, x)]) (v : Value) (hx : a.eval x = v) (cs : Array Value)
    (hr : (Instr.buildSlice T 1 #[(0, v)]).run P w = .ok (.slice (some ⟨w.heap.size, 0, none⟩) 1 1) (w.alloc (.cells cs E2))) (h : K (a.put o.dst (.slice (some ⟨w.heap.size, 0, none⟩) 1 1)) (w.alloc (.cells cs E2))) :
    if Region.wanted o (yielded ops a.tmps) = true then Oper.wp P o a w K Q else E := by
  rw [if_pos (by simp [Region.wanted, hgd])]
  unfold Oper.wp execOp
  simp only [ho, List.map_toArray, List.map_cons, List.map_nil, hx, Sem.run_bind, hr, Result.andThen_ok]
  exact h
theorem yields_move {S : World → Prop} (hgd : o.guard = none) (x : Operand) (ho : o.op = .move x) (v : Value) (hx : a.eval x = v) : YieldsIf P ops S o v a :=
  .inl ⟨by simp [Region.wanted, hgd], fun w _ => by unfold execOp; simp only [ho, hx]; rfl⟩
theorem yields_extract {S : World → Prop} (hgd : o.guard = none) (x : Operand) (i : Nat) (ho : o.op = .extract x i) (vs : Array Value) (v : Value) (hx : a.eval x = .tuple vs) (hv : vs[i]? = some v) : YieldsIf P ops S o v a :=
  .inl ⟨by simp [Region.wanted, hgd], fun w _ => by unfold execOp; simp only [ho, hx]; simp [go_sem, hv]⟩
end
end Go.Proofs.Ytmpbpgcmiboflaa
