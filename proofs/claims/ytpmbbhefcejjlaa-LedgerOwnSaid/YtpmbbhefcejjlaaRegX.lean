/-
  Single operations for laws over drawn regions (region_opsN), own rows: for seats without an engine. No statement is proved here (not built by itself yet).
-/
import Derived.Test.YtpmbbhefcejjlaaReg
import Derived.Deep.MidRow
namespace Go.Proofs.Ytpmbbhefcejjlaa
open Go.RowKit
set_option linter.unusedVariables false
section
variable {P : Program}
theorem exec_append {ev : Operand → Value} {o : Oper} {v v2 : World} (s x : Operand) (t : TypeId) (ho : o.op = .call { callee := .builtin .append, args := #[s, x], argTypes := #[t, t] }) (vs vx u : Value) (hs : ev s = vs) (hx : ev x = vx)
    (hr : (Builtin.append_ #[t, t] o.type #[vs, vx]).run P v = .ok u v2) : (execOp ev o).run P v = .ok (.value u) v2 := by
  unfold execOp
  simp only [ho, resolve, invoke, builtin, Sem.run_bind, Sem.run_pure, Result.andThen_ok, List.map_toArray, List.map_cons, List.map_nil, hs, hx, hr]
theorem exec_lit1 {ev : Operand → Value} {o : Oper} {v v2 : World} (T : TypeId) (x : Operand) (ho : o.op = .buildSlice T 1 #[(0, x)]) (vx u : Value) (hx : ev x = vx) (hr : (Instr.buildSlice T 1 #[(0, vx)]).run P v = .ok u v2) : (execOp ev o).run P v = .ok (.value u) v2 := by
  unfold execOp
  simp only [ho, List.map_toArray, List.map_cons, List.map_nil, hx, Sem.run_bind, hr, Result.andThen_ok]
  rfl
theorem exec_build2 {ev : Operand → Value} {o : Oper} {v : World} (T : TypeId) (x y : Operand) (ho : o.op = .build T #[(0, x), (1, y)]) (vx vy : Value) (hx : ev x = vx) (hy : ev y = vy) (cs : Array Value) (hb : P.built T [(0, vx), (1, vy)] = some cs) : (execOp ev o).run P v = .ok (.value (.agg cs)) v := by
  unfold execOp
  simp only [ho, List.map_toArray, List.map_cons, List.map_nil, hx, hy, Sem.run_bind, run_build v T _ cs hb, Result.andThen_ok]
  rfl
theorem exec_lit0 {ev : Operand → Value} {o : Oper} {v v2 : World} (T : TypeId) (ho : o.op = .buildSlice T 0 #[]) (u : Value) (hr : (Instr.buildSlice T 0 #[]).run P v = .ok u v2) : (execOp ev o).run P v = .ok (.value u) v2 := by
  unfold execOp
  simp only [ho, List.map_toArray, List.map_nil, Sem.run_bind, hr, Result.andThen_ok]
  rfl
theorem exec_mid {ev : Operand → Value} {o : Oper} {w : World} (ty : TypeId) (x : Operand) (ho : o.op = .load ty x)
    (g off : Nat) (hx : ev x = .pointer (some ⟨g, off, none⟩)) (cs : Array Value) (d : TypeDesc) (hc : ∀ j u, cs.toList[j]? = some u → w.cell? ⟨g, off + j, none⟩ = some u)
    (hu : P.underlying ty = some d) (hd : (match d with | .struct _ | .array _ _ => true | _ => false) = true) (hi : (P.info? ty).map (·.size) = some cs.size) : (execOp ev o).run P w = .ok (.value (.agg cs)) w := by
  have hl : (loadCells ⟨g, off, none⟩ cs.toList.length).run P w = .ok cs.toList.toArray w :=
    run_loadCells_list (P := P) w ⟨g, off, none⟩ cs.toList (fun j v hv => by
      have hadd : (⟨g, off, none⟩ : Addr).add j = ⟨g, off + j, none⟩ := by unfold Addr.add; split <;> simp_all
      rw [hadd]
      exact hc j v hv)
  cases hq : P.info? ty with
  | none => simp [hq] at hi
  | some i =>
    have hs : i.size = cs.size := by simpa [hq] using hi
    have hagg : (isAgg ty).run P w = .ok true w := by
      unfold isAgg
      rw [Sem.run_bind, run_underlying hu w]
      cases d <;> simp_all
    simp only [Array.length_toList, Array.toArray_toList] at hl
    simp [execOp, ho, hx, Instr.loadAt, Instr.sureAddr, loadVar, Sem.run_bind, hagg, sizeOf, typeInfo, hq, hs, hl]
end
theorem ownE_block {w : World} {base e sz n : Nat} {v : Value} {xs : List Value} (h : w.ownsRow base e sz v n xs) {g : Nat} (hg : v.ownBlock = some g) : g < w.heap.size ∧ ∃ cs, w.heap[g]? = some (.cells cs e (0, 0)) := by
  rcases h.2 with ⟨rfl, _⟩ | ⟨g', cap, cur, rfl, hb, hc, _⟩
  · cases hg
  · injection hg with hg
    subst hg
    exact ⟨(Array.getElem?_eq_some_iff.1 hc).1, cur, hc⟩
theorem ownE_keep {w w' : World} {base e sz n : Nat} {v : Value} {xs : List Value} (h : w.ownsRow base e sz v n xs) (hk : ∀ g, v.ownBlock = some g → w'.heap[g]? = w.heap[g]?) : w'.ownsRow base e sz v n xs := by
  refine ⟨h.1, ?_⟩
  rcases h.2 with hn | ⟨g', cap, cur, rfl, hb, hc, hr⟩
  · exact .inl hn
  · exact .inr ⟨g', cap, cur, rfl, hb, (hk g' rfl).trans hc, hr⟩
theorem own_below' {w w' : World} {b sz n : Nat} {t : TypeId} {v : Value} {xs : List Value} (h : w.ownsRow b t sz v n xs) (hb : Below w.heap.size w w') : w'.ownsRow b t sz v n xs := ownE_keep h fun g hg => hb.block _ (ownE_block h hg).1
def LitW (t : TypeId) (cs : Array Value) (k base : Nat) (u : Value) (v : World) : Prop := ∃ g, u = .slice (some ⟨g, 0, none⟩) k k ∧ base ≤ g ∧ v.heap[g]? = some (.cells cs t (0, 0))
theorem LitW.below {t : TypeId} {cs : Array Value} {k base : Nat} {u : Value} {v v' : World} (h : LitW t cs k base u v) (hb : Below v.heap.size v v') : LitW t cs k base u v' := by
  obtain ⟨g, h1, h2, h3⟩ := h
  exact ⟨g, h1, h2, (hb.block _ (Array.getElem?_eq_some_iff.1 h3).1).trans h3⟩
theorem below_grown {B base sz n : Nat} {t : TypeId} {v : Value} {xs : List Value} {a b c : World} (h : Below B a b) (ho : b.ownsRow base t sz v n xs) (hB : B ≤ base) (hg : b.grownBy c v.ownBlock) (hs : B ≤ b.heap.size) : Below B a c :=
  ⟨hg.os.trans h.os, hg.tape.trans h.tape, hg.output.trans h.output, Nat.le_trans h.size hg.size, fun k hk => (hg.block k (by omega) (fun e => by
    rcases ho.2 with ⟨rfl, _⟩ | ⟨g', cap, cur, rfl, hb', _⟩
    · cases e
    · injection e with e
      have e2 : k = g' := e
      have h2 : base ≤ g' := hb'
      omega)).trans (h.block k hk)⟩
end Go.Proofs.Ytpmbbhefcejjlaa
