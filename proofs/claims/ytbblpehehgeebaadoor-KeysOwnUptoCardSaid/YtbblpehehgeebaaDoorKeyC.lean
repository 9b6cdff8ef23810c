/-
  keys.Decode's deferred closure. No statement is proved here.
-/
import Derived.Recover
import Derived.Defers
import Derived.Laws.Pointers
import Derived.Test.YtbblpehehgeebaaDoorKeyE
namespace Go.Proofs.YtbblpehehgeebaaDoor
open Go.RowKit
set_option linter.unusedVariables false

set_option maxHeartbeats 1000000 in
theorem catch_panicking (p q : Nat) (x : Value) (y c : Int) (older : List PanicEntry) (w : World) (hp : w.heap[p]? = some (.cells #[x] 22 (0, 0))) (hq : w.heap[q]? = some (.cells #[.int .i64 y] 25 (0, 0))) (hpq : p ≠ q) :
    CallsD Tryd.prog 25 #[.pointer (some ⟨p, 0, none⟩), .pointer (some ⟨q, 0, none⟩)] (.panicking ({ v := .iface 25 (.int .i64 c), recovered := false } :: older)) w fun e u' w' =>
      e = .returned (.tuple #[]) ∧ u' = .panicking ({ v := .iface 25 (.int .i64 c), recovered := true } :: older) ∧ w' = (w.setCell ⟨p, 0, none⟩ (.slice none 0 0)).setCell ⟨q, 0, none⟩ (.int .i64 c) := by
  have c0 : w.cell? ⟨p, 0, none⟩ = some x := by rw [cell_of_row _ _ _ _ _ _ hp]; rfl
  have f0 : w.frozen? ⟨p, 0, none⟩ = false := by simp [World.frozen?, hp]
  have c1 : w.cell? ⟨q, 0, none⟩ = some (.int .i64 y) := by rw [cell_of_row _ _ _ _ _ _ hq]; rfl
  have f1 : w.frozen? ⟨q, 0, none⟩ = false := by simp [World.frozen?, hq]
  have e1 : (w.setCell ⟨p, 0, none⟩ (.slice none 0 0)).cell? ⟨q, 0, none⟩ = some (.int .i64 y) := by rw [cell_of_row _ _ _ _ _ _ ((heap_setCell_other _ _ _ _ (Ne.symm hpq)).trans hq)]; rfl
  refine callsD_of_wpS Tryd.func25 rfl fun c₀ cs hu => ?_
  apply wpS_seq
  apply wpS_region
  simp [wpOpsS, go_sem, recoverD, hu, Tryd.ntmps25, Exit.thenS]
  simp only [Array.replicate_succ, Array.replicate_zero, List.push_toArray, List.append_toArray, List.nil_append, List.cons_append, List.setIfInBounds_toArray, List.set_cons_zero, List.set_cons_succ]
  have hta : ∀ W, (Instr.typeAssert (.iface 25 (.int .i64 c)) 20 25 true).run Tryd.prog W = .ok (.tuple #[.int .i64 c, .bool true]) W := fun W => by kernel_rfl
  apply wpS_of_wp
  go_wp2
  simp [bodyPostS, results, Tryd.f25]
theorem catch_idle (p q : Nat) (w : World) :
    CallsD Tryd.prog 25 #[.pointer (some ⟨p, 0, none⟩), .pointer (some ⟨q, 0, none⟩)] .returning w fun e u' w' => e = .returned (.tuple #[]) ∧ u' = .returning ∧ w' = w := by
  refine callsD_of_wpS Tryd.func25 rfl fun c₀ cs hu => ?_
  apply wpS_seq
  apply wpS_region
  simp [wpOpsS, go_sem, recoverD, hu, Tryd.ntmps25, Exit.thenS]
  simp only [Array.replicate_succ, Array.replicate_zero, List.push_toArray, List.append_toArray, List.nil_append, List.cons_append, List.setIfInBounds_toArray, List.set_cons_zero, List.set_cons_succ]
  apply wpS_of_wp
  go_wp2
  cases c₀
  simp_all [bodyPostS, results, Tryd.f25]
theorem infoPart : (Tryd.prog.info? 40).map (fun i => (i.zero, i.size, i.bytes)) = some (some (.agg #[.bool false, .int .i64 0, .string ⟨#[]⟩]), 3, 32) := by kernel_rfl
def flatP (ps : List PartV) : List Value := ps.flatMap fun p => [.bool p.isText, .int .i64 p.num, .string ⟨p.text.toArray⟩]
theorem flatP_len (ps : List PartV) : (flatP ps).length = ps.length * 3 := by
  induction ps with
  | nil => rfl
  | cons p ps ih => unfold flatP at *; rw [List.flatMap_cons, List.length_append, ih]; simp; omega
theorem flatP_snoc (ps : List PartV) (p : PartV) : flatP (ps ++ [p]) = flatP ps ++ [.bool p.isText, .int .i64 p.num, .string ⟨p.text.toArray⟩] := by simp [flatP]
/-- Parts of the call's own. -/
def OwnPt (w : World) (base : Nat) (v : Value) (ps : List PartV) : Prop := w.ownsRow base 40 3 v ps.length (flatP ps)
theorem step_part {ops : Array Oper} {o : Oper} {a : Act} {w : World} {K : Act → World → Prop} {Q : Exit → Act → World → Prop} {E : Prop} (hgd : o.guard = none) (s x : Operand)
    (ho : o.op = .call { callee := .builtin .append, args := #[s, x], argTypes := #[22, 22] })
    (base : Nat) (v : Value) (ps : List PartV) (p : PartV) (hs : a.eval s = v) (hown : OwnPt w base v ps)
    (A : Option Addr) (hx : a.eval x = .slice A 1 1) (hr : Rd w 3 A 1 [.bool p.isText, .int .i64 p.num, .string ⟨p.text.toArray⟩])
    (hlen : ps.length ≤ 2000000) (hbase : base ≤ w.heap.size)
    (h : ∀ v' w', OwnPt w' base v' (ps ++ [p]) → Below base w w' → w.grownBy w' v.ownBlock → K (a.put o.dst v') w') :
    if Region.wanted o (yielded ops a.tmps) = true then Oper.wp Tryd.prog o a w K Q else E := by
  have hw : Region.wanted o (yielded ops a.tmps) = true := by simp [Region.wanted, hgd]
  rw [if_pos hw]
  obtain ⟨i0, hi, hz0, hz1, hz2⟩ := info_parts infoPart
  refine wp_append_rd w s x 22 ho base 40 i0 (.agg #[.bool false, .int .i64 0, .string ⟨#[]⟩]) 3 32 Tryd.underlying22 hi hz0 hz1 hz2 rfl (by decide) v ps.length (flatP ps) hs hown A 1 1 _ hx hr (by
    intro u hu
    simp only [List.mem_cons, List.not_mem_nil, or_false] at hu
    rcases hu with rfl | rfl | rfl <;> rfl) (by unfold maxLen; omega) (by omega) hbase fun v' w' hown' hg _ => ?_
  refine h v' w' ?_ ((Below.refl base w).grown hg hbase fun k hk => (hown.lt k hk).1) hg
  unfold OwnPt
  rw [flatP_snoc, List.length_append]
  exact hown'
end Go.Proofs.YtbblpehehgeebaaDoor
