/-
  The words of Lib at this translation's numbers: slices of bytes. No statement is proved here.
-/
import Derived.Test.YthlgjbmkealjjaaGreatDoorProg
import Derived.Test.YthlgjbmkealjjaaGreatDoorLib
namespace Go.Proofs.YthlgjbmkealjjaaGreatDoor
open Go.RowKit
set_option linter.unusedVariables false

theorem infoU8 : (Tryz.prog.info? 5).map (fun i => (i.zero, i.size, i.bytes)) = some (some (.int .u8 0), 1, 1) := by kernel_rfl

/-- What a call of its own hands back: the bytes 'xs', in memory from block 'base' on. -/
def OwnB (w : World) (base : Nat) (v : Value) (xs : List UInt8) : Prop := w.ownsRow base 5 1 v xs.length (xs.map bv)

section
variable {w w' : World} {base : Nat} {v : Value} {xs ys : List UInt8}
theorem OwnB.form (h : OwnB w base v xs) : ∃ A m c, v = .slice A m c ∧ Hid (xs.length = m) ∧ m ≤ c ∧ c ≤ maxLen ∧ RdB w A m xs ∧ (∀ a, A = some a → ∃ g, a = ⟨g, 0, none⟩ ∧ base ≤ g ∧ g < w.heap.size) := by
  have h0 := h
  rcases h.2 with ⟨rfl, hn⟩ | ⟨g, cap, cur, rfl, hg, hh, hc, hm, _⟩
  · have hx : xs = [] := List.eq_nil_of_length_eq_zero hn
    subst hx
    exact ⟨none, 0, 0, rfl, rfl, Nat.le_refl _, by simp [maxLen], RdB.nil _ _, fun a e => by cases e⟩
  · exact ⟨_, _, cap, rfl, rfl, hc, hm, Rd.of_own h0, fun a e => ⟨g, by injection e with e; exact e.symm, hg, (Array.getElem?_eq_some_iff.1 hh).1⟩⟩
theorem OwnB.lit (w : World) (cs : List UInt8) (hb : base ≤ w.heap.size) (hm : cs.length ≤ maxLen) :
    OwnB (w.alloc (.cells (cs.map bv).toArray 5)) base (.slice (some ⟨w.heap.size, 0, none⟩) cs.length cs.length) cs := by
  have := World.ownsRow_lit (base := base) (e := 5) (size := 1) w (cs.map bv).toArray cs.length hb hm (by simp)
  simpa [OwnB] using this
theorem OwnB.nil (w : World) (base : Nat) : OwnB w base (.slice none 0 0) [] := World.ownsRow_nil w base _ 1
theorem OwnB.empty (w : World) (hb : base ≤ w.heap.size) : OwnB (w.alloc (.cells #[] 5)) base (.slice (some ⟨w.heap.size, 0, none⟩) 0 0) [] := OwnB.lit w [] hb (by simp [maxLen])
theorem OwnB.alloc (h : OwnB w base v xs) (o : Obj) : OwnB (w.alloc o) base v xs := World.ownsRow.alloc h o
theorem OwnB.below (h : OwnB w base v xs) (hb : Below w.heap.size w w') : OwnB w' base v xs := by
  refine ⟨h.1, ?_⟩
  rcases h.2 with h2 | ⟨g, cap, cur, hv, hg, hh, r⟩
  · exact .inl h2
  · exact .inr ⟨g, cap, cur, hv, hg, by rw [hb.block g (Array.getElem?_eq_some_iff.1 hh).1]; exact hh, r⟩
theorem OwnB.mono {base' : Nat} (h : OwnB w base v xs) (hb : base' ≤ base) : OwnB w base' v xs := by
  refine ⟨h.1, ?_⟩
  rcases h.2 with h2 | ⟨g, cap, cur, hv, hg, r⟩
  · exact .inl h2
  · exact .inr ⟨g, cap, cur, hv, Nat.le_trans hb hg, r⟩
end

theorem grownBy_of_alloc {w w1 : World} {o : Obj} {row : Option Nat} (hg : (w.alloc o).grownBy w1 row) : w.grownBy w1 row := (World.grownBy_alloc w o row).trans hg
/-- A literal of bytes, just made. -/
theorem RdB.lit (w : World) (cs : Array Value) (ys : List UInt8) (h : cs = (ys.map bv).toArray) (n : Nat) (hn : ys.length = n) : RdB (w.alloc (.cells cs 5)) (some ⟨w.heap.size, 0, none⟩) n ys := by
  subst h
  refine RdB.mk hn fun j hj => ?_
  rw [cell_of_row _ _ _ _ _ _ (heap_alloc_new w _)]
  simp [bv, hj]

theorem RdB.sub {w : World} {b off n : Nat} {xs : List UInt8} (h : RdB w (some ⟨b, off, none⟩) n xs) (i m : Nat) (him : i + m ≤ n) : RdB w (some ⟨b, off + i, none⟩) m ((xs.drop i).take m) := by
  have hl := h.len
  refine RdB.mk (by rw [List.length_take, List.length_drop]; omega) fun j hj => ?_
  rw [List.length_take, List.length_drop] at hj
  have := h.cells (i + j) (by omega)
  rw [Nat.add_assoc, this]
  simp

theorem RdB.litf (w : World) (cs : Array Value) (fr : Nat × Nat) (ys : List UInt8) (h : cs = (ys.map bv).toArray) (n : Nat) (hn : ys.length = n) : RdB (w.alloc (.cells cs 5 fr)) (some ⟨w.heap.size, 0, none⟩) n ys := by
  subst h
  refine RdB.mk hn fun j hj => ?_
  rw [cell_of_row _ _ _ _ _ _ (heap_alloc_new w _)]
  simp [bv, hj]
/-- A byte of the call's own is written. -/
theorem OwnB.set {w : World} {base g m c : Nat} {xs : List UInt8} (h : OwnB w base (.slice (some ⟨g, 0, none⟩) m c) xs) (hm : xs.length = m) (j : Nat) (x : UInt8) :
    OwnB (w.setCell ⟨g, j, none⟩ (.int .u8 (x.toNat : Int))) base (.slice (some ⟨g, 0, none⟩) m c) (xs.set j x) := by
  subst hm
  have := (World.ownsRow.stored h j (.int .u8 (x.toNat : Int))).1
  unfold OwnB
  rw [List.length_set, List.map_set]
  exact this
/-- make([]byte, 0, n). -/
theorem make_u8 {ops : Array Oper} {rest : List Oper} {o : Oper} {a : Act} {Q : Exit → Act → World → Prop} {w : World} (hg : o.guard = none) (l c : Operand) (hop : o.op = Op.makeSlice 86 l c)
    (base : Nat) (kl kc : IntKind) (C : Int) (n : Nat) (hl : a.eval l = .int kl 0) (hc : a.eval c = .int kc C) (hC : C = (n : Int)) (b2 : n ≤ 140737488355328) (b4 : base ≤ w.heap.size)
    (h : ∀ v w', OwnB w' base v [] → Below base w w' → wpList Tryz.prog ops Q rest (a.put o.dst v) w') : wpList Tryz.prog ops Q (o :: rest) a w := by
  obtain ⟨i0, hi, hz0, hz1, hz2⟩ := info_parts infoU8
  refine wpList_make_own w hg l c 86 hop base 5 i0 (.int .u8 0) 1 Tryz.underlying86 hi hz0 hz1 kl kc C n hl hc hC (by rw [hz2]; omega) (by unfold maxLen; omega) b4 fun w' hown hg => ?_
  exact h _ w' hown ((Below.refl base w).grown hg b4 (fun k hk => by cases hk))

/-- append, onto bytes of the call's own. -/
theorem app_u8 {ops : Array Oper} {rest : List Oper} {o : Oper} {a : Act} {Q : Exit → Act → World → Prop} {w : World} (hgd : o.guard = none) (s x : Operand)
    (ho : o.op = .call { callee := .builtin .append, args := #[s, x], argTypes := #[86, 86] })
    (base : Nat) (v : Value) (xs : List UInt8) (hs : a.eval s = v) (hown : OwnB w base v xs)
    (A : Option Addr) (m c : Nat) (ys : List UInt8) (hx : a.eval x = .slice A m c) (hr : RdB w A m ys)
    (hlen : xs.length + m ≤ 140737488355328) (hbase : base ≤ w.heap.size)
    (h : ∀ v' w', OwnB w' base v' (xs ++ ys) → Below base w w' → w.grownBy w' v.ownBlock → wpList Tryz.prog ops Q rest (a.put o.dst v') w') : wpList Tryz.prog ops Q (o :: rest) a w := by
  obtain ⟨i0, hi, hz0, hz1, hz2⟩ := info_parts infoU8
  have hl := hr.len
  refine wpList_append_rd w hgd s x 86 ho base 5 i0 (.int .u8 0) 1 1 Tryz.underlying86 hi hz0 hz1 hz2 rfl (by decide) v xs.length (xs.map bv) hs hown A m c (ys.map bv) hx hr (bv_one ys) (by unfold maxLen; omega) (by omega) hbase fun v' w' hown' hg _ => ?_
  refine h v' w' ?_ ((Below.refl base w).grown hg hbase fun k hk => (hown.lt k hk).1) hg
  unfold OwnB
  rw [List.length_append, List.map_append, hl]
  exact hown'

/-- The same at a step of a region that draws its order. -/
theorem step_app_u8 {ops : Array Oper} {o : Oper} {a : Act} {K : Act → World → Prop} {Q : Exit → Act → World → Prop} {E : Prop} {w : World} (hgd : o.guard = none) (s x : Operand)
    (ho : o.op = .call { callee := .builtin .append, args := #[s, x], argTypes := #[86, 86] })
    (base : Nat) (v : Value) (xs : List UInt8) (hs : a.eval s = v) (hown : OwnB w base v xs)
    (A : Option Addr) (m c : Nat) (ys : List UInt8) (hx : a.eval x = .slice A m c) (hr : RdB w A m ys)
    (hlen : xs.length + m ≤ 140737488355328) (hbase : base ≤ w.heap.size)
    (h : ∀ v' w', OwnB w' base v' (xs ++ ys) → Below base w w' → w.grownBy w' v.ownBlock → K (a.put o.dst v') w') :
    if Region.wanted o (yielded ops a.tmps) = true then Oper.wp Tryz.prog o a w K Q else E := by
  have hw : Region.wanted o (yielded ops a.tmps) = true := by simp [Region.wanted, hgd]
  rw [if_pos hw]
  obtain ⟨i0, hi, hz0, hz1, hz2⟩ := info_parts infoU8
  have hl := hr.len
  refine wp_append_rd w s x 86 ho base 5 i0 (.int .u8 0) 1 1 Tryz.underlying86 hi hz0 hz1 hz2 rfl (by decide) v xs.length (xs.map bv) hs hown A m c (ys.map bv) hx hr (bv_one ys) (by unfold maxLen; omega) (by omega) hbase fun v' w' hown' hg _ => ?_
  refine h v' w' ?_ ((Below.refl base w).grown hg hbase fun k hk => (hown.lt k hk).1) hg
  unfold OwnB
  rw [List.length_append, List.map_append, hl]
  exact hown'
theorem OwnB.drewN {w : World} {base : Nat} {v : Value} {xs : List UInt8} (h : OwnB w base v xs) (k : Nat) : OwnB (w.drewN k) base v xs := h
theorem RdB.drewN {w : World} {A : Option Addr} {n : Nat} {xs : List UInt8} (h : RdB w A n xs) (k : Nat) : RdB (w.drewN k) A n xs := h
theorem below_drewN {B : Nat} {a w : World} (h : Below B a w) (n : Nat) : Below B a (w.drewN n) := ⟨h.os, h.tape, h.output, h.size, h.block⟩

/-! ### Cuts: the run of the operation in whatever world, and what the cut reads as -/
theorem elemSize (W : World) : (sizeOf (Tryz.prog.elem 86)).run Tryz.prog W = .ok 1 W := by kernel_rfl
theorem elemUnd : Tryz.prog.underlying 86 = some (.slice (Tryz.prog.elem 86)) := by kernel_rfl
theorem cut_lh {w : World} {A : Option Addr} {n : Nat} {xs : List UInt8} (h : RdB w A n xs) (c : Nat) (hc : n ≤ c) (i j : Nat) (hij : i ≤ j) (hj : j ≤ n) (I J : Int) (hI : I = (i : Int)) (hJ : J = (j : Int)) :
    ∃ A', (∀ W, (Instr.slice 86 (.slice A n c) (some (.int .i64 I)) (some (.int .i64 J)) none).run Tryz.prog W = .ok (.slice A' (j - i) (c - i)) W) ∧ RdB w A' (j - i) ((xs.drop i).take (j - i)) := by
  refine ⟨_, fun W => ?_, h.cut hij hj hc⟩
  subst hI hJ
  rw [run_slice_lh W 86 A n c elemUnd .i64 .i64 _ _ (by omega) (by omega) (by omega), elemSize]
  simp [Result.andThen, sliced]
theorem cut_l {w : World} {A : Option Addr} {n : Nat} {xs : List UInt8} (h : RdB w A n xs) (c : Nat) (hc : n ≤ c) (i : Nat) (hi : i ≤ n) (I : Int) (hI : I = (i : Int)) :
    ∃ A', (∀ W, (Instr.slice 86 (.slice A n c) (some (.int .i64 I)) none none).run Tryz.prog W = .ok (.slice A' (n - i) (c - i)) W) ∧ RdB w A' (n - i) (xs.drop i) := by
  have hl := h.len
  have hr := h.cut hi (Nat.le_refl n) hc
  rw [List.take_of_length_le (by rw [List.length_drop]; omega)] at hr
  refine ⟨_, fun W => ?_, hr⟩
  subst hI
  rw [run_slice_l W 86 A n c elemUnd .i64 _ (by omega) (by omega), elemSize]
  simp [Result.andThen, sliced]
theorem cut_h {w : World} {A : Option Addr} {n : Nat} {xs : List UInt8} (h : RdB w A n xs) (c : Nat) (hc : n ≤ c) (j : Nat) (hj : j ≤ n) (J : Int) (hJ : J = (j : Int)) :
    ∃ A', (∀ W, (Instr.slice 86 (.slice A n c) none (some (.int .i64 J)) none).run Tryz.prog W = .ok (.slice A' j c) W) ∧ RdB w A' j (xs.take j) := by
  have hr := h.cut (Nat.zero_le j) hj hc
  simp only [List.drop_zero, Nat.sub_zero] at hr
  refine ⟨_, fun W => ?_, hr⟩
  subst hJ
  rw [run_slice_h W 86 A n c elemUnd .i64 _ (by omega) (by omega), elemSize]
  simp [Result.andThen, sliced]
theorem heap_alloc_drewN (w : World) (o : Obj) (k : Nat) : ((w.alloc o).drewN k).heap[w.heap.size]? = some o := heap_alloc_new w o
theorem below_alloc {a w : World} (h : Below a.heap.size a w) (o : Obj) : Below a.heap.size a (w.alloc o) := h.alloc h.size o
end Go.Proofs.YthlgjbmkealjjaaGreatDoor
