/-
  Rows of the call's own that are written over. No statement is proved here.
-/
import Derived.Test.YtbblpehehgeebaaDoorKeyV2
import Derived.Test.YtbblpehehgeebaaDoorKeyO
import Derived.Test.YtbblpehehgeebaaDoorOnlyA
import Derived.Deep.MidRow
namespace Go.Proofs.YtbblpehehgeebaaDoor
open Go.RowKit
set_option linter.unusedVariables false

/-- Bytes in a row of the call's own. -/
structure RowB (w : World) (base m : Nat) (A : Option Addr) (zs : List UInt8) : Prop where
  rd : RdB w A m zs
  row : ∀ a, A = some a → ∃ g cs, a = ⟨g, 0, none⟩ ∧ base ≤ g ∧ g < w.heap.size ∧ w.heap[g]? = some (.cells cs 5 (0, 0))
theorem RowB.below {w w' : World} {base m : Nat} {A : Option Addr} {zs : List UInt8} (h : RowB w base m A zs) (hb : Below w.heap.size w w') : RowB w' base m A zs :=
  ⟨h.rd.below hb, fun a ha => by
    obtain ⟨g, cs, e, h1, h2, h3⟩ := h.row a ha
    exact ⟨g, cs, e, h1, Nat.lt_of_lt_of_le h2 hb.size, (hb.block g h2).trans h3⟩⟩
theorem OnlyA.rowB {A A' : Option Addr} {base m : Nat} {zs : List UInt8} {w w' : World} (ho : OnlyA A w w') (h : RowB w base m A' zs) (hne : ∀ x y, A' = some x → A = some y → x.block ≠ y.block) : RowB w' base m A' zs :=
  ⟨ho.rd h.rd hne, fun a ha => by
    obtain ⟨g, cs, e, h1, h2, h3⟩ := h.row a ha
    exact ⟨g, cs, e, h1, by rw [ho.size]; exact h2, by rw [ho.block g (fun y hy => by have := hne a y ha hy; rw [e] at this; exact this)]; exact h3⟩⟩
theorem RowB.bump {w : World} {base m : Nat} {A : Option Addr} {zs : List UInt8} (h : RowB w base m A zs) (k : Nat) (hk : k < m) :
    ∃ g, A = some ⟨g, 0, none⟩ ∧ base ≤ g ∧ (∃ x : UInt8, w.cell? ⟨g, k, none⟩ = some (.int .u8 (x.toNat : Int))) ∧ w.frozen? ⟨g, k, none⟩ = false ∧ ∀ y : UInt8, RowB (w.setCell ⟨g, k, none⟩ (.int .u8 (y.toNat : Int))) base m A (zs.set k y) := by
  have hl := h.rd.len
  obtain ⟨b, off, rfl⟩ := h.rd.addr (by omega)
  obtain ⟨g, cs, e, h1, h2, h3⟩ := h.row _ rfl
  injection e with e1 e2
  subst e1 e2
  have hc := h.rd.cells k (by omega)
  rw [Nat.zero_add] at hc
  refine ⟨b, rfl, h1, ⟨_, hc⟩, by simp [World.frozen?, h3], fun y => ⟨?_, fun a ha => ?_⟩⟩
  · have hrow := heap_setCell_same w b k cs 5 (.int .u8 (y.toNat : Int)) h3
    refine RdB.mk (by rw [List.length_set]; exact hl) fun j hj => ?_
    rw [List.length_set] at hj
    have hcj := h.rd.cells j hj
    rw [cell_of_row _ _ _ _ _ _ h3] at hcj
    rw [cell_of_row _ _ _ _ _ _ hrow, Nat.zero_add]
    rw [Nat.zero_add] at hcj
    by_cases hjk : k = j
    · subst hjk
      have hlt := (Array.getElem?_eq_some_iff.1 hcj).1
      rw [Array.getElem?_setIfInBounds_self_of_lt hlt]
      simp
    · rw [Array.getElem?_setIfInBounds_ne hjk, hcj, List.getElem_set_ne hjk]
  · injection ha with ha
    subst ha
    exact ⟨b, _, rfl, h1, by simp [World.setCell]; exact h2, heap_setCell_same w b k cs 5 _ h3⟩
/-- Parts in a row of the call's own. -/
structure RowP (w : World) (base m : Nat) (A : Option Addr) : Prop where
  ex : 0 < m → ∃ g cs, A = some ⟨g, 0, none⟩ ∧ base ≤ g ∧ g < w.heap.size ∧ w.heap[g]? = some (.cells cs 40 (0, 0)) ∧ m * 3 ≤ cs.size
theorem OwnPt.rowP {w : World} {base : Nat} {A : Option Addr} {m c : Nat} {ps : List PartV} (h : OwnPt w base (.slice A m c) ps) : RowP w base m A := by
  refine ⟨fun hm => ?_⟩
  rcases h.2 with ⟨hv, _⟩ | ⟨g', cap, cur, hv, hg, hh, hn, _, hs, _⟩
  · injection hv with e1 e2 e3
    omega
  · injection hv with e1 e2 e3
    subst e1 e2 e3
    exact ⟨g', cur, rfl, hg, heap_lt' hh, hh, by rw [hs]; exact Nat.mul_le_mul_right 3 hn⟩
theorem OnlyA.rowP {A A' : Option Addr} {base m : Nat} {w w' : World} (ho : OnlyA A w w') (h : RowP w base m A') (hne : ∀ x y, A' = some x → A = some y → x.block ≠ y.block) : RowP w' base m A' :=
  ⟨fun hm => by
    obtain ⟨g, cs, e, h1, h2, h3, h4⟩ := h.ex hm
    exact ⟨g, cs, e, h1, by rw [ho.size]; exact h2, by rw [ho.block g (fun y hy => hne _ y e hy)]; exact h3, h4⟩⟩
theorem setCells_row : ∀ (vs : List Value) (w : World) (g o : Nat) (cs : Array Value), w.heap[g]? = some (.cells cs 40 (0, 0)) → ∃ cs', (w.setCells g o vs).heap[g]? = some (.cells cs' 40 (0, 0)) ∧ cs'.size = cs.size
  | [], w, g, o, cs, h => ⟨cs, h, rfl⟩
  | v :: vs, w, g, o, cs, h => by
    obtain ⟨cs', h1, h2⟩ := setCells_row vs _ g (o + 1) _ (heap_setCell_same w g o cs _ v h)
    exact ⟨cs', h1, by rw [h2]; simp⟩
theorem OnlyA.sets : ∀ (vs : List Value) {g : Nat} {w w' : World} (h : OnlyA (some ⟨g, 0, none⟩) w w') (o : Nat), OnlyA (some ⟨g, 0, none⟩) w (w'.setCells g o vs)
  | [], _, _, _, h, o => h
  | v :: vs, _, _, _, h, o => OnlyA.sets vs (h.set o v) (o + 1)
theorem RowP.there {w : World} {g : Nat} {cs : Array Value} {m : Nat} (h3 : w.heap[g]? = some (.cells cs 40 (0, 0))) (h4 : m * 3 ≤ cs.size) (k : Nat) (hk : k < m) : w.there g (k * 3) 3 := fun j hj => by
  refine ⟨?_, by simp [World.frozen?, h3]⟩
  rw [cell_of_row _ _ _ _ _ _ h3, Array.getElem?_eq_getElem (show k * 3 + j < cs.size by omega)]
  rfl
theorem RowP.sets {w : World} {base m g : Nat} {cs : Array Value} (hb : base ≤ g) (h3 : w.heap[g]? = some (.cells cs 40 (0, 0))) (h4 : m * 3 ≤ cs.size) (o : Nat) (vs : List Value) : RowP (w.setCells g o vs) base m (some ⟨g, 0, none⟩) := by
  obtain ⟨cs', h1, h2⟩ := setCells_row vs w g o cs h3
  exact ⟨fun _ => ⟨g, cs', rfl, hb, heap_lt' h1, h1, by rw [h2]; exact h4⟩⟩
theorem RdPt.pre {w : World} {A : Option Addr} {n : Nat} {ps : List PartV} (h : RdPt w A n ps) (k : Nat) (hk : k ≤ n) : RdPt w A k (ps.take k) := by
  have hl := h.len
  refine ⟨by rw [List.length_take]; omega, fun hn => ?_⟩
  obtain ⟨b, off, e, hc⟩ := h.ex (by omega)
  refine ⟨b, off, e, fun j hj => ?_⟩
  rw [List.length_take] at hj
  have := hc j (by omega)
  rw [List.getElem_take]
  exact this
theorem elemUndP : Tryd.prog.underlying 22 = some (.slice (Tryd.prog.elem 22)) := by kernel_rfl
theorem elemSizeP (W : World) : (sizeOf (Tryd.prog.elem 22)).run Tryd.prog W = .ok 3 W := by kernel_rfl
theorem cut_hp (g n c j : Nat) (hj : j ≤ n) (hn : n ≤ c) (W : World) : (Instr.slice 22 (.slice (some ⟨g, 0, none⟩) n c) none (some (.int .i64 (j : Int))) none).run Tryd.prog W = .ok (.slice (some ⟨g, 0, none⟩) j c) W := by
  rw [run_slice_h W 22 _ n c elemUndP .i64 _ (by omega) (by omega), elemSizeP]
  simp [Result.andThen, sliced, Addr.add]
end Go.Proofs.YtbblpehehgeebaaDoor
