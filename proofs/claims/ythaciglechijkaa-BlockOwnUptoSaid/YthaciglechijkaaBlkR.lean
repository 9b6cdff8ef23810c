/-
  Bytes in a row of the call's own, clipped or not. No statement is proved here.
-/
import Derived.Test.YthaciglechijkaaBlkA
import Derived.Test.YthaciglechijkaaOnlyA
namespace Go.Proofs.Ythaciglechijkaa
open Go.RowKit
set_option linter.unusedVariables false

/-- New bytes: a row of the call's own. -/
structure NewR (base : Nat) (w : World) (v : Value) (xs : List UInt8) : Prop where
  ex : ∃ A m c, v = .slice A m c ∧ m ≤ c ∧ c ≤ maxLen ∧ RdB w A m xs ∧ (∀ a, A = some a → ∃ g cs, a = ⟨g, 0, none⟩ ∧ base ≤ g ∧ g < w.heap.size ∧ w.heap[g]? = some (.cells cs 5 (0, 0)))
theorem OwnB.newR {w : World} {base : Nat} {v : Value} {xs : List UInt8} (h : OwnB w base v xs) : NewR base w v xs := by
  obtain ⟨A, m, c, rfl, _, h1, h2, h3, h4⟩ := h.form
  refine ⟨A, m, c, rfl, h1, h2, h3, fun a ha => ?_⟩
  obtain ⟨g, e, h5, h6⟩ := h4 a ha
  rcases h.2 with ⟨hv, _⟩ | ⟨g', cap, cur, hv, _, hh, _⟩
  · injection hv with e1 e2 e3
    rw [ha] at e1
    cases e1
  · injection hv with e1 e2 e3
    rw [ha] at e1
    injection e1 with e1
    rw [e] at e1
    injection e1 with e4 e5
    subst e4
    exact ⟨g, cur, e, h5, h6, hh⟩
/-- Bytes in a row of the call's own. -/
structure RowB (w : World) (base m : Nat) (A : Option Addr) (zs : List UInt8) : Prop where
  rd : RdB w A m zs
  row : ∀ a, A = some a → ∃ g cs, a = ⟨g, 0, none⟩ ∧ base ≤ g ∧ g < w.heap.size ∧ w.heap[g]? = some (.cells cs 5 (0, 0))
theorem RowB.below {w w' : World} {base m : Nat} {A : Option Addr} {zs : List UInt8} (h : RowB w base m A zs) (hb : Below w.heap.size w w') : RowB w' base m A zs :=
  ⟨h.rd.below hb, fun a ha => by
    obtain ⟨g, cs, e, h1, h2, h3⟩ := h.row a ha
    exact ⟨g, cs, e, h1, Nat.lt_of_lt_of_le h2 hb.size, (hb.block g h2).trans h3⟩⟩
theorem OnlyA.rowB {A A' : Option Addr} {base m : Nat} {zs : List UInt8} {w w' : World} (ho : OnlyA A w w') (h : RowB w base m A' zs) (hne : ∀ x y, A' = some x → A = some y → x.block ≠ y.block) : RowB w' base m A' zs :=
  ⟨ho.rd h.rd hne, fun a ha => by
    obtain ⟨g, cs, e, h1, h2, h3⟩ := h.row a ha
    exact ⟨g, cs, e, h1, by rw [ho.size]; exact h2, by rw [ho.block g (fun y hy => by have := hne a y ha hy; rw [e] at this; exact this)]; exact h3⟩⟩
theorem RowB.bump {w : World} {base m : Nat} {A : Option Addr} {zs : List UInt8} (h : RowB w base m A zs) (k : Nat) (hk : k < m) :
    ∃ g, A = some ⟨g, 0, none⟩ ∧ base ≤ g ∧ (∃ x : UInt8, w.cell? ⟨g, k, none⟩ = some (.int .u8 (x.toNat : Int))) ∧ w.frozen? ⟨g, k, none⟩ = false ∧ ∀ y : UInt8, RowB (w.setCell ⟨g, k, none⟩ (.int .u8 (y.toNat : Int))) base m A (zs.set k y) := by
  have hl := h.rd.len
  obtain ⟨b, off, rfl⟩ := h.rd.addr (by omega)
  obtain ⟨g, cs, e, h1, h2, h3⟩ := h.row _ rfl
  injection e with e1 e2
  subst e1 e2
  have hc := h.rd.cells k (by omega)
  rw [Nat.zero_add] at hc
  refine ⟨b, rfl, h1, ⟨_, hc⟩, by simp [World.frozen?, h3], fun y => ⟨?_, fun a ha => ?_⟩⟩
  · have hrow := heap_setCell_same w b k cs 5 (.int .u8 (y.toNat : Int)) h3
    refine RdB.mk (by rw [List.length_set]; exact hl) fun j hj => ?_
    rw [List.length_set] at hj
    have hcj := h.rd.cells j hj
    rw [cell_of_row _ _ _ _ _ _ h3] at hcj
    rw [cell_of_row _ _ _ _ _ _ hrow, Nat.zero_add]
    rw [Nat.zero_add] at hcj
    by_cases hjk : k = j
    · subst hjk
      have hlt := (Array.getElem?_eq_some_iff.1 hcj).1
      rw [Array.getElem?_setIfInBounds_self_of_lt hlt]
      simp
    · rw [Array.getElem?_setIfInBounds_ne hjk, hcj, List.getElem_set_ne hjk]
  · injection ha with ha
    subst ha
    exact ⟨b, _, rfl, h1, by simp [World.setCell]; exact h2, heap_setCell_same w b k cs 5 _ h3⟩
theorem NewR.rowB {w : World} {base : Nat} {v : Value} {xs : List UInt8} (h : NewR base w v xs) :
    ∃ A m c, v = .slice A m c ∧ m ≤ c ∧ c ≤ maxLen ∧ RowB w base m A xs ∧ (∀ a, A = some a → ∃ g, a = ⟨g, 0, none⟩ ∧ base ≤ g ∧ g < w.heap.size) := by
  obtain ⟨A, m, c, rfl, h1, h2, h3, h4⟩ := h.ex
  refine ⟨A, m, c, rfl, h1, h2, ⟨h3, h4⟩, fun a ha => ?_⟩
  obtain ⟨g, cs, e, h5, h6, _⟩ := h4 a ha
  exact ⟨g, e, h5, h6⟩
end Go.Proofs.Ythaciglechijkaa
