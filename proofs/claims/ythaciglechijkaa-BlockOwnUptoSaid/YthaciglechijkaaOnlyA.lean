/-
  Only one slice's memory is written; one byte of the call's own.
-/
import Derived.Test.YthaciglechijkaaBytes
namespace Go.Proofs.Ythaciglechijkaa
open Go.RowKit
set_option linter.unusedVariables false

structure OnlyA (A : Option Addr) (w w' : World) : Prop where
  os : w'.os = w.os
  tape : w'.tape = w.tape
  output : w'.output = w.output
  size : w'.heap.size = w.heap.size
  block : ∀ k, (∀ a, A = some a → k ≠ a.block) → w'.heap[k]? = w.heap[k]?
theorem OnlyA.refl (A : Option Addr) (w : World) : OnlyA A w w := ⟨rfl, rfl, rfl, rfl, fun _ _ => rfl⟩
theorem OnlyA.set {g : Nat} {w w' : World} (h : OnlyA (some ⟨g, 0, none⟩) w w') (j : Nat) (u : Value) : OnlyA (some ⟨g, 0, none⟩) w (w'.setCell ⟨g, j, none⟩ u) :=
  ⟨h.os, h.tape, h.output, by rw [← h.size]; simp [World.setCell], fun k hk => (heap_setCell_other _ ⟨g, j, none⟩ k u (hk ⟨g, 0, none⟩ rfl)).trans (h.block k hk)⟩
theorem OnlyA.below {A : Option Addr} {B : Nat} {a w w' : World} (ho : OnlyA A w w') (h : Below B a w) (hg : ∀ x, A = some x → B ≤ x.block) : Below B a w' :=
  ⟨ho.os.trans h.os, ho.tape.trans h.tape, ho.output.trans h.output, by rw [ho.size]; exact h.size, fun k hk => (ho.block k (fun x hx => by have := hg x hx; omega)).trans (h.block k hk)⟩
theorem OnlyA.rd {A A' : Option Addr} {n : Nat} {xs : List UInt8} {w w' : World} (ho : OnlyA A w w') (h : RdB w A' n xs) (hne : ∀ x y, A' = some x → A = some y → x.block ≠ y.block) : RdB w' A' n xs :=
  ⟨h.1, fun hn => by
    obtain ⟨b, off, e, hc⟩ := h.2 hn
    exact ⟨b, off, e, fun j u hu => (World.cell?_of_block (w := w) (ho.block b fun y hy => hne _ y e hy)).trans (hc j u hu)⟩⟩
theorem OnlyA.own {A A' : Option Addr} {n c base : Nat} {xs : List UInt8} {w w' : World} (ho : OnlyA A w w') (h : OwnB w base (.slice A' n c) xs) (hne : ∀ x y, A' = some x → A = some y → x.block ≠ y.block) : OwnB w' base (.slice A' n c) xs := by
  refine ⟨h.1, ?_⟩
  rcases h.2 with h2 | ⟨g, cap, cur, hv, hg, hh, r⟩
  · exact .inl h2
  · refine .inr ⟨g, cap, cur, hv, hg, ?_, r⟩
    injection hv with e1 e2 e3
    rw [ho.block g fun y hy => hne _ y e1 hy]
    exact hh
/-- One byte of the call's own: it can be read and written. -/
theorem OwnB.bump {w : World} {base m c : Nat} {A : Option Addr} {zs : List UInt8} (h : OwnB w base (.slice A m c) zs) (hm : zs.length = m) (k : Nat) (hk : k < m) :
    ∃ g, A = some ⟨g, 0, none⟩ ∧ base ≤ g ∧ (∃ x : UInt8, w.cell? ⟨g, k, none⟩ = some (.int .u8 (x.toNat : Int))) ∧ w.frozen? ⟨g, k, none⟩ = false ∧ ∀ y : UInt8, OwnB (w.setCell ⟨g, k, none⟩ (.int .u8 (y.toNat : Int))) base (.slice A m c) (zs.set k y) := by
  obtain ⟨A0, m0, c0, he, _, _, _, hr, hg⟩ := h.form
  injection he with e1 e2 e3
  subst e1 e2 e3
  obtain ⟨b, off, rfl⟩ := hr.addr (by omega)
  obtain ⟨g, hg1, hg2, _⟩ := hg _ rfl
  injection hg1 with e1 e2
  subst e1 e2
  have hc := hr.cells k (by omega)
  rw [Nat.zero_add] at hc
  exact ⟨b, rfl, hg2, ⟨_, hc⟩, World.ownsRow.frozenAt (xs := zs.map bv) (n := zs.length) (by subst hm; exact h) _, fun y => h.set hm k y⟩
theorem u8_of_intA (z : Int) (h0 : 0 ≤ z) (h1 : z < 256) : ∃ y : UInt8, z = (y.toNat : Int) := ⟨UInt8.ofNat z.toNat, by rw [u8_ofNat _ (by omega)]; omega⟩

theorem apartA {A A' : Option Addr} {p s s' t : Nat} (h1 : ∀ a, A = some a → ∃ g, a = ⟨g, 0, none⟩ ∧ p ≤ g ∧ g < s) (h2 : ∀ a, A' = some a → ∃ g, a = ⟨g, 0, none⟩ ∧ s' ≤ g ∧ g < t) (hs : s ≤ s') : ∀ x y, A' = some x → A = some y → x.block ≠ y.block := by
  intro x y hx hy
  obtain ⟨g1, rfl, _, e1⟩ := h1 y hy
  obtain ⟨g2, rfl, e2, _⟩ := h2 x hx
  show g2 ≠ g1
  omega
theorem aboveA {A : Option Addr} {p q s : Nat} (h1 : ∀ a, A = some a → ∃ g, a = ⟨g, 0, none⟩ ∧ p ≤ g ∧ g < s) (hq : q ≤ p) : ∀ x, A = some x → q ≤ x.block := by
  intro x hx
  obtain ⟨g1, rfl, e1, _⟩ := h1 x hx
  show q ≤ g1
  omega
end Go.Proofs.Ythaciglechijkaa
