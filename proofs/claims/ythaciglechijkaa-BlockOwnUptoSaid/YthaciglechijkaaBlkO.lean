/-
  What stays and what can be written, for BlockOwn. No statement is proved here.
-/
import Derived.Test.YthaciglechijkaaBlkN
namespace Go.Proofs.Ythaciglechijkaa
open Go.RowKit
set_option linter.unusedVariables false

/-- What stays: the blocks below lo, and those from h1 to h2. -/
structure Mid3 (lo h1 h2 : Nat) (w w' : World) : Prop where
  os : w'.os = w.os
  tape : w'.tape = w.tape
  output : w'.output = w.output
  size : w'.heap.size = w.heap.size
  block : ∀ k, (k < lo ∨ (h1 ≤ k ∧ k < h2)) → w'.heap[k]? = w.heap[k]?
theorem Mid3.refl (lo h1 h2 : Nat) (w : World) : Mid3 lo h1 h2 w w := ⟨rfl, rfl, rfl, rfl, fun _ _ => rfl⟩
theorem Mid3.set {lo h1 h2 g : Nat} {w w' : World} (h : Mid3 lo h1 h2 w w') (hg : ¬(g < lo ∨ (h1 ≤ g ∧ g < h2))) (j : Nat) (u : Value) : Mid3 lo h1 h2 w (w'.setCell ⟨g, j, none⟩ u) :=
  ⟨h.os, h.tape, h.output, by rw [← h.size]; simp [World.setCell], fun k hk => (heap_setCell_other _ ⟨g, j, none⟩ k u (fun e => hg (by subst e; exact hk))).trans (h.block k hk)⟩
theorem Mid3.below {lo h1 h2 B : Nat} {a w w' : World} (ho : Mid3 lo h1 h2 w w') (h : Below B a w) (hB : B ≤ lo) : Below B a w' :=
  ⟨ho.os.trans h.os, ho.tape.trans h.tape, ho.output.trans h.output, by rw [ho.size]; exact h.size, fun k hk => (ho.block k (.inl (by omega))).trans (h.block k hk)⟩
theorem Mid3.drew {lo h1 h2 : Nat} {w w' : World} (h : Mid3 lo h1 h2 w w') : Mid3 lo h1 h2 w w'.drew := ⟨h.os, h.tape, h.output, h.size, h.block⟩
theorem OwnB.same2 {w w' : World} {base : Nat} {v : Value} {xs : List UInt8} (h : OwnB w base v xs) (hb : ∀ g, v.ownBlock = some g → w'.heap[g]? = w.heap[g]?) : OwnB w' base v xs := by
  refine ⟨h.1, ?_⟩
  rcases h.2 with h2 | ⟨g, cap, cur, rfl, hg, hh, r⟩
  · exact .inl h2
  · exact .inr ⟨g, cap, cur, rfl, hg, (hb g rfl).trans hh, r⟩
theorem OwnB.poke {w : World} {base mu cu : Nat} {Au : Option Addr} {zs : List UInt8} (h : OwnB w base (.slice Au mu cu) zs) (hl : zs.length = mu) (g k : Nat) (y : UInt8) :
    ∃ zt : List UInt8, zt.length = mu ∧ OwnB (w.setCell ⟨g, k, none⟩ (.int .u8 (y.toNat : Int))) base (.slice Au mu cu) zt := by
  by_cases hg : Au = some ⟨g, 0, none⟩
  · subst hg
    exact ⟨zs.set k y, by rw [List.length_set]; exact hl, h.set hl k y⟩
  · refine ⟨zs, hl, h.same2 fun g' hg' => heap_setCell_other _ _ _ _ fun e => hg ?_⟩
    obtain ⟨A0, m0, c0, he, _, _, _, _, hf⟩ := h.form
    injection he with e1 e2 e3
    subst e1 e2 e3
    cases Au with
    | none => simp [Value.ownBlock] at hg'
    | some a =>
      obtain ⟨g2, rfl, _⟩ := hf a rfl
      simp [Value.ownBlock] at hg'
      subst hg'
      simp at e
      rw [e]
/-- Pairs, whatever they hold: each byte of them can be written. -/
def LWQ (W : World) (lo hi : Nat) (A : Option Addr) (n : Nat) : Prop :=
  ∀ j, j < n → ∃ gl cs Ak mk ck Av mv cv zk zv, A = some ⟨gl, 0, none⟩ ∧ W.heap[gl]? = some (.cells cs 42 (0, 0)) ∧ cs[j * 2]? = some (.slice Ak mk ck) ∧ cs[j * 2 + 1]? = some (.slice Av mv cv) ∧
    Hid (zk.length = mk) ∧ OwnB W lo (.slice Ak mk ck) zk ∧ Hid (zv.length = mv) ∧ OwnB W lo (.slice Av mv cv) zv ∧ (∀ a, Ak = some a → a.block < hi) ∧ (∀ a, Av = some a → a.block < hi) ∧ mk ≤ 9223372036854775807 ∧ mv ≤ 9223372036854775807
theorem LWQ.of {W : World} {lo n c : Nat} {A : Option Addr} {rs : List PairR} (h : OwnQ W lo (.slice A n c) rs) : LWQ W lo W.heap.size A rs.length := by
  intro j hj
  obtain ⟨ho1, ho2⟩ := h.each rs[j] (List.getElem_mem hj)
  obtain ⟨c0, c1⟩ := cellsQ_at rs j hj
  have hl := cellsQ_len rs
  have go1 := ho1
  have go2 := ho2
  obtain ⟨Ak, mk, ck, ek, hk1, hk2, hk3, _, hk5⟩ := ho1.form
  obtain ⟨Av, mv, cv, ev, hv1, hv2, hv3, _, hv5⟩ := ho2.form
  rcases h.row.2 with ⟨_, h0⟩ | ⟨g, cap, cur, hv, _, hh, _, _, hs, ht⟩
  · omega
  · injection hv with e1 _ _
    rw [← ht] at c0 c1
    rw [List.getElem?_take_of_lt (by omega)] at c0 c1
    rw [ek] at c0
    rw [ev] at c1
    refine ⟨g, cur, Ak, mk, ck, Av, mv, cv, _, _, e1, hh, by simpa using c0, by simpa using c1, hk1, ek ▸ go1, hv1, ev ▸ go2, fun a ha => ?_, fun a ha => ?_, by unfold maxLen at hk3; omega, by unfold maxLen at hv3; omega⟩
    · obtain ⟨g', rfl, _, h5⟩ := hk5 a ha
      exact h5
    · obtain ⟨g', rfl, _, h5⟩ := hv5 a ha
      exact h5
theorem LWQ.poke {W : World} {lo hi n : Nat} {A : Option Addr} (h : LWQ W lo hi A n) (g k : Nat) (y : UInt8) (hg : ∃ cs fr, W.heap[g]? = some (.cells cs 5 fr)) : LWQ (W.setCell ⟨g, k, none⟩ (.int .u8 (y.toNat : Int))) lo hi A n := by
  intro j hj
  obtain ⟨gl, cs, Ak, mk, ck, Av, mv, cv, zk, zv, h1, h2, h3, h4, h5, h6, h7, h8, h9, h10, h11, h12⟩ := h j hj
  obtain ⟨zk', k1, k2⟩ := h6.poke h5.out g k y
  obtain ⟨zv', v1, v2⟩ := h8.poke h7.out g k y
  obtain ⟨ds, fr, hg⟩ := hg
  have hne : gl ≠ g := by
    rintro rfl
    rw [h2] at hg
    injection hg with hg
    injection hg with _ hg
    exact absurd hg (by decide)
  exact ⟨gl, cs, Ak, mk, ck, Av, mv, cv, zk', zv', h1, (heap_setCell_other _ _ _ _ (by simpa using hne)).trans h2, h3, h4, Lib.hid k1, k2, Lib.hid v1, v2, h9, h10, h11, h12⟩
theorem LWQ.below {W W' : World} {lo hi n : Nat} {A : Option Addr} (h : LWQ W lo hi A n) (hb : Below W.heap.size W W') : LWQ W' lo hi A n := by
  intro j hj
  obtain ⟨gl, cs, Ak, mk, ck, Av, mv, cv, zk, zv, h1, h2, h3, h4, h5, h6, h7, h8, h9⟩ := h j hj
  exact ⟨gl, cs, Ak, mk, ck, Av, mv, cv, zk, zv, h1, (hb.block gl (heap_lt' h2)).trans h2, h3, h4, h5, h6.below hb, h7, h8.below hb, h9⟩
theorem OwnQ.mid {lo h1 h2 : Nat} {w w' : World} {v : Value} {rs : List PairR} (ho : Mid3 lo h1 h2 w w') (h : OwnQ w h1 v rs) (hw : w.heap.size ≤ h2) : OwnQ w' h1 v rs :=
  h.same fun g cs t fr hg _ hh => ho.block g (.inr ⟨hg, Nat.lt_of_lt_of_le (heap_lt' hh) hw⟩)
end Go.Proofs.Ythaciglechijkaa
