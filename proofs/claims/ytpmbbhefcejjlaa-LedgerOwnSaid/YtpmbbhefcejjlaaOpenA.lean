/-
  What an argument that came in gives the walk: calls of a journal. No statement is proved here.
-/
import Derived.Test.YtpmbbhefcejjlaaLedN
import Derived.Test.YtpmbbhefcejjlaaOpenS
namespace Go.Proofs.Ytpmbbhefcejjlaa
open Go.ChangeShapes Go.WideShapes Go.ChangeAt Go.RowKit Go.Deep
set_option linter.unusedVariables false
section
variable {H : Type} {enc : TypeId × Value → H} {w : World} {base : Nat} {spare : Nat → Bool} {held : Bool}
theorem cells_state' {fuel : Nat} {cs : List Value} {x : Option (DataW H × List MemPlace)} (h : DataW.trod enc Try.prog w base spare held fuel 23 cs = x) (hx : x.isSome = true) : ∃ s : St, cs = (stCells s).toList := by
  obtain ⟨y, rfl⟩ := Option.isSome_iff_exists.1 hx
  obtain ⟨s, hs⟩ := cells_state h
  exact ⟨s, by simpa [St.val, stCells] using hs⟩
theorem cells_act {fuel : Nat} {cs : List Value} {x : DataW H × List MemPlace} (h : DataW.trod enc Try.prog w base spare held fuel 55 cs = some x) : ∃ a : Ac, Value.agg cs.toArray = a.val := by
  obtain ⟨xs, n, _, _, hlen, hxl, hg⟩ := DataW.trod_struct Try.underlying55 h
  have hs : ∀ j, j < 6 → (xs[j]?).isSome = true := fun j hj => by
    rw [List.getElem?_eq_getElem (by rw [hxl]; exact hj)]; rfl
  have hc : Try.prog.cellsOf 55 = 28 := by kernel_rfl
  have k1 : Try.prog.cellsOf 3 = 1 := by kernel_rfl
  have k2 : Try.prog.cellsOf 9 = 1 := by kernel_rfl
  have k3 : Try.prog.cellsOf 23 = 12 := by kernel_rfl
  rw [hc] at hlen
  have g0 := hg 0 _ rfl
  have g1 := hg 1 _ rfl
  have g2 := hg 2 _ rfl
  have g3 := hg 3 _ rfl
  have g4 := hg 4 _ rfl
  have g5 := hg 5 _ rfl
  clear hg h
  match cs, hlen with
  | [c0, c1, c2, c3, c4, c5, c6, c7, c8, c9, c10, c11, c12, c13, c14, c15, c16, c17, c18, c19, c20, c21, c22, c23, c24, c25, c26, c27], _ =>
    have g0 : DataW.trod enc Try.prog w base spare held n 3 [c0] = xs[0]? := by have h : DataW.trod enc Try.prog w base spare held n 3 (List.take (Try.prog.cellsOf 3) (List.drop 0 [c0, c1, c2, c3, c4, c5, c6, c7, c8, c9, c10, c11, c12, c13, c14, c15, c16, c17, c18, c19, c20, c21, c22, c23, c24, c25, c26, c27])) = xs[0]? := g0; rw [k1] at h; exact h
    have g1 : DataW.trod enc Try.prog w base spare held n 3 [c1] = xs[1]? := by have h : DataW.trod enc Try.prog w base spare held n 3 (List.take (Try.prog.cellsOf 3) (List.drop 1 [c0, c1, c2, c3, c4, c5, c6, c7, c8, c9, c10, c11, c12, c13, c14, c15, c16, c17, c18, c19, c20, c21, c22, c23, c24, c25, c26, c27])) = xs[1]? := g1; rw [k1] at h; exact h
    have g2 : DataW.trod enc Try.prog w base spare held n 3 [c2] = xs[2]? := by have h : DataW.trod enc Try.prog w base spare held n 3 (List.take (Try.prog.cellsOf 3) (List.drop 2 [c0, c1, c2, c3, c4, c5, c6, c7, c8, c9, c10, c11, c12, c13, c14, c15, c16, c17, c18, c19, c20, c21, c22, c23, c24, c25, c26, c27])) = xs[2]? := g2; rw [k1] at h; exact h
    have g3 : DataW.trod enc Try.prog w base spare held n 9 [c3] = xs[3]? := by have h : DataW.trod enc Try.prog w base spare held n 9 (List.take (Try.prog.cellsOf 9) (List.drop 3 [c0, c1, c2, c3, c4, c5, c6, c7, c8, c9, c10, c11, c12, c13, c14, c15, c16, c17, c18, c19, c20, c21, c22, c23, c24, c25, c26, c27])) = xs[3]? := g3; rw [k2] at h; exact h
    have g4 : DataW.trod enc Try.prog w base spare held n 23 [c4, c5, c6, c7, c8, c9, c10, c11, c12, c13, c14, c15] = xs[4]? := by have h : DataW.trod enc Try.prog w base spare held n 23 (List.take (Try.prog.cellsOf 23) (List.drop 4 [c0, c1, c2, c3, c4, c5, c6, c7, c8, c9, c10, c11, c12, c13, c14, c15, c16, c17, c18, c19, c20, c21, c22, c23, c24, c25, c26, c27])) = xs[4]? := g4; rw [k3] at h; exact h
    have g5 : DataW.trod enc Try.prog w base spare held n 23 [c16, c17, c18, c19, c20, c21, c22, c23, c24, c25, c26, c27] = xs[5]? := by have h : DataW.trod enc Try.prog w base spare held n 23 (List.take (Try.prog.cellsOf 23) (List.drop 16 [c0, c1, c2, c3, c4, c5, c6, c7, c8, c9, c10, c11, c12, c13, c14, c15, c16, c17, c18, c19, c20, c21, c22, c23, c24, c25, c26, c27])) = xs[5]? := g5; rw [k3] at h; exact h
    obtain ⟨y0, e0⟩ := Option.isSome_iff_exists.1 (hs 0 (by omega))
    obtain ⟨y1, e1⟩ := Option.isSome_iff_exists.1 (hs 1 (by omega))
    obtain ⟨y2, e2⟩ := Option.isSome_iff_exists.1 (hs 2 (by omega))
    obtain ⟨y3, e3⟩ := Option.isSome_iff_exists.1 (hs 3 (by omega))
    rw [e0] at g0
    rw [e1] at g1
    rw [e2] at g2
    rw [e3] at g3
    obtain ⟨m0, i0, _, _⟩ := DataW.trod_int Try.underlying3 g0
    obtain ⟨m1, i1, _, _⟩ := DataW.trod_int Try.underlying3 g1
    obtain ⟨m2, i2, _, _⟩ := DataW.trod_int Try.underlying3 g2
    obtain ⟨m3, i3, _, _⟩ := DataW.trod_string Try.underlying9 g3
    obtain ⟨s4, i4⟩ := cells_state' g4 (hs 4 (by omega))
    obtain ⟨s5, i5⟩ := cells_state' g5 (hs 5 (by omega))
    refine ⟨⟨m0, m1, m2, m3, s4, s5⟩, ?_⟩
    have q4 : stCells s4 = #[c4, c5, c6, c7, c8, c9, c10, c11, c12, c13, c14, c15] := by rw [← Array.toArray_toList (xs := stCells s4), ← i4]
    have q5 : stCells s5 = #[c16, c17, c18, c19, c20, c21, c22, c23, c24, c25, c26, c27] := by rw [← Array.toArray_toList (xs := stCells s5), ← i5]
    injection i0 with j0
    injection i1 with j1
    injection i2 with j2
    injection i3 with j3
    subst j0 j1 j2 j3
    simp [Ac.val, acCells, q4, q5]
theorem open_act {r : Reach} {b0 : Nat} {v : Value} {d : DataW H} {p : List MemPlace} (hv : Value.okWide Try.prog w r b0 55 v) (h : DataW.Trod enc Try.prog w base spare held 55 v d p) : ∃ a : Ac, v = a.val := by
  obtain ⟨cs, rfl, _⟩ := okWide_struct Try.underlying55 hv
  obtain ⟨fuel, hf⟩ := h
  obtain ⟨s, hs⟩ := cells_act hf
  exact ⟨s, by simpa [Value.cells] using hs⟩
end
end Go.Proofs.Ytpmbbhefcejjlaa
