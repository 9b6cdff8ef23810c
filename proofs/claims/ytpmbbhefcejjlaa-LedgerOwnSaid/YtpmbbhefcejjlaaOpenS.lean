/-
  What an argument that came in gives the walk: states. No statement is proved here.
-/
import Derived.Test.YtpmbbhefcejjlaaLedP
import Derived.ProofKit
import Derived.OpenShut
import Derived.ShutString
import Derived.ChangeOld
import Derived.SizedLaws
import Derived.JoinedCond
import Derived.Deep.CondSized
import Derived.Deep.Fields
namespace Go.Proofs.Ytpmbbhefcejjlaa
open Go.ChangeShapes Go.WideShapes Go.ChangeAt Go.RowKit Go.Deep
set_option linter.unusedVariables false

theorem own : ownKnob Try.prog.godebug = none := by kernel_rfl
theorem laidOut : laidOutB Try.prog = true := by kernel_rfl

section
variable {H : Type} {enc : TypeId × Value → H} {P : Program} {w : World} {base : Nat} {spare : Nat → Bool} {held : Bool}
/-- A struct of integers of one kind, each a cell. -/
theorem cells_ints {t : TypeId} {fs : Array Field} {fuel : Nat} {cs : List Value} {x : DataW H × List MemPlace} (hs : P.underlying t = some (.struct fs)) (hone : oneCellFields P fs = true) (hC : P.cellsOf t = fs.size)
    (hk : ∀ (j : Nat) (f : Field), fs[j]? = some f → P.underlying f.type = some (.int .i64)) (h : DataW.trod enc P w base spare held fuel t cs = some x) :
    ∃ zs : List Int, zs.length = fs.size ∧ cs = zs.map fun z => Value.int .i64 z := by
  obtain ⟨xs, n, _, _, hlen, _, hg⟩ := DataW.trod_struct hs h
  rw [hC] at hlen
  refine ⟨cs.map intOf, by simpa using hlen, ?_⟩
  refine List.ext_getElem (by simp) fun j h1 h2 => ?_
  have hj : j < fs.size := by omega
  obtain ⟨ho, hc⟩ := hone_of hone j fs[j] (Array.getElem?_eq_getElem hj)
  have h3 := hg j fs[j] (Array.getElem?_eq_getElem hj)
  rw [ho, hc] at h3
  have h4 : (cs.drop j).take 1 = [cs[j]] := by rw [List.drop_eq_getElem_cons h1]; rfl
  rw [h4] at h3
  cases hx : xs[j]? with
  | none => rw [hx] at h3; exact absurd h3 (by
      intro hh
      have : xs.length ≤ j := by simpa using hx
      omega)
  | some y =>
    rw [hx] at h3
    obtain ⟨m, hm, _, _⟩ := DataW.trod_int (hk j fs[j] (Array.getElem?_eq_getElem hj)) h3
    have hm' : cs[j] = .int .i64 m := by injection hm
    simp [hm', intOf]
end
section
variable {H : Type} {enc : TypeId × Value → H} {w : World} {base : Nat} {spare : Nat → Bool} {held : Bool}
theorem state_ints : ∀ (j : Nat) (f : Field), (match Try.prog.underlying 23 with | some (.struct fs) => fs | _ => #[])[j]? = some f → Try.prog.underlying f.type = some (.int .i64) := by
  intro j f h
  rw [Try.underlying23] at h
  have hl := (Array.getElem?_eq_some_iff.1 h).1
  simp only [List.size_toArray, List.length_cons, List.length_nil] at hl
  rcases (show j = 0 ∨ j = 1 ∨ j = 2 ∨ j = 3 ∨ j = 4 ∨ j = 5 ∨ j = 6 ∨ j = 7 ∨ j = 8 ∨ j = 9 ∨ j = 10 ∨ j = 11 by omega) with rfl | rfl | rfl | rfl | rfl | rfl | rfl | rfl | rfl | rfl | rfl | rfl <;> simp at h <;> subst h <;> first | exact Try.underlying3 | exact Try.underlying2
theorem cells_state {fuel : Nat} {cs : List Value} {x : DataW H × List MemPlace} (h : DataW.trod enc Try.prog w base spare held fuel 23 cs = some x) : ∃ s : St, Value.agg cs.toArray = s.val := by
  have hk := state_ints
  rw [Try.underlying23] at hk
  obtain ⟨zs, hl, rfl⟩ := cells_ints Try.underlying23 (by kernel_rfl) (by kernel_rfl) hk h
  match zs, hl with
  | [a, b, c, d, e, f, g, i, j, k, l, m], _ => exact ⟨⟨a, b, c, d, e, f, g, i, j, k, l, m⟩, rfl⟩
theorem open_state {r : Reach} {b0 : Nat} {v : Value} {d : DataW H} {p : List MemPlace} (hv : Value.okWide Try.prog w r b0 23 v) (h : DataW.Trod enc Try.prog w base spare held 23 v d p) : ∃ s : St, v = s.val := by
  obtain ⟨cs, rfl, _⟩ := okWide_struct Try.underlying23 hv
  obtain ⟨fuel, hf⟩ := h
  obtain ⟨s, hs⟩ := cells_state hf
  exact ⟨s, by simpa [Value.cells] using hs⟩
end
end Go.Proofs.Ytpmbbhefcejjlaa
