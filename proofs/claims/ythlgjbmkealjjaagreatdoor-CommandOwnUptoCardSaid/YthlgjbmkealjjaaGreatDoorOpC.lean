/-
  What a command that came in gives the walk. No statement is proved here.
-/
import Derived.Test.YthlgjbmkealjjaaGreatDoorCmY
import Derived.Test.YthlgjbmkealjjaaGreatDoorBulk
import Derived.ProofKit
import Derived.OpenShut
import Derived.ShutString
import Derived.ChangeOld
import Derived.SizedLaws
import Derived.JoinedCond
import Derived.Deep.CondSized
import Derived.Deep.Fields
import Derived.Deep.Slices
import Derived.ChangeArms
namespace Go.Proofs.YthlgjbmkealjjaaGreatDoor
open Go.ChangeShapes Go.WideShapes Go.ChangeAt Go.RowKit Go.Deep
set_option linter.unusedVariables false
set_option linter.constructorNameAsVariable false
set_option maxRecDepth 100000
section
variable {H : Type} {enc : TypeId × Value → H}
theorem open_row64 {W : World} {fuel : Nat} {cs : List Value} {x : DataW H × List MemPlace} (hf : DataW.trod enc Tryz.prog W 0 (fun _ => true) true fuel 23 cs = some x) :
    ∃ (a : Option Addr) (len cap : Nat) (zs : List Int), cs = [.slice a len cap] ∧ Rd W 1 a len (zs.map (Value.int .i64)) ∧ zs.length = len ∧ len ≤ cap ∧ cap ≤ Rows.uptoBulk x.1 ∧ ∀ z ∈ zs, -9223372036854775808 ≤ z ∧ z ≤ 9223372036854775807 := by
  rcases open_ints Tryz.underlying23 Tryz.underlying2 (by kernel_rfl) hf with ⟨rfl, hx⟩ | ⟨x, l, c, zs, hcs, _, hl, hm, hz, hd, hcell, hwz⟩
  · exact ⟨none, 0, 0, [], rfl, Rd.nil _ _ _, rfl, Nat.le_refl _, Nat.zero_le _, fun z h => by cases h⟩
  · simp only [if_true] at hz
    have hb : c ≤ Rows.uptoBulk (DataW.slice (lits (H := H) .i64 (zs.take l)) (lits .i64 (zs.drop l))) := by
      have := bulks.slice_le (lits (H := H) .i64 (zs.take l)) (lits .i64 (zs.drop l))
      simp [lits] at this ⊢
      omega
    refine ⟨some x, l, c, zs.take l, hcs, ?_, by simp; omega, hl, by rw [hd]; exact hb, fun z hz => ?_⟩
    · obtain ⟨b, off, spot⟩ := x
      refine ⟨by simp; omega, fun h0 => ?_⟩
      have h1 : 0 < l := by simp at h0; omega
      have hspot : spot = none := by simpa [Addr.add] using World.cell?_spot (hcell 0 (by omega))
      subst hspot
      refine ⟨b, off, rfl, fun j u hu => ?_⟩
      have hj := (List.getElem?_eq_some_iff.1 hu).1
      have hj' : j < l := by simp at hj; omega
      have hc := hcell j (by omega)
      rw [add_plain] at hc
      rw [hc]
      have e : zs.getD j 0 = zs[j]'(by omega) := by simp [List.getD, List.getElem?_eq_getElem (show j < zs.length by omega)]
      rw [e]
      rw [List.getElem?_map, List.getElem?_take, if_pos hj', List.getElem?_eq_getElem (by omega)] at hu
      exact hu
    · have := hwz z (List.mem_of_mem_take hz)
      simpa [Lit.wf, IntKind.min, IntKind.max, IntKind.signed, IntKind.bits] using this
theorem cells_cmd {W : World} {fuel : Nat} {cs : List Value} {x : DataW H × List MemPlace} (h : DataW.trod enc Tryz.prog W 0 (fun _ => true) true fuel 25 cs = some x) :
    ∃ (c : Cm) (A : Option Addr) (n k : Nat), cs = (cmCells c (.slice A n k)).toList ∧ Rd W 1 A n (c.args.map (Value.int .i64)) ∧ c.args.length = n ∧ n ≤ k ∧ k ≤ Rows.uptoBulk x.1 ∧ (∀ z ∈ c.args, -9223372036854775808 ≤ z ∧ z ≤ 9223372036854775807) ∧ c.op.size ≤ Rows.uptoBulk x.1 ∧ c.name.size ≤ Rows.uptoBulk x.1 ∧ c.text.size ≤ Rows.uptoBulk x.1 := by
  obtain ⟨xs, n, _, hx, hlen, hxl, hg⟩ := DataW.trod_struct Tryz.underlying25 h
  have hs : ∀ j, j < 4 → (xs[j]?).isSome = true := fun j hj => by
    rw [List.getElem?_eq_getElem (by rw [hxl]; exact hj)]; rfl
  have hc : Tryz.prog.cellsOf 25 = 4 := by kernel_rfl
  have k2 : Tryz.prog.cellsOf 9 = 1 := by kernel_rfl
  have k3 : Tryz.prog.cellsOf 23 = 1 := by kernel_rfl
  rw [hc] at hlen
  have g0 := hg 0 _ rfl
  have g1 := hg 1 _ rfl
  have g2 := hg 2 _ rfl
  have g3 := hg 3 _ rfl
  clear hg h
  match cs, hlen with
  | [c0, c1, c2, c3], _ =>
    have g0 : DataW.trod enc Tryz.prog W 0 (fun _ => true) true n 9 [c0] = xs[0]? := by have h : DataW.trod enc Tryz.prog W 0 (fun _ => true) true n 9 (List.take (Tryz.prog.cellsOf 9) (List.drop 0 [c0, c1, c2, c3])) = xs[0]? := g0; rw [k2] at h; exact h
    have g1 : DataW.trod enc Tryz.prog W 0 (fun _ => true) true n 9 [c1] = xs[1]? := by have h : DataW.trod enc Tryz.prog W 0 (fun _ => true) true n 9 (List.take (Tryz.prog.cellsOf 9) (List.drop 1 [c0, c1, c2, c3])) = xs[1]? := g1; rw [k2] at h; exact h
    have g2 : DataW.trod enc Tryz.prog W 0 (fun _ => true) true n 23 [c2] = xs[2]? := by have h : DataW.trod enc Tryz.prog W 0 (fun _ => true) true n 23 (List.take (Tryz.prog.cellsOf 23) (List.drop 2 [c0, c1, c2, c3])) = xs[2]? := g2; rw [k3] at h; exact h
    have g3 : DataW.trod enc Tryz.prog W 0 (fun _ => true) true n 9 [c3] = xs[3]? := by have h : DataW.trod enc Tryz.prog W 0 (fun _ => true) true n 9 (List.take (Tryz.prog.cellsOf 9) (List.drop 3 [c0, c1, c2, c3])) = xs[3]? := g3; rw [k2] at h; exact h
    obtain ⟨y0, e0⟩ := Option.isSome_iff_exists.1 (hs 0 (by omega))
    obtain ⟨y1, e1⟩ := Option.isSome_iff_exists.1 (hs 1 (by omega))
    obtain ⟨y2, e2⟩ := Option.isSome_iff_exists.1 (hs 2 (by omega))
    obtain ⟨y3, e3⟩ := Option.isSome_iff_exists.1 (hs 3 (by omega))
    have part : ∀ j (y : DataW H × List MemPlace), xs[j]? = some y → Rows.uptoBulk y.1 ≤ Rows.uptoBulk x.1 := fun j y hy => by
      rw [hx]
      have := bulks.part_le (d := y.1) (l := xs.map (·.1)) (List.mem_of_getElem? (by rw [List.getElem?_map, hy]; rfl))
      simp only [Rows.uptoBulk]
      omega
    have p0 := part 0 _ e0
    have p1 := part 1 _ e1
    have p2 := part 2 _ e2
    have p3 := part 3 _ e3
    rw [e0] at g0
    rw [e1] at g1
    rw [e2] at g2
    rw [e3] at g3
    obtain ⟨m0, i0, z0, _⟩ := DataW.trod_string Tryz.underlying9 g0
    obtain ⟨m1, i1, z1, _⟩ := DataW.trod_string Tryz.underlying9 g1
    obtain ⟨A, l, c, zs, i2, hrd, hzl, hlc, hcb, hzb⟩ := open_row64 g2
    obtain ⟨m3, i3, z3, _⟩ := DataW.trod_string Tryz.underlying9 g3
    rw [z0, bulks.string_eq] at p0
    rw [z1, bulks.string_eq] at p1
    rw [z3, bulks.string_eq] at p3
    injection i0 with i0
    injection i1 with i1
    injection i2 with i2
    injection i3 with i3
    subst i0 i1 i2 i3
    have s0 : m0.data.toList.length = m0.size := by simp
    have s1 : m1.data.toList.length = m1.size := by simp
    have s3 : m3.data.toList.length = m3.size := by simp
    exact ⟨⟨m0, m1, m3, zs⟩, A, l, c, rfl, hrd, hzl, hlc, by omega, hzb, by dsimp only; omega, by dsimp only; omega, by dsimp only; omega⟩
theorem open_cmd {W : World} {r : Reach} {b0 : Nat} {v : Value} {d : DataW H} {p : List MemPlace} (hv : Value.okWide Tryz.prog W r b0 25 v) (h : DataW.Trod enc Tryz.prog W 0 (fun _ => true) true 25 v d p) :
    ∃ (c : Cm) (A : Option Addr) (n k : Nat), v = .agg (cmCells c (.slice A n k)) ∧ Rd W 1 A n (c.args.map (Value.int .i64)) ∧ c.args.length = n ∧ n ≤ k ∧ k ≤ Rows.uptoBulk d ∧ (∀ z ∈ c.args, -9223372036854775808 ≤ z ∧ z ≤ 9223372036854775807) ∧ c.op.size ≤ Rows.uptoBulk d ∧ c.name.size ≤ Rows.uptoBulk d ∧ c.text.size ≤ Rows.uptoBulk d := by
  obtain ⟨cs, rfl, _⟩ := okWide_struct Tryz.underlying25 hv
  obtain ⟨fuel, hf⟩ := h
  obtain ⟨q, A, n, c, hs, h2⟩ := cells_cmd hf
  exact ⟨q, A, n, c, by simpa [Value.cells] using hs, h2⟩
end
end Go.Proofs.YthlgjbmkealjjaaGreatDoor
