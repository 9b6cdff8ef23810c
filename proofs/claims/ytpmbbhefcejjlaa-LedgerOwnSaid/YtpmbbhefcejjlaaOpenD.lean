/-
  What an argument that came in gives the walk: calls of a journal, with what they weigh. No statement is proved here.
-/
import Derived.Test.YtpmbbhefcejjlaaOpenB
import Derived.SizedLaws
import Derived.Deep.CondSized
namespace Go.Proofs.Ytpmbbhefcejjlaa
open Go.ChangeShapes Go.WideShapes Go.ChangeAt Go.RowKit Go.Deep
set_option linter.unusedVariables false
section
variable {H : Type} {P : Program}
theorem weightsAll_mem {e : TypeId} : ∀ {l : List (DataW H)} {d : DataW H}, d ∈ l → ∀ n ∈ d.weights P e, n ∈ DataW.weightsAll P e l
  | x :: l, d, h, n, hn => by
    simp only [DataW.weightsAll, List.mem_append]
    rcases List.mem_cons.1 h with rfl | h
    · exact Or.inl hn
    · exact Or.inr (weightsAll_mem h n hn)
theorem weights_part {t t' : TypeId} {fs : Array Field} {ds : List (DataW H)} {d : DataW H} {j R : Nat} (hu : P.underlying t = some (.struct fs)) (h : ∀ n ∈ (DataW.agg ds).weights P t, n ≤ R)
    (ht : (fs.toList.map (·.type))[j]? = some t') (hd : ds[j]? = some d) : ∀ n ∈ d.weights P t', n ≤ R := fun n hn => h n (by
  simp only [DataW.weights, hu]
  exact DataW.weights_mem_each ht hd n hn)
theorem weights_arg {ts : List TypeId} {ds : List (DataW H)} (h : (DataW.weightsEach P ts ds).all (· ≤ reachBytes) = true) {j : Nat} {t : TypeId} {d : DataW H} (ht : ts[j]? = some t) (hd : ds[j]? = some d) : ∀ n ∈ d.weights P t, n ≤ 140737488351232 := fun n hn => by
  have := List.all_eq_true.1 h n (DataW.weights_mem_each ht hd n hn)
  exact of_decide_eq_true this
end
section
variable {H : Type} {enc : TypeId × Value → H} {R : Nat}
set_option maxRecDepth 100000 in
theorem cells_act2 {w : World} {fuel : Nat} {cs : List Value} {x : DataW H × List MemPlace} (h : DataW.trod enc Try.prog w 0 (fun _ => true) true fuel 55 cs = some x) (hw : ∀ n ∈ x.1.weights Try.prog 55, n ≤ R) : ∃ a : Ac, Value.agg cs.toArray = a.val ∧ a.loan.size ≤ R := by
  obtain ⟨xs, n, _, hx, hlen, hxl, hg⟩ := DataW.trod_struct Try.underlying55 h
  have hs : ∀ j, j < 6 → (xs[j]?).isSome = true := fun j hj => by
    rw [List.getElem?_eq_getElem (by rw [hxl]; exact hj)]; rfl
  have hc : Try.prog.cellsOf 55 = 28 := by kernel_rfl
  have k1 : Try.prog.cellsOf 3 = 1 := by kernel_rfl
  have k2 : Try.prog.cellsOf 9 = 1 := by kernel_rfl
  have k3 : Try.prog.cellsOf 23 = 12 := by kernel_rfl
  rw [hc] at hlen
  have g0 := hg 0 _ rfl
  have g1 := hg 1 _ rfl
  have g2 := hg 2 _ rfl
  have g3 := hg 3 _ rfl
  have g4 := hg 4 _ rfl
  have g5 := hg 5 _ rfl
  clear hg h
  match cs, hlen with
  | [c0, c1, c2, c3, c4, c5, c6, c7, c8, c9, c10, c11, c12, c13, c14, c15, c16, c17, c18, c19, c20, c21, c22, c23, c24, c25, c26, c27], _ =>
    have g0 : DataW.trod enc Try.prog w 0 (fun _ => true) true n 3 [c0] = xs[0]? := by have h : DataW.trod enc Try.prog w 0 (fun _ => true) true n 3 (List.take (Try.prog.cellsOf 3) (List.drop 0 [c0, c1, c2, c3, c4, c5, c6, c7, c8, c9, c10, c11, c12, c13, c14, c15, c16, c17, c18, c19, c20, c21, c22, c23, c24, c25, c26, c27])) = xs[0]? := g0; rw [k1] at h; exact h
    have g1 : DataW.trod enc Try.prog w 0 (fun _ => true) true n 3 [c1] = xs[1]? := by have h : DataW.trod enc Try.prog w 0 (fun _ => true) true n 3 (List.take (Try.prog.cellsOf 3) (List.drop 1 [c0, c1, c2, c3, c4, c5, c6, c7, c8, c9, c10, c11, c12, c13, c14, c15, c16, c17, c18, c19, c20, c21, c22, c23, c24, c25, c26, c27])) = xs[1]? := g1; rw [k1] at h; exact h
    have g2 : DataW.trod enc Try.prog w 0 (fun _ => true) true n 3 [c2] = xs[2]? := by have h : DataW.trod enc Try.prog w 0 (fun _ => true) true n 3 (List.take (Try.prog.cellsOf 3) (List.drop 2 [c0, c1, c2, c3, c4, c5, c6, c7, c8, c9, c10, c11, c12, c13, c14, c15, c16, c17, c18, c19, c20, c21, c22, c23, c24, c25, c26, c27])) = xs[2]? := g2; rw [k1] at h; exact h
    have g3 : DataW.trod enc Try.prog w 0 (fun _ => true) true n 9 [c3] = xs[3]? := by have h : DataW.trod enc Try.prog w 0 (fun _ => true) true n 9 (List.take (Try.prog.cellsOf 9) (List.drop 3 [c0, c1, c2, c3, c4, c5, c6, c7, c8, c9, c10, c11, c12, c13, c14, c15, c16, c17, c18, c19, c20, c21, c22, c23, c24, c25, c26, c27])) = xs[3]? := g3; rw [k2] at h; exact h
    have g4 : DataW.trod enc Try.prog w 0 (fun _ => true) true n 23 [c4, c5, c6, c7, c8, c9, c10, c11, c12, c13, c14, c15] = xs[4]? := by have h : DataW.trod enc Try.prog w 0 (fun _ => true) true n 23 (List.take (Try.prog.cellsOf 23) (List.drop 4 [c0, c1, c2, c3, c4, c5, c6, c7, c8, c9, c10, c11, c12, c13, c14, c15, c16, c17, c18, c19, c20, c21, c22, c23, c24, c25, c26, c27])) = xs[4]? := g4; rw [k3] at h; exact h
    have g5 : DataW.trod enc Try.prog w 0 (fun _ => true) true n 23 [c16, c17, c18, c19, c20, c21, c22, c23, c24, c25, c26, c27] = xs[5]? := by have h : DataW.trod enc Try.prog w 0 (fun _ => true) true n 23 (List.take (Try.prog.cellsOf 23) (List.drop 16 [c0, c1, c2, c3, c4, c5, c6, c7, c8, c9, c10, c11, c12, c13, c14, c15, c16, c17, c18, c19, c20, c21, c22, c23, c24, c25, c26, c27])) = xs[5]? := g5; rw [k3] at h; exact h
    obtain ⟨y0, e0⟩ := Option.isSome_iff_exists.1 (hs 0 (by omega))
    obtain ⟨y1, e1⟩ := Option.isSome_iff_exists.1 (hs 1 (by omega))
    obtain ⟨y2, e2⟩ := Option.isSome_iff_exists.1 (hs 2 (by omega))
    obtain ⟨y3, e3⟩ := Option.isSome_iff_exists.1 (hs 3 (by omega))
    rw [hx] at hw
    have w3 := weights_part Try.underlying55 hw (j := 3) (t' := 9) (d := y3.1) rfl (by rw [List.getElem?_map, e3]; rfl)
    rw [e0] at g0
    rw [e1] at g1
    rw [e2] at g2
    rw [e3] at g3
    obtain ⟨m0, i0, _, _⟩ := DataW.trod_int Try.underlying3 g0
    obtain ⟨m1, i1, _, _⟩ := DataW.trod_int Try.underlying3 g1
    obtain ⟨m2, i2, _, _⟩ := DataW.trod_int Try.underlying3 g2
    obtain ⟨m3, i3, z3, _⟩ := DataW.trod_string Try.underlying9 g3
    obtain ⟨s4, i4⟩ := cells_state' g4 (hs 4 (by omega))
    obtain ⟨s5, i5⟩ := cells_state' g5 (hs 5 (by omega))
    rw [z3] at w3
    have s3 : m3.size ≤ R := w3 m3.size (by simp only [DataW.weights, List.mem_singleton, Array.length_toList]; rfl)
    refine ⟨⟨m0, m1, m2, m3, s4, s5⟩, ?_, s3⟩
    have q4 : stCells s4 = #[c4, c5, c6, c7, c8, c9, c10, c11, c12, c13, c14, c15] := by rw [← Array.toArray_toList (xs := stCells s4), ← i4]
    have q5 : stCells s5 = #[c16, c17, c18, c19, c20, c21, c22, c23, c24, c25, c26, c27] := by rw [← Array.toArray_toList (xs := stCells s5), ← i5]
    injection i0 with j0
    injection i1 with j1
    injection i2 with j2
    injection i3 with j3
    subst j0 j1 j2 j3
    simp [Ac.val, acCells, q4, q5]
set_option maxRecDepth 100000 in
theorem open_acts2 {W : World} {a : Option Addr} {len cap : Nat} {d : DataW H} {p : List MemPlace} (h0 : DataW.Trod enc Try.prog W 0 (fun _ => true) true 37 (.slice a len cap) d p) (hw : ∀ n ∈ d.weights Try.prog 37, n ≤ R) :
    ∃ acs, RdAc W a len acs ∧ len ≤ cap ∧ cap * 232 ≤ R ∧ ∀ e ∈ acs, e.loan.size ≤ R := by
  obtain ⟨fuel, hf⟩ := h0
  have hone : Try.prog.cellsOf 55 = 28 := by kernel_rfl
  have h80 : Try.prog.bytesOf 55 = 232 := by kernel_rfl
  rcases open_slice Try.underlying37 hf with ⟨hcs, hx⟩ | ⟨x, l, c, m, n, D, Pl, hcs, _, hl, hm, hmm, hd, hi⟩
  · simp [Value.cells] at hcs
    obtain ⟨rfl, rfl, rfl⟩ := hcs
    exact ⟨[], ⟨rfl, fun h => by omega⟩, Nat.le_refl _, by omega, fun e he => by cases he⟩
  · simp [Value.cells] at hcs
    obtain ⟨rfl, rfl, rfl⟩ := hcs
    simp only [if_true] at hmm
    have hd1 : d = .slice ((List.range len).map D) ((List.range (m - len)).map fun j => D (len + j)) := by injection hd
    rw [hd1] at hw
    have hcap : cap * 232 ≤ R := by
      have := hw ((len + (m - len)) * 232) (by simp [DataW.weights, Try.underlying37, h80])
      rw [show len + (m - len) = cap by omega] at this
      exact this
    have hwi : ∀ i, i < len → ∀ n ∈ (D i).weights Try.prog 55, n ≤ R := fun i hil n hn => hw n (by
      simp only [DataW.weights, Try.underlying37]
      refine List.mem_cons_of_mem _ (List.mem_append_left _ (weightsAll_mem (d := D i) ?_ n hn))
      exact List.mem_map.2 ⟨i, by simpa using hil, rfl⟩)
    obtain ⟨b, off, spot⟩ := x
    have key : ∀ i, i < len → ∃ ac : Ac, (∀ j u, (acCells ac)[j]? = some u → W.cell? (((⟨b, off, spot⟩ : Addr).add (i * 28)).add j) = some u) ∧ ac.loan.size ≤ R := fun i hil => by
      obtain ⟨cs', hc, ht⟩ := hi i (by omega)
      rw [hone] at hc
      obtain ⟨_, _, hat⟩ := World.cells?_some hc
      obtain ⟨ac, hac, h2⟩ := cells_act2 ht (hwi i hil)
      unfold Ac.val at hac
      injection hac with hac
      refine ⟨ac, fun j u hu => ?_, h2⟩
      rw [← hac] at hu
      have hu2 : cs'[j]? = some u := by simpa using hu
      have hj := (List.getElem?_eq_some_iff.1 hu2).1
      have h1 := hat j (by omega)
      rw [hu2] at h1
      exact h1
    have hspot : 0 < len → spot = none := fun h0 => by
      obtain ⟨ac, hac, _⟩ := key 0 (by omega)
      have h1 := hac 0 _ (show (acCells ac)[0]? = some (.int .i64 ac.kind) by unfold acCells; rw [Array.append_assoc, Array.getElem?_append_left (by simp)]; rfl)
      simpa [Addr.add] using World.cell?_spot h1
    have hrow : ∀ i, i < len → ∃ ac : Ac, spot = none ∧ (∀ j u, (acCells ac)[j]? = some u → W.cell? ⟨b, off + i * 28 + j, none⟩ = some u) ∧ ac.loan.size ≤ R := fun i hil => by
      obtain ⟨ac, hac, h2⟩ := key i hil
      obtain rfl := hspot (by omega)
      refine ⟨ac, rfl, fun j u hu => ?_, h2⟩
      have h1 := hac j u hu
      simp only [add_plain] at h1
      exact h1
    obtain ⟨acs, hpl, hps⟩ := exists_list len _ hrow
    refine ⟨acs, ⟨hpl, fun hn => ⟨b, off, ?_, fun j hj => (hps j hj).2.1⟩⟩, hl, hcap, fun e he => ?_⟩
    · rw [(hps 0 (by omega)).1]
    · obtain ⟨j, hj, rfl⟩ := List.getElem_of_mem he
      exact (hps j hj).2.2
end
end Go.Proofs.Ytpmbbhefcejjlaa
