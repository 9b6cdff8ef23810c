/-
  What an argument that came in gives the walk: products, events, what is owed. No statement is proved here.
-/
import Derived.Test.YtcbopgopegphlaaGreatAcX
import Derived.ProofKit
import Derived.OpenShut
import Derived.ShutString
import Derived.ChangeOld
import Derived.SizedLaws
import Derived.JoinedCond
import Derived.Deep.CondSized
import Derived.Deep.Fields
import Derived.Deep.Slices
import Derived.ChangeArms
namespace Go.Proofs.YtcbopgopegphlaaGreat
open Go.ChangeShapes Go.WideShapes Go.ChangeAt Go.RowKit Go.Deep
set_option linter.unusedVariables false
set_option linter.constructorNameAsVariable false
set_option maxRecDepth 100000

theorem own : ownKnob Tryz.prog.godebug = none := by kernel_rfl
theorem laidOut : laidOutB Tryz.prog = true := by kernel_rfl
theorem exists_list {α : Type} (n : Nat) (Q : Nat → α → Prop) (h : ∀ i, i < n → ∃ p, Q i p) : ∃ ps : List α, ps.length = n ∧ ∀ (i : Nat) (hi : i < ps.length), Q i ps[i] := by
  induction n with
  | zero => exact ⟨[], rfl, fun i hi => by simp at hi⟩
  | succ n ih =>
    obtain ⟨ps, hl, hp⟩ := ih fun i hi => h i (by omega)
    obtain ⟨p, hq⟩ := h n (by omega)
    refine ⟨ps ++ [p], by simp [hl], fun i hi => ?_⟩
    by_cases hlt : i < ps.length
    · rw [List.getElem_append_left hlt]; exact hp i hlt
    · have e : i = ps.length := by simp at hi; omega
      subst e
      rw [List.getElem_append_right (by omega)]
      simpa [hl] using hq
section
variable {H : Type} {P : Program}
theorem weightsAll_mem {e : TypeId} : ∀ {l : List (DataW H)} {d : DataW H}, d ∈ l → ∀ n ∈ d.weights P e, n ∈ DataW.weightsAll P e l
  | x :: l, d, h, n, hn => by
    simp only [DataW.weightsAll, List.mem_append]
    rcases List.mem_cons.1 h with rfl | h
    · exact Or.inl hn
    · exact Or.inr (weightsAll_mem h n hn)
theorem weights_part {t t' : TypeId} {fs : Array Field} {ds : List (DataW H)} {d : DataW H} {j R : Nat} (hu : P.underlying t = some (.struct fs)) (h : ∀ n ∈ (DataW.agg ds).weights P t, n ≤ R)
    (ht : (fs.toList.map (·.type))[j]? = some t') (hd : ds[j]? = some d) : ∀ n ∈ d.weights P t', n ≤ R := fun n hn => h n (by
  simp only [DataW.weights, hu]
  exact DataW.weights_mem_each ht hd n hn)
theorem weights_arg {ts : List TypeId} {ds : List (DataW H)} (h : (DataW.weightsEach P ts ds).all (· ≤ reachBytes) = true) {j : Nat} {t : TypeId} {d : DataW H} (ht : ts[j]? = some t) (hd : ds[j]? = some d) : ∀ n ∈ d.weights P t, n ≤ 140737488351232 := fun n hn => by
  have := List.all_eq_true.1 h n (DataW.weights_mem_each ht hd n hn)
  exact of_decide_eq_true this
end
section
variable {H : Type} {enc : TypeId × Value → H} {R : Nat}
theorem open_row {W : World} {fuel : Nat} {cs : List Value} {x : DataW H × List MemPlace} (hf : DataW.trod enc Tryz.prog W 0 (fun _ => true) true fuel 23 cs = some x) (hw : ∀ n ∈ x.1.weights Tryz.prog 23, n ≤ R) :
    ∃ a len cap zs, cs = [.slice a len cap] ∧ RdI W a len zs ∧ len ≤ cap ∧ cap * 8 ≤ R := by
  have h8 : Tryz.prog.bytesOf 3 = 8 := by kernel_rfl
  rcases open_ints Tryz.underlying23 Tryz.underlying3 (by kernel_rfl) hf with ⟨rfl, hx⟩ | ⟨x, l, c, zs, hcs, _, hl, hm, hz, hd, hcell, hwz⟩
  · exact ⟨none, 0, 0, [], rfl, ⟨rfl, fun h => by simp at h⟩, Nat.le_refl _, by simp⟩
  · simp only [if_true] at hz
    have hb := hw ((((lits (H := H) .i64 (zs.take l)).length + (lits (H := H) .i64 (zs.drop l)).length)) * 8) (by rw [hd]; simp [DataW.weights, Tryz.underlying23, h8])
    simp [lits] at hb
    refine ⟨some x, l, c, zs.take l, hcs, ?_, hl, by rw [hz] at hb; omega⟩
    obtain ⟨b, off, spot⟩ := x
    refine ⟨by simp; omega, fun h0 => ?_⟩
    have h1 : 0 < l := by simp at h0; omega
    have hspot : spot = none := by simpa [Addr.add] using World.cell?_spot (hcell 0 (by omega))
    subst hspot
    refine ⟨b, off, rfl, fun j u hu => ?_⟩
    have hj := (List.getElem?_eq_some_iff.1 hu).1
    have hj' : j < l := by simp at hj; omega
    have hc := hcell j (by omega)
    rw [add_plain] at hc
    rw [hc]
    have e : zs.getD j 0 = zs[j]'(by omega) := by simp [List.getD, List.getElem?_eq_getElem (show j < zs.length by omega)]
    rw [e]
    rw [List.getElem?_eq_getElem hj] at hu
    simpa using hu
theorem cells_prod {W : World} {fuel : Nat} {cs : List Value} {x : DataW H × List MemPlace} (h : DataW.trod enc Tryz.prog W 0 (fun _ => true) true fuel 25 cs = some x) (hw : ∀ n ∈ x.1.weights Tryz.prog 25, n ≤ R) :
    ∃ (p : Prod) (A : Option Addr) (n c : Nat), Value.agg cs.toArray = p.val (.slice A n c) ∧ RdI W A n p.bounds ∧ p.name.size ≤ R ∧ n ≤ c ∧ c * 8 ≤ R := by
  obtain ⟨xs, n, _, hx, hlen, hxl, hg⟩ := DataW.trod_struct Tryz.underlying25 h
  have hs : ∀ j, j < 7 → (xs[j]?).isSome = true := fun j hj => by
    rw [List.getElem?_eq_getElem (by rw [hxl]; exact hj)]; rfl
  have hc : Tryz.prog.cellsOf 25 = 9 := by kernel_rfl
  have k1 : Tryz.prog.cellsOf 3 = 1 := by kernel_rfl
  have k2 : Tryz.prog.cellsOf 9 = 1 := by kernel_rfl
  have k3 : Tryz.prog.cellsOf 2 = 1 := by kernel_rfl
  have k4 : Tryz.prog.cellsOf 22 = 3 := by kernel_rfl
  have k5 : Tryz.prog.cellsOf 23 = 1 := by kernel_rfl
  rw [hc] at hlen
  have g0 := hg 0 _ rfl
  have g1 := hg 1 _ rfl
  have g2 := hg 2 _ rfl
  have g3 := hg 3 _ rfl
  have g4 := hg 4 _ rfl
  have g5 := hg 5 _ rfl
  have g6 := hg 6 _ rfl
  clear hg h
  match cs, hlen with
  | [c0, c1, c2, c3, c4, c5, c6, c7, c8], _ =>
    have g0 : DataW.trod enc Tryz.prog W 0 (fun _ => true) true n 9 [c0] = xs[0]? := by have h : DataW.trod enc Tryz.prog W 0 (fun _ => true) true n 9 (List.take (Tryz.prog.cellsOf 9) (List.drop 0 [c0, c1, c2, c3, c4, c5, c6, c7, c8])) = xs[0]? := g0; rw [k2] at h; exact h
    have g1 : DataW.trod enc Tryz.prog W 0 (fun _ => true) true n 2 [c1] = xs[1]? := by have h : DataW.trod enc Tryz.prog W 0 (fun _ => true) true n 2 (List.take (Tryz.prog.cellsOf 2) (List.drop 1 [c0, c1, c2, c3, c4, c5, c6, c7, c8])) = xs[1]? := g1; rw [k3] at h; exact h
    have g2 : DataW.trod enc Tryz.prog W 0 (fun _ => true) true n 3 [c2] = xs[2]? := by have h : DataW.trod enc Tryz.prog W 0 (fun _ => true) true n 3 (List.take (Tryz.prog.cellsOf 3) (List.drop 2 [c0, c1, c2, c3, c4, c5, c6, c7, c8])) = xs[2]? := g2; rw [k1] at h; exact h
    have g3 : DataW.trod enc Tryz.prog W 0 (fun _ => true) true n 3 [c3] = xs[3]? := by have h : DataW.trod enc Tryz.prog W 0 (fun _ => true) true n 3 (List.take (Tryz.prog.cellsOf 3) (List.drop 3 [c0, c1, c2, c3, c4, c5, c6, c7, c8])) = xs[3]? := g3; rw [k1] at h; exact h
    have g4 : DataW.trod enc Tryz.prog W 0 (fun _ => true) true n 3 [c4] = xs[4]? := by have h : DataW.trod enc Tryz.prog W 0 (fun _ => true) true n 3 (List.take (Tryz.prog.cellsOf 3) (List.drop 4 [c0, c1, c2, c3, c4, c5, c6, c7, c8])) = xs[4]? := g4; rw [k1] at h; exact h
    have g5 : DataW.trod enc Tryz.prog W 0 (fun _ => true) true n 22 [c5, c6, c7] = xs[5]? := by have h : DataW.trod enc Tryz.prog W 0 (fun _ => true) true n 22 (List.take (Tryz.prog.cellsOf 22) (List.drop 5 [c0, c1, c2, c3, c4, c5, c6, c7, c8])) = xs[5]? := g5; rw [k4] at h; exact h
    have g6 : DataW.trod enc Tryz.prog W 0 (fun _ => true) true n 23 [c8] = xs[6]? := by have h : DataW.trod enc Tryz.prog W 0 (fun _ => true) true n 23 (List.take (Tryz.prog.cellsOf 23) (List.drop 8 [c0, c1, c2, c3, c4, c5, c6, c7, c8])) = xs[6]? := g6; rw [k5] at h; exact h
    obtain ⟨y0, e0⟩ := Option.isSome_iff_exists.1 (hs 0 (by omega))
    obtain ⟨y1, e1⟩ := Option.isSome_iff_exists.1 (hs 1 (by omega))
    obtain ⟨y2, e2⟩ := Option.isSome_iff_exists.1 (hs 2 (by omega))
    obtain ⟨y3, e3⟩ := Option.isSome_iff_exists.1 (hs 3 (by omega))
    obtain ⟨y4, e4⟩ := Option.isSome_iff_exists.1 (hs 4 (by omega))
    obtain ⟨y5, e5⟩ := Option.isSome_iff_exists.1 (hs 5 (by omega))
    obtain ⟨y6, e6⟩ := Option.isSome_iff_exists.1 (hs 6 (by omega))
    rw [hx] at hw
    have w0 := weights_part Tryz.underlying25 hw (j := 0) (t' := 9) (d := y0.1) rfl (by rw [List.getElem?_map, e0]; rfl)
    have w6 := weights_part Tryz.underlying25 hw (j := 6) (t' := 23) (d := y6.1) rfl (by rw [List.getElem?_map, e6]; rfl)
    rw [e0] at g0
    rw [e1] at g1
    rw [e2] at g2
    rw [e3] at g3
    rw [e4] at g4
    rw [e5] at g5
    rw [e6] at g6
    obtain ⟨m0, i0, z0, _⟩ := DataW.trod_string Tryz.underlying9 g0
    obtain ⟨m1, i1, _, _⟩ := DataW.trod_int Tryz.underlying2 g1
    obtain ⟨m2, i2, _, _⟩ := DataW.trod_int Tryz.underlying3 g2
    obtain ⟨m3, i3, _, _⟩ := DataW.trod_int Tryz.underlying3 g3
    obtain ⟨m4, i4, _, _⟩ := DataW.trod_int Tryz.underlying3 g4
    obtain ⟨us, m, _, _, _, hul, hu⟩ := DataW.trod_array Tryz.underlying22 g5
    have hus : ∀ j, j < 3 → (us[j]?).isSome = true := fun j hj => by
      rw [List.getElem?_eq_getElem (by rw [hul]; exact hj)]; rfl
    have u0 := hu 0 (by omega)
    have u1 := hu 1 (by omega)
    have u2 := hu 2 (by omega)
    rw [k1] at u0 u1 u2
    obtain ⟨v0, d0⟩ := Option.isSome_iff_exists.1 (hus 0 (by omega))
    obtain ⟨v1, d1⟩ := Option.isSome_iff_exists.1 (hus 1 (by omega))
    obtain ⟨v2, d2⟩ := Option.isSome_iff_exists.1 (hus 2 (by omega))
    rw [d0] at u0
    rw [d1] at u1
    rw [d2] at u2
    obtain ⟨n0, j0, _, _⟩ := DataW.trod_int Tryz.underlying3 u0
    obtain ⟨n1, j1, _, _⟩ := DataW.trod_int Tryz.underlying3 u1
    obtain ⟨n2, j2, _, _⟩ := DataW.trod_int Tryz.underlying3 u2
    obtain ⟨A, len, cap, zs, j6, r6, l6, b6⟩ := open_row g6 w6
    rw [z0] at w0
    have s0 : m0.size ≤ R := w0 m0.size (by simp only [DataW.weights, List.mem_singleton, Array.length_toList]; rfl)
    simp at j0 j1 j2
    injection i0 with i0
    injection i1 with i1
    injection i2 with i2
    injection i3 with i3
    injection i4 with i4
    injection j6 with j6
    subst i0 i1 i2 i3 i4 j6 j0 j1 j2
    exact ⟨⟨m0, m1, m2, m3, m4, n0, n1, n2, zs⟩, A, len, cap, rfl, r6, s0, l6, b6⟩
theorem open_prod {W : World} {r : Reach} {b0 : Nat} {v : Value} {d : DataW H} {p : List MemPlace} (hv : Value.okWide Tryz.prog W r b0 25 v) (h : DataW.Trod enc Tryz.prog W 0 (fun _ => true) true 25 v d p) (hw : ∀ n ∈ d.weights Tryz.prog 25, n ≤ R) :
    ∃ (p : Prod) (A : Option Addr) (n c : Nat), v = p.val (.slice A n c) ∧ RdI W A n p.bounds ∧ p.name.size ≤ R ∧ n ≤ c ∧ c * 8 ≤ R := by
  obtain ⟨cs, rfl, _⟩ := okWide_struct Tryz.underlying25 hv
  obtain ⟨fuel, hf⟩ := h
  obtain ⟨q, A, n, c, hs, h2⟩ := cells_prod hf hw
  exact ⟨q, A, n, c, by simpa [Value.cells] using hs, h2⟩
theorem cells_ev {W : World} {fuel : Nat} {cs : List Value} {x : DataW H × List MemPlace} (h : DataW.trod enc Tryz.prog W 0 (fun _ => true) true fuel 39 cs = some x) (hw : ∀ n ∈ x.1.weights Tryz.prog 39, n ≤ R) :
    ∃ e : Ev, cs = (evCells e).toList ∧ e.loan.size ≤ R ∧ (-9223372036854775808 ≤ e.day ∧ e.day ≤ 9223372036854775807) ∧ (-9223372036854775808 ≤ e.seq ∧ e.seq ≤ 9223372036854775807) := by
  obtain ⟨xs, n, _, hx, hlen, hxl, hg⟩ := DataW.trod_struct Tryz.underlying39 h
  have hs : ∀ j, j < 6 → (xs[j]?).isSome = true := fun j hj => by
    rw [List.getElem?_eq_getElem (by rw [hxl]; exact hj)]; rfl
  have hc : Tryz.prog.cellsOf 39 = 6 := by kernel_rfl
  have k1 : Tryz.prog.cellsOf 3 = 1 := by kernel_rfl
  have k2 : Tryz.prog.cellsOf 9 = 1 := by kernel_rfl
  have k3 : Tryz.prog.cellsOf 2 = 1 := by kernel_rfl
  rw [hc] at hlen
  have g0 := hg 0 _ rfl
  have g1 := hg 1 _ rfl
  have g2 := hg 2 _ rfl
  have g3 := hg 3 _ rfl
  have g4 := hg 4 _ rfl
  have g5 := hg 5 _ rfl
  clear hg h
  match cs, hlen with
  | [c0, c1, c2, c3, c4, c5], _ =>
    have g0 : DataW.trod enc Tryz.prog W 0 (fun _ => true) true n 3 [c0] = xs[0]? := by have h : DataW.trod enc Tryz.prog W 0 (fun _ => true) true n 3 (List.take (Tryz.prog.cellsOf 3) (List.drop 0 [c0, c1, c2, c3, c4, c5])) = xs[0]? := g0; rw [k1] at h; exact h
    have g1 : DataW.trod enc Tryz.prog W 0 (fun _ => true) true n 9 [c1] = xs[1]? := by have h : DataW.trod enc Tryz.prog W 0 (fun _ => true) true n 9 (List.take (Tryz.prog.cellsOf 9) (List.drop 1 [c0, c1, c2, c3, c4, c5])) = xs[1]? := g1; rw [k2] at h; exact h
    have g2 : DataW.trod enc Tryz.prog W 0 (fun _ => true) true n 3 [c2] = xs[2]? := by have h : DataW.trod enc Tryz.prog W 0 (fun _ => true) true n 3 (List.take (Tryz.prog.cellsOf 3) (List.drop 2 [c0, c1, c2, c3, c4, c5])) = xs[2]? := g2; rw [k1] at h; exact h
    have g3 : DataW.trod enc Tryz.prog W 0 (fun _ => true) true n 3 [c3] = xs[3]? := by have h : DataW.trod enc Tryz.prog W 0 (fun _ => true) true n 3 (List.take (Tryz.prog.cellsOf 3) (List.drop 3 [c0, c1, c2, c3, c4, c5])) = xs[3]? := g3; rw [k1] at h; exact h
    have g4 : DataW.trod enc Tryz.prog W 0 (fun _ => true) true n 2 [c4] = xs[4]? := by have h : DataW.trod enc Tryz.prog W 0 (fun _ => true) true n 2 (List.take (Tryz.prog.cellsOf 2) (List.drop 4 [c0, c1, c2, c3, c4, c5])) = xs[4]? := g4; rw [k3] at h; exact h
    have g5 : DataW.trod enc Tryz.prog W 0 (fun _ => true) true n 3 [c5] = xs[5]? := by have h : DataW.trod enc Tryz.prog W 0 (fun _ => true) true n 3 (List.take (Tryz.prog.cellsOf 3) (List.drop 5 [c0, c1, c2, c3, c4, c5])) = xs[5]? := g5; rw [k1] at h; exact h
    obtain ⟨y0, e0⟩ := Option.isSome_iff_exists.1 (hs 0 (by omega))
    obtain ⟨y1, e1⟩ := Option.isSome_iff_exists.1 (hs 1 (by omega))
    obtain ⟨y2, e2⟩ := Option.isSome_iff_exists.1 (hs 2 (by omega))
    obtain ⟨y3, e3⟩ := Option.isSome_iff_exists.1 (hs 3 (by omega))
    obtain ⟨y4, e4⟩ := Option.isSome_iff_exists.1 (hs 4 (by omega))
    obtain ⟨y5, e5⟩ := Option.isSome_iff_exists.1 (hs 5 (by omega))
    rw [hx] at hw
    have w1 := weights_part Tryz.underlying39 hw (j := 1) (t' := 9) (d := y1.1) rfl (by rw [List.getElem?_map, e1]; rfl)
    rw [e0] at g0
    rw [e1] at g1
    rw [e2] at g2
    rw [e3] at g3
    rw [e4] at g4
    rw [e5] at g5
    obtain ⟨m0, i0, _, q0⟩ := DataW.trod_int Tryz.underlying3 g0
    obtain ⟨m1, i1, z1, _⟩ := DataW.trod_string Tryz.underlying9 g1
    obtain ⟨m2, i2, _, q2⟩ := DataW.trod_int Tryz.underlying3 g2
    obtain ⟨m3, i3, _, _⟩ := DataW.trod_int Tryz.underlying3 g3
    obtain ⟨m4, i4, _, _⟩ := DataW.trod_int Tryz.underlying2 g4
    obtain ⟨m5, i5, _, _⟩ := DataW.trod_int Tryz.underlying3 g5
    rw [z1] at w1
    have s1 : m1.size ≤ R := w1 m1.size (by simp only [DataW.weights, List.mem_singleton, Array.length_toList]; rfl)
    injection i0 with i0
    injection i1 with i1
    injection i2 with i2
    injection i3 with i3
    injection i4 with i4
    injection i5 with i5
    subst i0 i1 i2 i3 i4 i5
    exact ⟨⟨m0, m1, m2, m3, m4, m5⟩, rfl, s1, by simpa [Lit.wf, IntKind.min, IntKind.max, IntKind.signed, IntKind.bits] using q2, by simpa [Lit.wf, IntKind.min, IntKind.max, IntKind.signed, IntKind.bits] using q0⟩
theorem open_evs {W : World} {a : Option Addr} {len cap : Nat} {d : DataW H} {p : List MemPlace} (h0 : DataW.Trod enc Tryz.prog W 0 (fun _ => true) true 35 (.slice a len cap) d p) (hw : ∀ n ∈ d.weights Tryz.prog 35, n ≤ R) :
    ∃ l : List Ev, RdE W a len l ∧ len ≤ cap ∧ cap * 56 ≤ R ∧ (∀ e ∈ l, e.loan.size ≤ R ∧ (-9223372036854775808 ≤ e.day ∧ e.day ≤ 9223372036854775807) ∧ (-9223372036854775808 ≤ e.seq ∧ e.seq ≤ 9223372036854775807)) := by
  obtain ⟨fuel, hf⟩ := h0
  have hone : Tryz.prog.cellsOf 39 = 6 := by kernel_rfl
  have h56 : Tryz.prog.bytesOf 39 = 56 := by kernel_rfl
  rcases open_slice Tryz.underlying35 hf with ⟨hcs, hx⟩ | ⟨x, l, c, m, n, D, Pl, hcs, _, hl, hm, hmm, hd, hi⟩
  · simp [Value.cells] at hcs
    obtain ⟨rfl, rfl, rfl⟩ := hcs
    exact ⟨[], ⟨rfl, fun h => by omega⟩, Nat.le_refl _, by omega, fun e he => by cases he⟩
  · simp [Value.cells] at hcs
    obtain ⟨rfl, rfl, rfl⟩ := hcs
    simp only [if_true] at hmm
    have hd1 : d = .slice ((List.range len).map D) ((List.range (m - len)).map fun j => D (len + j)) := by injection hd
    rw [hd1] at hw
    have hcap : cap * 56 ≤ R := by
      have := hw ((len + (m - len)) * 56) (by simp [DataW.weights, Tryz.underlying35, h56])
      rw [show len + (m - len) = cap by omega] at this
      exact this
    have hwi : ∀ i, i < len → ∀ n ∈ (D i).weights Tryz.prog 39, n ≤ R := fun i hil n hn => hw n (by
      simp only [DataW.weights, Tryz.underlying35]
      refine List.mem_cons_of_mem _ (List.mem_append_left _ (weightsAll_mem (d := D i) ?_ n hn))
      exact List.mem_map.2 ⟨i, by simpa using hil, rfl⟩)
    obtain ⟨b, off, spot⟩ := x
    have key : ∀ i, i < len → ∃ e : Ev, (∀ j u, (evCells e)[j]? = some u → W.cell? (((⟨b, off, spot⟩ : Addr).add (i * 6)).add j) = some u) ∧ e.loan.size ≤ R ∧ (-9223372036854775808 ≤ e.day ∧ e.day ≤ 9223372036854775807) ∧ (-9223372036854775808 ≤ e.seq ∧ e.seq ≤ 9223372036854775807) := fun i hil => by
      obtain ⟨cs', hc, ht⟩ := hi i (by omega)
      rw [hone] at hc
      obtain ⟨_, _, hat⟩ := World.cells?_some hc
      obtain ⟨e, hs, h2⟩ := cells_ev ht (hwi i hil)
      refine ⟨e, fun j u hu => ?_, h2⟩
      have hu2 : cs'[j]? = some u := by rw [hs]; simpa using hu
      have hj := (List.getElem?_eq_some_iff.1 hu2).1
      have h1 := hat j (by rw [hs] at hj; simpa [evCells] using hj)
      rw [hu2] at h1
      exact h1
    have hspot : 0 < len → spot = none := fun h0 => by
      obtain ⟨e, hs, _⟩ := key 0 (by omega)
      have h1 := hs 0 _ (show (evCells e)[0]? = some (.int .i64 e.seq) from rfl)
      simpa [Addr.add] using World.cell?_spot h1
    have hrow : ∀ i, i < len → ∃ e : Ev, spot = none ∧ (∀ j u, (evCells e)[j]? = some u → W.cell? ⟨b, off + i * 6 + j, none⟩ = some u) ∧ e.loan.size ≤ R ∧ (-9223372036854775808 ≤ e.day ∧ e.day ≤ 9223372036854775807) ∧ (-9223372036854775808 ≤ e.seq ∧ e.seq ≤ 9223372036854775807) := fun i hil => by
      obtain ⟨e, hs, h2⟩ := key i hil
      obtain rfl := hspot (by omega)
      refine ⟨e, rfl, fun j u hu => ?_, h2⟩
      have h1 := hs j u hu
      simp only [add_plain] at h1
      exact h1
    obtain ⟨es, hpl, hps⟩ := exists_list len _ hrow
    refine ⟨es, ⟨hpl, fun hn => ⟨b, off, ?_, fun j hj => (hps j hj).2.1⟩⟩, hl, hcap, fun e he => ?_⟩
    · rw [(hps 0 (by omega)).1]
    · obtain ⟨j, hj, rfl⟩ := List.getElem_of_mem he
      exact (hps j hj).2.2
end
end Go.Proofs.YtcbopgopegphlaaGreat
