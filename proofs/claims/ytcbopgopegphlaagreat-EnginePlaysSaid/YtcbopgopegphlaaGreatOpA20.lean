/-
  Calls of an engine that come in. No statement is proved here.
-/
import Derived.Test.YtcbopgopegphlaaGreatAcO
import Derived.Test.YtcbopgopegphlaaGreatEnActs
namespace Go.Proofs.YtcbopgopegphlaaGreat
open Go.ChangeShapes Go.WideShapes Go.ChangeAt Go.RowKit Go.Deep
set_option linter.unusedVariables false
section
variable {H : Type} {enc : TypeId × Value → H} {R : Nat}
set_option maxRecDepth 100000 in
theorem cells_act {W : World} {fuel : Nat} {cs : List Value} {x : DataW H × List MemPlace} (h : DataW.trod enc Tryz.prog W 0 (fun _ => true) true fuel 41 cs = some x) (hw : ∀ n ∈ x.1.weights Tryz.prog 41, n ≤ R) :
    ∃ a : ActV, cs = (actCells a).toList ∧ a.e.loan.size ≤ R := by
  obtain ⟨xs, n, _, hx, hlen, hxl, hg⟩ := DataW.trod_struct Tryz.underlying41 h
  have hs : ∀ j, j < 4 → (xs[j]?).isSome = true := fun j hj => by
    rw [List.getElem?_eq_getElem (by rw [hxl]; exact hj)]; rfl
  have hc : Tryz.prog.cellsOf 41 = 9 := by kernel_rfl
  have k1 : Tryz.prog.cellsOf 3 = 1 := by kernel_rfl
  have k6 : Tryz.prog.cellsOf 39 = 6 := by kernel_rfl
  rw [hc] at hlen
  have g0 := hg 0 _ rfl
  have g1 := hg 1 _ rfl
  have g2 := hg 2 _ rfl
  have g3 := hg 3 _ rfl
  clear hg h
  match cs, hlen with
  | [c0, c1, c2, c3, c4, c5, c6, c7, c8], _ =>
    have g0 : DataW.trod enc Tryz.prog W 0 (fun _ => true) true n 3 [c0] = xs[0]? := by have h : DataW.trod enc Tryz.prog W 0 (fun _ => true) true n 3 (List.take (Tryz.prog.cellsOf 3) (List.drop 0 [c0, c1, c2, c3, c4, c5, c6, c7, c8])) = xs[0]? := g0; rw [k1] at h; exact h
    have g1 : DataW.trod enc Tryz.prog W 0 (fun _ => true) true n 39 [c1, c2, c3, c4, c5, c6] = xs[1]? := by have h : DataW.trod enc Tryz.prog W 0 (fun _ => true) true n 39 (List.take (Tryz.prog.cellsOf 39) (List.drop 1 [c0, c1, c2, c3, c4, c5, c6, c7, c8])) = xs[1]? := g1; rw [k6] at h; exact h
    have g2 : DataW.trod enc Tryz.prog W 0 (fun _ => true) true n 3 [c7] = xs[2]? := by have h : DataW.trod enc Tryz.prog W 0 (fun _ => true) true n 3 (List.take (Tryz.prog.cellsOf 3) (List.drop 7 [c0, c1, c2, c3, c4, c5, c6, c7, c8])) = xs[2]? := g2; rw [k1] at h; exact h
    have g3 : DataW.trod enc Tryz.prog W 0 (fun _ => true) true n 3 [c8] = xs[3]? := by have h : DataW.trod enc Tryz.prog W 0 (fun _ => true) true n 3 (List.take (Tryz.prog.cellsOf 3) (List.drop 8 [c0, c1, c2, c3, c4, c5, c6, c7, c8])) = xs[3]? := g3; rw [k1] at h; exact h
    obtain ⟨y0, e0⟩ := Option.isSome_iff_exists.1 (hs 0 (by omega))
    obtain ⟨y1, e1⟩ := Option.isSome_iff_exists.1 (hs 1 (by omega))
    obtain ⟨y2, e2⟩ := Option.isSome_iff_exists.1 (hs 2 (by omega))
    obtain ⟨y3, e3⟩ := Option.isSome_iff_exists.1 (hs 3 (by omega))
    rw [hx] at hw
    have w1 := weights_part Tryz.underlying41 hw (j := 1) (t' := 39) (d := y1.1) rfl (by rw [List.getElem?_map, e1]; rfl)
    rw [e0] at g0
    rw [e1] at g1
    rw [e2] at g2
    rw [e3] at g3
    obtain ⟨m0, i0, _, _⟩ := DataW.trod_int Tryz.underlying3 g0
    obtain ⟨ev, i1, s1, _⟩ := cells_ev g1 w1
    obtain ⟨m2, i2, _, _⟩ := DataW.trod_int Tryz.underlying3 g2
    obtain ⟨m3, i3, _, _⟩ := DataW.trod_int Tryz.underlying3 g3
    injection i0 with i0
    injection i2 with i2
    injection i3 with i3
    subst i0 i2 i3
    refine ⟨⟨m0, ev, m2, m3⟩, ?_, s1⟩
    have i4 : [c1, c2, c3, c4, c5, c6] = [.int .i64 ev.seq, .string ev.loan, .int .i64 ev.day, .int .i64 ev.kind, .int .i64 ev.amount, .int .i64 ev.ref] := i1
    simp only [List.cons.injEq, and_true] at i4
    obtain ⟨rfl, rfl, rfl, rfl, rfl, rfl⟩ := i4
    rfl
set_option maxRecDepth 100000 in
theorem open_acts {W : World} {a : Option Addr} {len cap : Nat} {d : DataW H} {p : List MemPlace} (h0 : DataW.Trod enc Tryz.prog W 0 (fun _ => true) true 26 (.slice a len cap) d p) (hw : ∀ n ∈ d.weights Tryz.prog 26, n ≤ R) :
    ∃ l : List ActV, RdA W a len l ∧ len ≤ cap ∧ cap * 80 ≤ R ∧ (∀ e ∈ l, e.e.loan.size ≤ R) := by
  obtain ⟨fuel, hf⟩ := h0
  have hone : Tryz.prog.cellsOf 41 = 9 := by kernel_rfl
  have h80 : Tryz.prog.bytesOf 41 = 80 := by kernel_rfl
  rcases open_slice Tryz.underlying26 hf with ⟨hcs, hx⟩ | ⟨x, l, c, m, n, D, Pl, hcs, _, hl, hm, hmm, hd, hi⟩
  · simp [Value.cells] at hcs
    obtain ⟨rfl, rfl, rfl⟩ := hcs
    exact ⟨[], ⟨rfl, fun h => by omega⟩, Nat.le_refl _, by omega, fun e he => by cases he⟩
  · simp [Value.cells] at hcs
    obtain ⟨rfl, rfl, rfl⟩ := hcs
    simp only [if_true] at hmm
    have hd1 : d = .slice ((List.range len).map D) ((List.range (m - len)).map fun j => D (len + j)) := by injection hd
    rw [hd1] at hw
    have hcap : cap * 80 ≤ R := by
      have := hw ((len + (m - len)) * 80) (by simp [DataW.weights, Tryz.underlying26, h80])
      rw [show len + (m - len) = cap by omega] at this
      exact this
    have hwi : ∀ i, i < len → ∀ n ∈ (D i).weights Tryz.prog 41, n ≤ R := fun i hil n hn => hw n (by
      simp only [DataW.weights, Tryz.underlying26]
      refine List.mem_cons_of_mem _ (List.mem_append_left _ (weightsAll_mem (d := D i) ?_ n hn))
      exact List.mem_map.2 ⟨i, by simpa using hil, rfl⟩)
    obtain ⟨b, off, spot⟩ := x
    have key : ∀ i, i < len → ∃ e : ActV, (∀ j u, (actCells e)[j]? = some u → W.cell? (((⟨b, off, spot⟩ : Addr).add (i * 9)).add j) = some u) ∧ e.e.loan.size ≤ R := fun i hil => by
      obtain ⟨cs', hc, ht⟩ := hi i (by omega)
      rw [hone] at hc
      obtain ⟨_, _, hat⟩ := World.cells?_some hc
      obtain ⟨e, hs, h2⟩ := cells_act ht (hwi i hil)
      refine ⟨e, fun j u hu => ?_, h2⟩
      have hu2 : cs'[j]? = some u := by rw [hs]; simpa using hu
      have hj := (List.getElem?_eq_some_iff.1 hu2).1
      have h1 := hat j (by rw [hs] at hj; simpa [actCells] using hj)
      rw [hu2] at h1
      exact h1
    have hspot : 0 < len → spot = none := fun h0 => by
      obtain ⟨e, hs, _⟩ := key 0 (by omega)
      have h1 := hs 0 _ (show (actCells e)[0]? = some (.int .i64 e.kind) from rfl)
      simpa [Addr.add] using World.cell?_spot h1
    have hrow : ∀ i, i < len → ∃ e : ActV, spot = none ∧ (∀ j u, (actCells e)[j]? = some u → W.cell? ⟨b, off + i * 9 + j, none⟩ = some u) ∧ e.e.loan.size ≤ R := fun i hil => by
      obtain ⟨e, hs, h2⟩ := key i hil
      obtain rfl := hspot (by omega)
      refine ⟨e, rfl, fun j u hu => ?_, h2⟩
      have h1 := hs j u hu
      simp only [add_plain] at h1
      exact h1
    obtain ⟨es, hpl, hps⟩ := exists_list len _ hrow
    refine ⟨es, ⟨hpl, fun hn => ⟨b, off, ?_, fun j hj => (hps j hj).2.1⟩⟩, hl, hcap, fun e he => ?_⟩
    · rw [(hps 0 (by omega)).1]
    · obtain ⟨j, hj, rfl⟩ := List.getElem_of_mem he
      exact (hps j hj).2.2
end
end Go.Proofs.YtcbopgopegphlaaGreat
