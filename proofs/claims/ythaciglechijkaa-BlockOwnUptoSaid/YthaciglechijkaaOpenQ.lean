/-
  What an argument that came in gives the walk: slices of pairs. No statement is proved here.
-/
import Derived.Test.YthaciglechijkaaOpen
import Derived.Test.YthaciglechijkaaBlkA
import Derived.Deep.Slices
import Derived.ChangeArms
namespace Go.Proofs.Ythaciglechijkaa
open Go.ChangeShapes Go.WideShapes Go.ChangeAt Go.RowKit Go.Deep
set_option linter.unusedVariables false

theorem exists_list {α : Type} (n : Nat) (Q : Nat → α → Prop) (h : ∀ i, i < n → ∃ p, Q i p) : ∃ ps : List α, ps.length = n ∧ ∀ (i : Nat) (hi : i < ps.length), Q i ps[i] := by
  induction n with
  | zero => exact ⟨[], rfl, fun i hi => by simp at hi⟩
  | succ n ih =>
    obtain ⟨ps, hl, hp⟩ := ih fun i hi => h i (by omega)
    obtain ⟨p, hq⟩ := h n (by omega)
    refine ⟨ps ++ [p], by simp [hl], fun i hi => ?_⟩
    by_cases hlt : i < ps.length
    · rw [List.getElem_append_left hlt]; exact hp i hlt
    · have e : i = ps.length := by simp at hi; omega
      subst e
      rw [List.getElem_append_right (by omega)]
      simpa [hl] using hq
section
variable {H : Type} {enc : TypeId × Value → H}
/-- How long a row of bytes is, as its reading tells it. -/
def LenD (d : DataW H) (xs : List UInt8) : Prop := xs = [] ∨ ∃ el s, d = .slice el s ∧ xs.length ≤ el.length + s.length
theorem bytes_cell {W : World} {fuel : Nat} {cs : List Value} {x : DataW H × List MemPlace} (hf : DataW.trod enc Try.prog W 0 (fun _ => true) true fuel 24 cs = some x) : ∃ a len cap xs, cs = [.slice a len cap] ∧ RdB W a len xs ∧ len ≤ cap ∧ LenD x.1 xs := by
  rcases open_ints Try.underlying24 Try.underlying5 (by kernel_rfl) hf with ⟨rfl, hx⟩ | ⟨y, l, c, zs, rfl, _⟩
  · obtain ⟨xs, h1, h2, _, h4⟩ := open_bytes (enc := enc) (W := W) (a := none) (len := 0) (cap := 0) (d := x.1) (p := x.2) ⟨fuel, hf⟩
    exact ⟨none, 0, 0, xs, rfl, h1, h2, .inl (List.eq_nil_of_length_eq_zero h1.len)⟩
  · obtain ⟨xs, h1, h2, _, h4⟩ := open_bytes (enc := enc) (W := W) (a := some y) (len := l) (cap := c) (d := x.1) (p := x.2) ⟨fuel, hf⟩
    have hl := h1.len
    refine ⟨some y, l, c, xs, rfl, h1, h2, ?_⟩
    rcases h4 with ⟨_, h⟩ | ⟨el, s, h5, h6⟩
    · exact .inl (List.eq_nil_of_length_eq_zero (by omega))
    · exact .inr ⟨el, s, h5, by omega⟩
theorem cells_pair {W : World} {fuel : Nat} {cs : List Value} {x : DataW H × List MemPlace} (h : DataW.trod enc Try.prog W 0 (fun _ => true) true fuel 42 cs = some x) :
    ∃ Ak mk ck Av mv cv, ∃ q : PairV, cs = [.slice Ak mk ck, .slice Av mv cv] ∧ RdB W Ak mk q.key ∧ RdB W Av mv q.val ∧ mk ≤ ck ∧ mv ≤ cv ∧ ∃ d0 d1, x.1 = .agg [d0, d1] ∧ LenD d0 q.key ∧ LenD d1 q.val := by
  obtain ⟨xs, n, _, hx, hlen, hxl, hg⟩ := DataW.trod_struct Try.underlying42 h
  have hs : ∀ j, j < 2 → (xs[j]?).isSome = true := fun j hj => by
    rw [List.getElem?_eq_getElem (by rw [hxl]; exact hj)]; rfl
  have hc : Try.prog.cellsOf 42 = 2 := by kernel_rfl
  have k1 : Try.prog.cellsOf 24 = 1 := by kernel_rfl
  rw [hc] at hlen
  have g0 := hg 0 _ rfl
  have g1 := hg 1 _ rfl
  clear hg h
  match cs, hlen with
  | [c0, c1], _ =>
    have g0 : DataW.trod enc Try.prog W 0 (fun _ => true) true n 24 [c0] = xs[0]? := by have h : DataW.trod enc Try.prog W 0 (fun _ => true) true n 24 (List.take (Try.prog.cellsOf 24) (List.drop 0 [c0, c1])) = xs[0]? := g0; rw [k1] at h; exact h
    have g1 : DataW.trod enc Try.prog W 0 (fun _ => true) true n 24 [c1] = xs[1]? := by have h : DataW.trod enc Try.prog W 0 (fun _ => true) true n 24 (List.take (Try.prog.cellsOf 24) (List.drop 1 [c0, c1])) = xs[1]? := g1; rw [k1] at h; exact h
    obtain ⟨y0, e0⟩ := Option.isSome_iff_exists.1 (hs 0 (by omega))
    obtain ⟨y1, e1⟩ := Option.isSome_iff_exists.1 (hs 1 (by omega))
    rw [e0] at g0
    rw [e1] at g1
    obtain ⟨a0, l0, p0, x0, i0, r0, b0, z0⟩ := bytes_cell g0
    obtain ⟨a1, l1, p1, x1, i1, r1, b1, z1⟩ := bytes_cell g1
    injection i0 with j0
    injection i1 with j1
    subst j0 j1
    refine ⟨a0, l0, p0, a1, l1, p1, ⟨x0, x1⟩, rfl, r0, r1, b0, b1, y0.1, y1.1, ?_, z0, z1⟩
    have hx2 : xs = [y0, y1] := by
      match xs, hxl with
      | [u, v], _ =>
        simp at e0 e1
        rw [e0, e1]
    rw [hx, hx2]
    rfl
theorem open_pairs {W : World} {a : Option Addr} {len cap : Nat} {d : DataW H} {p : List MemPlace} (h0 : DataW.Trod enc Try.prog W 0 (fun _ => true) true 22 (.slice a len cap) d p) :
    ∃ ps, RdQ W a len ps ∧ len ≤ cap ∧ cap ≤ maxLen ∧ (ps = [] ∨ ∃ ds sp : List (DataW H), d = .slice ds sp ∧ ds.length + sp.length = cap ∧ ds.length = ps.length ∧
      ∀ (i : Nat) (hi : i < ps.length), ∃ d0 d1, ds[i]? = some (.agg [d0, d1]) ∧ LenD d0 ps[i].key ∧ LenD d1 ps[i].val) := by
  obtain ⟨fuel, hf⟩ := h0
  have hone : Try.prog.cellsOf 42 = 2 := by kernel_rfl
  rcases open_slice Try.underlying22 hf with ⟨hcs, hx⟩ | ⟨x, l, c, m, n, D, Pl, hcs, _, hl, hm, hmm, hd, hi⟩
  · simp [Value.cells] at hcs
    obtain ⟨rfl, rfl, rfl⟩ := hcs
    exact ⟨[], ⟨rfl, fun h => by omega⟩, Nat.le_refl _, by simp [maxLen], .inl rfl⟩
  · simp [Value.cells] at hcs
    obtain ⟨rfl, rfl, rfl⟩ := hcs
    simp only [if_true] at hmm
    obtain ⟨b, off, spot⟩ := x
    have hspot : 0 < len → spot = none := fun h0 => by
      obtain ⟨cs', hc, ht⟩ := hi 0 (by omega)
      rw [hone] at hc
      obtain ⟨_, _, hat⟩ := World.cells?_some hc
      obtain ⟨_, _, _, _, _, _, q, rfl, _⟩ := cells_pair ht
      have c0 := hat 0 (by omega)
      simp only [List.getElem?_cons_zero] at c0
      simpa [Addr.add] using World.cell?_spot c0
    have hat0 : ∀ i, i < len → ∃ q : PairV, ∃ Ak mk ck Av mv cv, spot = none ∧ W.cell? ⟨b, off + i * 2, none⟩ = some (.slice Ak mk ck) ∧ W.cell? ⟨b, off + i * 2 + 1, none⟩ = some (.slice Av mv cv) ∧ RdB W Ak mk q.key ∧ RdB W Av mv q.val ∧ mk ≤ ck ∧ mv ≤ cv ∧ ∃ d0 d1, D i = .agg [d0, d1] ∧ LenD d0 q.key ∧ LenD d1 q.val := fun i hil => by
      obtain ⟨cs', hc, ht⟩ := hi i (by omega)
      rw [hone] at hc
      obtain ⟨_, _, hat⟩ := World.cells?_some hc
      obtain ⟨Ak, mk, ck, Av, mv, cv, q, rfl, h1, h2, h3, h4, h5⟩ := cells_pair ht
      have c0 := hat 0 (by omega)
      have c1 := hat 1 (by omega)
      simp only [List.getElem?_cons_zero, List.getElem?_cons_succ] at c0 c1
      obtain rfl := hspot (by omega)
      simp only [add_plain] at c0 c1
      exact ⟨q, Ak, mk, ck, Av, mv, cv, rfl, by simpa using c0, c1, h1, h2, h3, h4, h5⟩
    obtain ⟨ps, hpl, hps⟩ := exists_list len _ hat0
    refine ⟨ps, ⟨hpl, fun hn => ⟨b, off, ?_, fun j hj => ?_⟩⟩, hl, hm, .inr ⟨(List.range len).map D, (List.range (cap - len)).map fun j => D (len + j), ?_, by simp; omega, by simp [hpl], fun i hil => ?_⟩⟩
    · obtain ⟨Ak, mk, ck, Av, mv, cv, h1, _⟩ := hps 0 (by omega)
      rw [h1]
    · obtain ⟨Ak, mk, ck, Av, mv, cv, _, h1, h2, h3, h4, h5, h6, _⟩ := hps j hj
      exact ⟨Ak, mk, ck, Av, mv, cv, h1, h2, h3, h4, h5, h6⟩
    · injection hd with h1 h2
      rw [h1, hmm]
    · obtain ⟨Ak, mk, ck, Av, mv, cv, _, _, _, _, _, _, _, d0, d1, h1, h2, h3⟩ := hps i hil
      exact ⟨d0, d1, by rw [List.getElem?_map, List.getElem?_range (by omega)]; simp [h1], h2, h3⟩
end
end Go.Proofs.Ythaciglechijkaa
