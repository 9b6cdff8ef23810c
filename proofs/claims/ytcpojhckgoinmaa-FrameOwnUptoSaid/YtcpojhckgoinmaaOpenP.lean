/-
  What an argument that came in gives the walk: slices of slices of bytes. No statement is proved here.
-/
import Derived.Test.YtcpojhckgoinmaaOpen
import Derived.Deep.Slices
namespace Go.Proofs.Ytcpojhckgoinmaa
open Go.ChangeShapes Go.WideShapes Go.ChangeAt Go.RowKit Go.Deep
set_option linter.unusedVariables false

/-- A slice of slices of bytes that reads as these payloads. -/
def RdP (w : World) (A : Option Addr) (n : Nat) (ps : List (List UInt8)) : Prop :=
  ps.length = n ∧ ∀ (j : Nat) (hj : j < ps.length), ∃ b off Au mu cu, A = some ⟨b, off, none⟩ ∧ w.cell? ⟨b, off + j, none⟩ = some (.slice Au mu cu) ∧ RdB w Au mu ps[j] ∧ mu ≤ cu
theorem exists_list {α : Type} (n : Nat) (Q : Nat → α → Prop) (h : ∀ i, i < n → ∃ p, Q i p) : ∃ ps : List α, ps.length = n ∧ ∀ (i : Nat) (hi : i < ps.length), Q i ps[i] := by
  induction n with
  | zero => exact ⟨[], rfl, fun i hi => by simp at hi⟩
  | succ n ih =>
    obtain ⟨ps, hl, hp⟩ := ih fun i hi => h i (by omega)
    obtain ⟨p, hq⟩ := h n (by omega)
    refine ⟨ps ++ [p], by simp [hl], fun i hi => ?_⟩
    by_cases hlt : i < ps.length
    · rw [List.getElem_append_left hlt]; exact hp i hlt
    · have e : i = ps.length := by simp at hi; omega
      subst e
      rw [List.getElem_append_right (by omega)]
      simpa [hl] using hq
section
variable {H : Type} {enc : TypeId × Value → H}
theorem bytes_cell {W : World} {fuel : Nat} {cs : List Value} {x : DataW H × List MemPlace} (hf : DataW.trod enc Try.prog W 0 (fun _ => true) true fuel 22 cs = some x) : ∃ a len cap xs, cs = [.slice a len cap] ∧ RdB W a len xs ∧ len ≤ cap ∧ ((x.1 = .nil ∧ cap = 0) ∨ ∃ elems spare, x.1 = .slice elems spare ∧ elems.length + spare.length = cap) := by
  rcases open_ints Try.underlying22 Try.underlying5 (by kernel_rfl) hf with ⟨rfl, hx⟩ | ⟨y, l, c, zs, rfl, _⟩
  · obtain ⟨xs, h1, h2, _, h4⟩ := open_bytes (enc := enc) (W := W) (a := none) (len := 0) (cap := 0) (d := x.1) (p := x.2) ⟨fuel, hf⟩
    exact ⟨none, 0, 0, xs, rfl, h1, h2, h4⟩
  · obtain ⟨xs, h1, h2, _, h4⟩ := open_bytes (enc := enc) (W := W) (a := some y) (len := l) (cap := c) (d := x.1) (p := x.2) ⟨fuel, hf⟩
    exact ⟨some y, l, c, xs, rfl, h1, h2, h4⟩
theorem open_bytess {W : World} {a : Option Addr} {len cap : Nat} {d : DataW H} {p : List MemPlace} (h0 : DataW.Trod enc Try.prog W 0 (fun _ => true) true 39 (.slice a len cap) d p) :
    ∃ ps, RdP W a len ps ∧ len ≤ cap ∧ cap ≤ maxLen ∧ (ps = [] ∨ ∃ ds sp : List (DataW H), d = .slice ds sp ∧ ds.length + sp.length = cap ∧ ds.length = ps.length ∧
      ∀ (i : Nat) (hi : i < ps.length), ∃ di, ds[i]? = some di ∧ (ps[i] = [] ∨ ∃ el s, di = .slice el s ∧ ps[i].length ≤ el.length + s.length)) := by
  obtain ⟨fuel, hf⟩ := h0
  have hone : Try.prog.cellsOf 22 = 1 := by kernel_rfl
  rcases open_slice Try.underlying39 hf with ⟨hcs, _⟩ | ⟨x, l, c, m, n, D, Pl, hcs, _, hl, hm, hmm, hd, hi⟩
  · simp [Value.cells] at hcs
    obtain ⟨rfl, rfl, rfl⟩ := hcs
    exact ⟨[], ⟨rfl, fun j hj => by simp at hj⟩, Nat.le_refl _, by simp [maxLen], .inl rfl⟩
  · simp [Value.cells] at hcs
    obtain ⟨rfl, rfl, rfl⟩ := hcs
    simp only [if_true] at hmm
    obtain ⟨b, off, spot⟩ := x
    have hspot : 0 < len → spot = none := fun h0 => by
      obtain ⟨cs', hc, ht⟩ := hi 0 (by omega)
      rw [hone] at hc
      obtain ⟨_, _, hat⟩ := World.cells?_some hc
      obtain ⟨Au, mu, cu, q, rfl, _⟩ := bytes_cell ht
      have hcell := hat 0 (by omega)
      simp only [List.getElem?_cons_zero] at hcell
      simpa [Addr.add] using World.cell?_spot hcell
    have hrow : ∀ i, i < len → ∃ q : List UInt8, ∃ b' off' Au mu cu, (some ⟨b, off, spot⟩ : Option Addr) = some ⟨b', off', none⟩ ∧ W.cell? ⟨b', off' + i, none⟩ = some (.slice Au mu cu) ∧ RdB W Au mu q ∧ mu ≤ cu ∧ (q = [] ∨ ∃ el s, D i = .slice el s ∧ q.length ≤ el.length + s.length) := fun i hil => by
      obtain ⟨cs', hc, ht⟩ := hi i (by omega)
      rw [hone, Nat.mul_one] at hc
      obtain ⟨_, _, hat⟩ := World.cells?_some hc
      obtain ⟨Au, mu, cu, q, rfl, hr, hle, hq⟩ := bytes_cell ht
      have hcell := hat 0 (by omega)
      simp only [List.getElem?_cons_zero] at hcell
      obtain rfl := hspot (by omega)
      rw [add_plain, add_plain] at hcell
      refine ⟨q, b, off, Au, mu, cu, rfl, by simpa using hcell, hr, hle, ?_⟩
      have hql := hr.len
      rcases hq with ⟨_, h⟩ | ⟨el, s, h1, h2⟩
      · exact .inl (List.eq_nil_of_length_eq_zero (by omega))
      · exact .inr ⟨el, s, h1, by omega⟩
    obtain ⟨ps, hpl, hps⟩ := exists_list len _ hrow
    refine ⟨ps, ⟨hpl, fun j hj => ?_⟩, hl, hm, .inr ⟨(List.range len).map D, (List.range (cap - len)).map fun j => D (len + j), ?_, by simp; omega, by simp [hpl], fun i hil => ⟨D i, by rw [List.getElem?_map, List.getElem?_range (by omega)]; rfl, ?_⟩⟩⟩
    · obtain ⟨b', off', Au, mu, cu, h1, h2, h3, h4, _⟩ := hps j hj
      exact ⟨b', off', Au, mu, cu, h1, h2, h3, h4⟩
    · injection hd with h1 h2
      rw [h1, hmm]
    · obtain ⟨b', off', Au, mu, cu, h1, h2, h3, h4, h5⟩ := hps i hil
      exact h5
end
end Go.Proofs.Ytcpojhckgoinmaa
