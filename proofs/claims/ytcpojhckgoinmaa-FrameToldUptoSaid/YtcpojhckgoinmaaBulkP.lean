/-
  The bulk of slices of slices of bytes. No statement is proved here.
-/
import Derived.Test.YtcpojhckgoinmaaBulk
import Derived.Test.YtcpojhckgoinmaaOpenP
namespace Go.Proofs.Ytcpojhckgoinmaa.bulks
theorem sum_le {H : Type} (ps : List (List UInt8)) (ds : List (DataW H)) (hl : ds.length = ps.length)
    (h : ∀ (i : Nat) (hi : i < ps.length), ∃ di, ds[i]? = some di ∧ (ps[i] = [] ∨ ∃ el s, di = .slice el s ∧ ps[i].length ≤ el.length + s.length)) : (ps.map List.length).sum ≤ Rows.uptoBulkAll ds := by
  induction ps generalizing ds with
  | nil => simp
  | cons p ps ih =>
    cases ds with
    | nil => simp at hl
    | cons d ds =>
      have h0 := h 0 (by simp)
      obtain ⟨di, h1, h2⟩ := h0
      simp at h1
      subst h1
      have hr := ih ds (by simpa using hl) (fun i hi => by
        obtain ⟨di, h3, h4⟩ := h (i + 1) (by simpa using hi)
        exact ⟨di, by simpa using h3, by simpa using h4⟩)
      simp only [List.map_cons, List.sum_cons, Rows.uptoBulkAll]
      have h5 : p.length ≤ Rows.uptoBulk d := by
        rcases h2 with h2 | ⟨el, s, rfl, h2⟩
        · simp at h2; subst h2; simp
        · have := slice_le el s
          simp at h2
          omega
      omega
theorem rows_le {H : Type} {d : DataW H} {ps : List (List UInt8)} {cap : Nat} (h : ps = [] ∨ ∃ ds sp : List (DataW H), d = .slice ds sp ∧ ds.length + sp.length = cap ∧ ds.length = ps.length ∧
      ∀ (i : Nat) (hi : i < ps.length), ∃ di, ds[i]? = some di ∧ (ps[i] = [] ∨ ∃ el s, di = .slice el s ∧ ps[i].length ≤ el.length + s.length)) : (ps.map List.length).sum ≤ Rows.uptoBulk d ∧ ps.length ≤ Rows.uptoBulk d := by
  rcases h with rfl | ⟨ds, sp, rfl, _, hl, hi⟩
  · simp
  · have h1 := sum_le ps ds hl hi
    have h2 := slice_elems ds sp
    have h3 := slice_le ds sp
    omega
end Go.Proofs.Ytcpojhckgoinmaa.bulks
