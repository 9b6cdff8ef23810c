/-
  The bulk of slices of pairs. No statement is proved here.
-/
import Derived.Test.YthaciglechijkaaBulk
import Derived.Test.YthaciglechijkaaOpenQ
namespace Go.Proofs.Ythaciglechijkaa.bulks
theorem at_le {H : Type} (ds : List (DataW H)) (i : Nat) (d : DataW H) (h : ds[i]? = some d) : Rows.uptoBulk d ≤ Rows.uptoBulkAll ds := by
  induction ds generalizing i with
  | nil => simp at h
  | cons e ds ih =>
    simp only [Rows.uptoBulkAll]
    cases i with
    | zero =>
      simp at h
      subst h
      omega
    | succ i =>
      have := ih i (by simpa using h)
      omega
theorem len_le {H : Type} {d : DataW H} {xs : List UInt8} (h : LenD d xs) : xs.length ≤ Rows.uptoBulk d := by
  rcases h with rfl | ⟨el, s, rfl, h⟩
  · simp
  · have := slice_le el s
    omega
theorem pairs_le {H : Type} {d : DataW H} {ps : List PairV} {cap : Nat} (h : ps = [] ∨ ∃ ds sp : List (DataW H), d = .slice ds sp ∧ ds.length + sp.length = cap ∧ ds.length = ps.length ∧
      ∀ (i : Nat) (hi : i < ps.length), ∃ d0 d1, ds[i]? = some (.agg [d0, d1]) ∧ LenD d0 ps[i].key ∧ LenD d1 ps[i].val) : ps.length ≤ Rows.uptoBulk d ∧ ∀ p ∈ ps, p.key.length ≤ Rows.uptoBulk d ∧ p.val.length ≤ Rows.uptoBulk d := by
  rcases h with rfl | ⟨ds, sp, rfl, _, hl, hi⟩
  · simp
  · have h2 := slice_elems ds sp
    have h3 := slice_le ds sp
    refine ⟨by omega, fun p hp => ?_⟩
    obtain ⟨j, hj, rfl⟩ := List.getElem_of_mem hp
    obtain ⟨d0, d1, h4, h5, h6⟩ := hi j hj
    have h7 := at_le ds j _ h4
    have h8 := len_le h5
    have h9 := len_le h6
    simp only [Rows.uptoBulk, Rows.uptoBulkAll] at h7 h2 ⊢
    omega
end Go.Proofs.Ythaciglechijkaa.bulks
