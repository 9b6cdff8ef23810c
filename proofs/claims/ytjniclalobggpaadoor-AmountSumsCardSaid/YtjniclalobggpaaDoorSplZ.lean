/-
  What Split and the reference's Split answer at any total and any weights. No statement is proved here.
-/
import Derived.Test.YtjniclalobggpaaDoorSplS
namespace Go.Proofs.YtjniclalobggpaaDoor
open Go.RowKit Go.Shelf Go.Sort
set_option linter.unusedVariables false

def okW (x : Int) : Prop := 0 ≤ x ∧ x ≤ 1000000000
theorem first_bad (p : Nat → Prop) : ∀ n : Nat, (∀ j, j < n → p j) ∨ ∃ k, k < n ∧ ¬ p k ∧ ∀ j, j < k → p j
  | 0 => .inl fun j h => by omega
  | n + 1 => by
    rcases first_bad p n with h | ⟨k, h1, h2, h3⟩
    · by_cases hp : p n
      · exact .inl fun j hj => by
          by_cases e : j = n
          · subst e; exact hp
          · exact h j (by omega)
      · exact .inr ⟨n, by omega, hp, h⟩
    · exact .inr ⟨k, by omega, h2, h3⟩
def natW (xs : List Int) : List Nat := xs.map Int.toNat
theorem natW_at (xs : List Int) (j : Nat) (hj : j < xs.length) (h : okW xs[j]) : xs[j] = (wAt (natW xs) j : Int) ∧ wAt (natW xs) j ≤ 1000000000 := by
  have e : wAt (natW xs) j = xs[j].toNat := by simp [wAt, natW, List.getD_eq_getElem?_getD, hj]
  rw [e]
  unfold okW at h
  omega
/-- What is shared: all weights as they should be, their sum above nought, the total within its bounds. -/
def Fine (total : Int) (xs : List Int) : Prop := 1 ≤ xs.length ∧ xs.length ≤ 1024 ∧ (∀ j (hj : j < xs.length), okW xs[j]) ∧ 0 < wsum (natW xs) xs.length ∧ -1000000000000000 ≤ total ∧ total ≤ 1000000000000000
open Classical in
noncomputable def splitErr (total : Int) (xs : List Int) : Int := if xs.length < 1 ∨ 1024 < xs.length then 3 else if Fine total xs then 0 else 2
def sharesOf (total : Int) (xs : List Int) : List Int := (List.range xs.length).map fun i => sg total * (shareF total.natAbs (natW xs) (wsum (natW xs) xs.length) xs.length (left0 total.natAbs (natW xs) (wsum (natW xs) xs.length) xs.length) i : Nat)
theorem sharesOf_row (total : Int) (xs : List Int) : (rowI xs.length fun i => sg total * (shareF total.natAbs (natW xs) (wsum (natW xs) xs.length) xs.length (left0 total.natAbs (natW xs) (wsum (natW xs) xs.length) xs.length) i : Nat)) = ((sharesOf total xs).map iv).toArray := by
  unfold rowI sharesOf
  rw [List.map_map]
  rfl
theorem sharesOf_len (total : Int) (xs : List Int) : (sharesOf total xs).length = xs.length := by simp [sharesOf]
open Classical in
/-- What is answered: the shares, or none. -/
noncomputable def splitAns (total : Int) (xs : List Int) : List Int := if Fine total xs then sharesOf total xs else []
/-- A slice in new memory, its block known whole; or none. -/
def NewI (w w' : World) (v : Value) (xs : List Int) : Prop := (v = .slice none 0 0 ∧ xs = []) ∨ ∃ G, v = .slice (some ⟨G, 0, none⟩) xs.length xs.length ∧ w.heap.size ≤ G ∧ w'.heap[G]? = some (.cells (xs.map iv).toArray 2 (0, 0))
theorem NewI.form {w w' : World} {v : Value} {xs : List Int} (h : NewI w w' v xs) : ∃ A, v = .slice A xs.length xs.length ∧ RdI w' A xs.length xs ∧ (∀ ad, A = some ad → ∃ G, ad = ⟨G, 0, none⟩ ∧ w.heap.size ≤ G ∧ w'.heap[G]? = some (.cells (xs.map iv).toArray 2 (0, 0))) := by
  rcases h with ⟨rfl, rfl⟩ | ⟨G, rfl, hG, hh⟩
  · exact ⟨none, rfl, RdI.nil _ _, fun ad e => by cases e⟩
  · refine ⟨_, rfl, RdI.mk rfl fun j hj => ?_, fun ad e => ⟨G, by injection e with e; exact e.symm, hG, hh⟩⟩
    rw [Nat.zero_add, cell_of_row _ _ _ _ _ _ hh]
    simp [iv, hj]
theorem cells_nat {w : World} {b off n : Nat} {xs : List Int} (h : RdI w (some ⟨b, off, none⟩) n xs) (hn : xs.length = n) : ∀ j, j < n → w.cell? ⟨b, off + j, none⟩ = some (.int .i64 (xs.getD j 0)) := fun j hj => by
  rw [h.cells j (by omega)]
  simp [List.getD_eq_getElem?_getD, show j < xs.length by omega]
theorem block_lt {w : World} {b off n : Nat} {xs : List Int} (h : RdI w (some ⟨b, off, none⟩) n xs) (hn : xs.length = n) (h0 : 0 < n) : b < w.heap.size := World.block_lt_of_cell? _ _ (h.cells 0 (by omega))
/-- The four ways. -/
theorem split_ways (total : Int) (xs : List Int) : (xs.length < 1 ∨ 1024 < xs.length) ∨ (1 ≤ xs.length ∧ xs.length ≤ 1024 ∧ ¬ Fine total xs ∧ ∃ k, k < xs.length ∧ (xs.getD k 0 < 0 ∨ 1000000000 < xs.getD k 0) ∧ ∀ j, j < k → xs.getD j 0 = (wAt (natW xs) j : Int) ∧ wAt (natW xs) j ≤ 1000000000) ∨
    (1 ≤ xs.length ∧ xs.length ≤ 1024 ∧ ¬ Fine total xs ∧ (∀ j, j < xs.length → xs.getD j 0 = (wAt (natW xs) j : Int) ∧ wAt (natW xs) j ≤ 1000000000) ∧ (wsum (natW xs) xs.length = 0 ∨ total < -1000000000000000 ∨ 1000000000000000 < total)) ∨
    (Fine total xs ∧ ∀ j, j < xs.length → xs.getD j 0 = (wAt (natW xs) j : Int) ∧ wAt (natW xs) j ≤ 1000000000) := by
  by_cases h : xs.length < 1 ∨ 1024 < xs.length
  · exact .inl h
  · right
    have hd : ∀ j (hj : j < xs.length), xs.getD j 0 = xs[j] := fun j hj => by simp [List.getD_eq_getElem?_getD, hj]
    rcases first_bad (fun j => okW (xs.getD j 0)) xs.length with hall | ⟨k, h1, h2, h3⟩
    · have hw : ∀ j, j < xs.length → xs.getD j 0 = (wAt (natW xs) j : Int) ∧ wAt (natW xs) j ≤ 1000000000 := fun j hj => by
        rw [hd j hj]; exact natW_at xs j hj (by rw [← hd j hj]; exact hall j hj)
      by_cases hF : Fine total xs
      · exact .inr (.inr ⟨hF, hw⟩)
      · refine .inr (.inl ⟨by omega, by omega, hF, hw, ?_⟩)
        apply Classical.byContradiction
        intro hn
        exact hF ⟨by omega, by omega, fun j hj => by rw [← hd j hj]; exact hall j hj, by omega, by omega, by omega⟩
    · refine .inl ⟨by omega, by omega, fun hF => h2 (by rw [hd k h1]; exact hF.2.2.1 k h1), k, h1, ?_, fun j hj => ?_⟩
      · unfold okW at h2; omega
      · rw [hd j (by omega)]; exact natW_at xs j (by omega) (by rw [← hd j (by omega)]; exact h3 j hj)
theorem Split_any (total : Int) (A : Option Addr) (n c : Nat) (w : World) (xs : List Int) (h : RdI w A n xs) :
    Calls Tryd.prog 16 #[.int .i64 total, .slice A n c] w fun e w' => (∃ v, e = .returned (.tuple #[v, .int .i64 (splitErr total xs)]) ∧ NewI w w' v (splitAns total xs)) ∧ Below w.heap.size w w' := by
  have hn := h.len
  unfold splitErr splitAns
  rcases split_ways total xs with h1 | ⟨h1, h2, h3, k, h4, h5, h6⟩ | ⟨h1, h2, h3, h4, h5⟩ | ⟨h1, h2⟩
  · rw [if_pos h1, if_neg (fun hF => by have := hF.1; have := hF.2.1; omega)]
    exact (Split_long total A n c w (by omega)).mono fun e w' ⟨he, hb⟩ => ⟨⟨_, he, .inl ⟨rfl, rfl⟩⟩, hb⟩
  · obtain ⟨b, off, rfl⟩ := h.addr (by omega)
    rw [if_neg (by omega), if_neg h3, if_neg h3]
    exact (Split_bad total c (natW xs) k (by omega) (by omega) (cells_nat h hn) (by omega) h6 h5).mono fun e w' ⟨he, hb⟩ => ⟨⟨_, he, .inl ⟨rfl, rfl⟩⟩, hb⟩
  · obtain ⟨b, off, rfl⟩ := h.addr (by omega)
    rw [if_neg (by omega), if_neg h3, if_neg h3]
    exact (Split_zero total c (natW xs) b off n _ w (by omega) (by omega) (cells_nat h hn) (fun j hj => h4 j (by omega)) (by rw [← hn]; exact h5)).mono fun e w' ⟨he, hb⟩ => ⟨⟨_, he, .inl ⟨rfl, rfl⟩⟩, hb⟩
  · have hF := h1
    obtain ⟨f1, f2, f3, f4, f5, f6⟩ := h1
    obtain ⟨b, off, rfl⟩ := h.addr (by omega)
    rw [if_neg (by omega), if_pos hF, if_pos hF]
    have hc : ∀ j, j < n → w.cell? ⟨b, off + j, none⟩ = some (.int .i64 (wAt (natW xs) j : Nat)) := fun j hj => by rw [cells_nat h hn j hj, (h2 j (by omega)).1]
    have key := Split_ok total c (natW xs) b off n (wsum (natW xs) xs.length) w (by omega) (by omega) (block_lt h hn (by omega)) hc (fun j hj => (h2 j (by omega)).2) (by rw [hn]) f4 f5 f6
    refine key.mono fun e w' ⟨he, hh, hb⟩ => ⟨⟨_, he, .inr ⟨_, ?_, Nat.le_refl _, ?_⟩⟩, hb⟩
    · rw [sharesOf_len, hn]
    · rw [hh, ← hn, sharesOf_row]
theorem refSplit_any (total : Int) (A : Option Addr) (n c : Nat) (w : World) (xs : List Int) (h : RdI w A n xs) :
    Calls Tryd.prog 18 #[.int .i64 total, .slice A n c] w fun e w' => (∃ v, e = .returned (.tuple #[v, .int .i64 (splitErr total xs)]) ∧ NewI w w' v (splitAns total xs)) ∧ Below w.heap.size w w' := by
  have hn := h.len
  unfold splitErr splitAns
  rcases split_ways total xs with h1 | ⟨h1, h2, h3, k, h4, h5, h6⟩ | ⟨h1, h2, h3, h4, h5⟩ | ⟨h1, h2⟩
  · rw [if_pos h1, if_neg (fun hF => by have := hF.1; have := hF.2.1; omega)]
    exact (refSplit_long total A n c w (by omega)).mono fun e w' ⟨he, hb⟩ => ⟨⟨_, he, .inl ⟨rfl, rfl⟩⟩, hb⟩
  · obtain ⟨b, off, rfl⟩ := h.addr (by omega)
    rw [if_neg (by omega), if_neg h3, if_neg h3]
    exact (refSplit_bad total c (natW xs) k (by omega) (by omega) (cells_nat h hn) (by omega) h6 h5).mono fun e w' ⟨he, hb⟩ => ⟨⟨_, he, .inl ⟨rfl, rfl⟩⟩, hb⟩
  · obtain ⟨b, off, rfl⟩ := h.addr (by omega)
    rw [if_neg (by omega), if_neg h3, if_neg h3]
    exact (refSplit_zero total c (natW xs) b off n _ w (by omega) (by omega) (cells_nat h hn) (fun j hj => h4 j (by omega)) (by rw [← hn]; exact h5)).mono fun e w' ⟨he, hb⟩ => ⟨⟨_, he, .inl ⟨rfl, rfl⟩⟩, hb⟩
  · have hF := h1
    obtain ⟨f1, f2, f3, f4, f5, f6⟩ := h1
    obtain ⟨b, off, rfl⟩ := h.addr (by omega)
    rw [if_neg (by omega), if_pos hF, if_pos hF]
    have hc : ∀ j, j < n → w.cell? ⟨b, off + j, none⟩ = some (.int .i64 (wAt (natW xs) j : Nat)) := fun j hj => by rw [cells_nat h hn j hj, (h2 j (by omega)).1]
    have key := refSplit_ok total c (natW xs) b off n (wsum (natW xs) xs.length) w (by omega) (by omega) (block_lt h hn (by omega)) hc (fun j hj => (h2 j (by omega)).2) (by rw [hn]) f4 f5 f6
    refine key.mono fun e w' ⟨G, hG, he, hh, hb⟩ => ⟨⟨_, he, .inr ⟨G, ?_, hG, ?_⟩⟩, hb⟩
    · rw [sharesOf_len, hn]
    · rw [hh, ← hn, sharesOf_row]
end Go.Proofs.YtjniclalobggpaaDoor
