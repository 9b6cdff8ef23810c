/-
  The plain law of reading frame behind frame; slices of slices of bytes that a call owns. No statement is proved here.
-/
import Derived.Test.YtcpojhckgoinmaaFrameW6
namespace Go.Proofs.Ytcpojhckgoinmaa
open Go.RowKit
set_option linter.unusedVariables false

/-- What is read from a place on: the payloads, the place behind the last one, the error's number. -/
def goFrom (xs : List UInt8) : Nat → Nat → List (List UInt8) × Nat × Int
  | 0, k => ([], k, 12)
  | f + 1, k => if (rd xs k).2.2 = 0 then ((rd xs k).1 :: (goFrom xs f (rd xs k).2.1.toNat).1, (goFrom xs f (rd xs k).2.1.toNat).2) else ([], k, (rd xs k).2.2)
theorem goFrom_ok (xs : List UInt8) (f k : Nat) (h : (rd xs k).2.2 = 0) : goFrom xs (f + 1) k = ((rd xs k).1 :: (goFrom xs f (rd xs k).2.1.toNat).1, (goFrom xs f (rd xs k).2.1.toNat).2) := by
  rw [goFrom, if_pos h]
theorem goFrom_bad (xs : List UInt8) (f k : Nat) (h : (rd xs k).2.2 ≠ 0) : goFrom xs (f + 1) k = ([], k, (rd xs k).2.2) := by
  rw [goFrom, if_neg h]
theorem rdAt_cons (a b c d e f g h : UInt8) (rest : List UInt8) (p : Int) : rdAt (a :: b :: c :: d :: e :: f :: g :: h :: rest) p = if 2097152 < num4 a b c d then ([], 0, 11)
    else if rest.length < num4 a b c d then ([], 0, 10)
    else if num4 e f g h = crc (a :: b :: c :: d :: rest.take (num4 a b c d)) then (rest.take (num4 a b c d), p + 8 + num4 a b c d, 0)
    else ([], 0, 11) := rfl
/-- A payload that is read: its place. -/
theorem rd_ok {xs : List UInt8} {k : Nat} (h : (rd xs k).2.2 = 0) : (rd xs k).2.1 = ((k + 8 + (rd xs k).1.length : Nat) : Int) ∧ k + 8 + (rd xs k).1.length ≤ xs.length := by
  unfold rd at h ⊢
  by_cases hp : (k : Int) < 0 ∨ (xs.length : Int) < (k : Int)
  · rw [if_pos hp] at h; simp at h
  · rw [if_neg hp] at h ⊢
    have hd : (xs.drop k).length = xs.length - k := List.length_drop
    have e : (k : Int).toNat = k := rfl
    rw [e] at h ⊢
    match hx : xs.drop k with
    | [] => rw [hx] at h; simp [rdAt] at h
    | [a] => rw [hx] at h; simp [rdAt] at h
    | [a, b] => rw [hx] at h; simp [rdAt] at h
    | [a, b, c] => rw [hx] at h; simp [rdAt] at h
    | [a, b, c, d] => rw [hx] at h; simp [rdAt] at h
    | [a, b, c, d, e] => rw [hx] at h; simp [rdAt] at h
    | [a, b, c, d, e, f] => rw [hx] at h; simp [rdAt] at h
    | [a, b, c, d, e, f, g] => rw [hx] at h; simp [rdAt] at h
    | a :: b :: c :: d :: e :: f :: g :: i :: rest =>
      rw [hx] at h hd
      rw [rdAt_cons] at h ⊢
      by_cases h1 : 2097152 < num4 a b c d
      · rw [if_pos h1] at h; simp at h
      · rw [if_neg h1] at h ⊢
        by_cases h2 : rest.length < num4 a b c d
        · rw [if_pos h2] at h; simp at h
        · rw [if_neg h2] at h ⊢
          by_cases h3 : num4 e f g i = crc (a :: b :: c :: d :: rest.take (num4 a b c d))
          · rw [if_pos h3]
            simp only [List.length_cons] at hd
            have ht : (rest.take (num4 a b c d)).length = num4 a b c d := by rw [List.length_take]; omega
            simp only [ht]
            omega
          · rw [if_neg h3] at h; simp at h
theorem rd_len {xs : List UInt8} {k : Nat} : (rd xs k).1.length ≤ xs.length := by
  by_cases h : (rd xs k).2.2 = 0
  · have := rd_ok h; omega
  · unfold rd
    split
    · simp
    · unfold rdAt
      split
      · simp
      · split
        · simp
        · split
          · simp
          · split
            · rename_i hx _ _ _
              have := congrArg List.length hx
              simp only [List.length_drop, List.length_cons] at this
              simp only [List.length_take]
              omega
            · simp
      · simp
theorem rd_vals (xs : List UInt8) (p : Int) : (rd xs p).2.2 = 0 ∨ (rd xs p).2.2 = 2 ∨ (rd xs p).2.2 = 10 ∨ (rd xs p).2.2 = 11 ∨ (rd xs p).2.2 = 12 := by
  unfold rd
  split
  · simp
  · unfold rdAt
    split
    · simp
    · split
      · simp
      · split
        · simp
        · split <;> simp
    · simp
/-- At the end there is none; ahead of it there is one, or an error of another number. -/
theorem rd_end (xs : List UInt8) (k : Nat) (h : k ≤ xs.length) : (rd xs k).2.2 = 12 ↔ k = xs.length := by
  unfold rd
  rw [if_neg (by omega), show (k : Int).toNat = k from rfl]
  constructor
  · intro h2
    rcases Nat.lt_or_ge k xs.length with h3 | h3
    · exfalso
      have hd : 0 < (xs.drop k).length := by rw [List.length_drop]; omega
      revert h2
      generalize xs.drop k = l at hd
      unfold rdAt
      split
      · simp at hd
      · split
        · simp
        · split
          · simp
          · split <;> simp
      · simp
    · omega
  · intro h2
    rw [h2, List.drop_length]
    rfl

theorem infoBS : (Try.prog.info? 22).map (fun i => (i.zero, i.size, i.bytes)) = some (some (.slice none 0 0), 1, 24) := by kernel_rfl
/-- Slices of slices of bytes that a call owns: the outer row, each payload in memory of its own. -/
def OwnP (w : World) (base : Nat) (v : Value) (ps : List (List UInt8)) : Prop :=
  ∃ vs : List Value, w.ownsRow base 22 1 v ps.length vs ∧ vs.length = ps.length ∧
    ∀ (j : Nat) (hj : j < ps.length), ∃ u, vs[j]? = some u ∧ OwnB w base u ps[j] ∧ (u.ownBlock ≠ none → u.ownBlock ≠ v.ownBlock)
theorem OwnP.nil (w : World) (base : Nat) : OwnP w base (.slice none 0 0) [] :=
  ⟨[], World.ownsRow_nil w base _ 1, rfl, fun j hj => by simp at hj⟩
theorem OwnB.block {w : World} {base : Nat} {v : Value} {xs : List UInt8} (h : OwnB w base v xs) (g : Nat) (hg : v.ownBlock = some g) : base ≤ g ∧ g < w.heap.size := by
  rcases h.2 with ⟨rfl, _⟩ | ⟨b, cap, cur, rfl, hb, hh, _⟩
  · simp [Value.ownBlock] at hg
  · simp [Value.ownBlock] at hg
    subst hg
    exact ⟨hb, (Array.getElem?_eq_some_iff.1 hh).1⟩
/-- What turns no block of its own leaves it. -/
theorem OwnB.same {w w' : World} {base : Nat} {v : Value} {xs : List UInt8} (h : OwnB w base v xs) (hs : ∀ g, v.ownBlock = some g → w'.heap[g]? = w.heap[g]?) : OwnB w' base v xs := by
  refine ⟨h.1, ?_⟩
  rcases h.2 with h2 | ⟨b, cap, cur, rfl, hb, hh, r⟩
  · exact .inl h2
  · exact .inr ⟨b, cap, cur, rfl, hb, by rw [hs b rfl]; exact hh, r⟩
theorem OwnP.below {w w' : World} {base : Nat} {v : Value} {ps : List (List UInt8)} (h : OwnP w base v ps) (hb : Below w.heap.size w w') : OwnP w' base v ps := by
  obtain ⟨vs, hr, hl, hi⟩ := h
  refine ⟨vs, ?_, hl, fun j hj => ?_⟩
  · refine ⟨hr.1, ?_⟩
    rcases hr.2 with h2 | ⟨g, cap, cur, hv, hg, hh, r⟩
    · exact .inl h2
    · exact .inr ⟨g, cap, cur, hv, hg, by rw [hb.block g (Array.getElem?_eq_some_iff.1 hh).1]; exact hh, r⟩
  · obtain ⟨u, h1, h2, h3⟩ := hi j hj
    exact ⟨u, h1, h2.below hb, h3⟩
theorem OwnP.len {w : World} {base : Nat} {v : Value} {ps : List (List UInt8)} (h : OwnP w base v ps) : ∃ A c, v = .slice A ps.length c ∧ ps.length ≤ c := by
  obtain ⟨vs, hr, _⟩ := h
  rcases hr.2 with ⟨rfl, hn⟩ | ⟨g, cap, cur, rfl, _, _, hc, _⟩
  · exact ⟨none, 0, by rw [hn], by omega⟩
  · exact ⟨_, cap, rfl, hc⟩
/-- A payload behind the others: the row has grown, the new one lies in memory of its own. -/
theorem OwnP.snoc {w w' : World} {base : Nat} {v v' u : Value} {ps : List (List UInt8)} {p : List UInt8} {vs : List Value} (hl : vs.length = ps.length)
    (hi : ∀ (j : Nat) (hj : j < ps.length), ∃ u, vs[j]? = some u ∧ OwnB w base u ps[j] ∧ (u.ownBlock ≠ none → u.ownBlock ≠ v.ownBlock))
    (hu : OwnB w base u p) (hun : u.ownBlock ≠ none → u.ownBlock ≠ v.ownBlock)
    (hr : w'.ownsRow base 22 1 v' (ps.length + 1) (vs ++ [u])) (hg : w.grownBy w' v.ownBlock) (hb : v'.ownBlock = v.ownBlock ∨ v'.ownBlock = some w.heap.size) : OwnP w' base v' (ps ++ [p]) := by
  have keep : ∀ {z : Value} {xs : List UInt8}, OwnB w base z xs → (z.ownBlock ≠ none → z.ownBlock ≠ v.ownBlock) → OwnB w' base z xs ∧ (z.ownBlock ≠ none → z.ownBlock ≠ v'.ownBlock) := by
    intro z xs hz hn
    refine ⟨hz.same fun g hgz => hg.block g (hz.block g hgz).2 (fun e => hn (by rw [hgz]; simp) (by rw [hgz, e])), fun h0 => ?_⟩
    rcases hb with hb | hb
    · rw [hb]; exact hn h0
    · rw [hb]
      intro e
      have := (hz.block _ e).2
      omega
  refine ⟨vs ++ [u], by rw [List.length_append]; exact hr, by simp [hl], fun j hj => ?_⟩
  by_cases hlt : j < ps.length
  · obtain ⟨z, h1, h2, h3⟩ := hi j hlt
    obtain ⟨h4, h5⟩ := keep h2 h3
    exact ⟨z, by rw [List.getElem?_append_left (by omega)]; exact h1, by rw [List.getElem_append_left hlt]; exact h4, h5⟩
  · have hje : j = ps.length := by simp at hj; omega
    subst hje
    obtain ⟨h4, h5⟩ := keep hu hun
    exact ⟨u, by rw [List.getElem?_append_right (by omega), hl]; simp, by rw [List.getElem_append_right (by omega)]; simpa using h4, h5⟩
end Go.Proofs.Ytcpojhckgoinmaa
