/-
  Plain laws of layer 9: what is packed is unpacked, what is unpacked is packed as it was, each key is found. No program in sight.
-/
import Derived.Test.YthaciglechijkaaBlkP
namespace Go.Proofs.Ythaciglechijkaa
set_option linter.unusedVariables false

theorem lessL_trans : ∀ (x y z : List UInt8), lessL x y = -1 → lessL y z = -1 → lessL x z = -1
  | [], [], z, h, _ => by simp [lessL] at h
  | _ :: _, [], z, h, _ => by simp [lessL] at h
  | x, _ :: _, [], _, h => by simp [lessL] at h
  | [], _ :: _, _ :: _, _, _ => by simp [lessL]
  | a :: x, b :: y, c :: z, h, h' => by
    unfold lessL at h h' ⊢
    by_cases h1 : a.toNat < b.toNat
    · by_cases h2 : b.toNat < c.toNat
      · rw [if_pos (by omega)]
      · rw [if_neg h2] at h'
        by_cases h3 : c.toNat < b.toNat
        · rw [if_pos h3] at h'; simp at h'
        · rw [if_pos (by omega)]
    · rw [if_neg h1] at h
      by_cases h2 : b.toNat < a.toNat
      · rw [if_pos h2] at h; simp at h
      · rw [if_neg h2] at h
        by_cases h3 : b.toNat < c.toNat
        · rw [if_pos (by omega)]
        · rw [if_neg h3] at h'
          by_cases h4 : c.toNat < b.toNat
          · rw [if_pos h4] at h'; simp at h'
          · rw [if_neg h4] at h'
            rw [if_neg (by omega), if_neg (by omega)]
            exact lessL_trans x y z h h'
theorem lessL_self (x : List UInt8) : lessL x x = 0 := by
  induction x with
  | nil => rfl
  | cons a x ih => rw [lessL_cons, ih]
theorem ord_above (ps : List PairV) (a : List UInt8) (h : ordL a ps = true) : ∀ p ∈ ps, lessL a p.key = -1 := by
  induction ps generalizing a with
  | nil => intro p hp; cases hp
  | cons q ps ih =>
    simp only [ordL, Bool.and_eq_true, decide_eq_true_eq] at h
    intro p hp
    rcases List.mem_cons.1 hp with rfl | hp
    · exact h.1
    · exact lessL_trans _ _ _ h.1 (ih _ h.2 p hp)
theorem ord_find (ps : List PairV) (a : List UInt8) (h : ordL a ps = true) (p : PairV) (hp : p ∈ ps) : ps.find? (fun q => decide (q.key = p.key)) = some p := by
  induction ps generalizing a with
  | nil => cases hp
  | cons q ps ih =>
    simp only [ordL, Bool.and_eq_true, decide_eq_true_eq] at h
    rcases List.mem_cons.1 hp with rfl | hp
    · rw [List.find?_cons_of_pos (by simp)]
    · rw [List.find?_cons_of_neg, ih _ h.2 hp]
      have := ord_above ps _ h.2 p hp
      simp only [decide_eq_true_eq]
      intro e
      rw [e, lessL_self] at this
      omega
/-- A pair behind others that has this key: none ahead of it has. -/
theorem find_snoc (ps : List PairV) (p : PairV) (h : ordL [] (ps ++ [p]) = true) (key : List UInt8) (hk : p.key = key) : (ps ++ [p]).find? (fun q => decide (q.key = key)) = some p := by
  subst hk
  exact ord_find _ _ h p (by simp)
theorem find_snoc' (ps : List PairV) (p : PairV) (key : List UInt8) (hk : p.key ≠ key) : (ps ++ [p]).find? (fun q => decide (q.key = key)) = ps.find? (fun q => decide (q.key = key)) := by
  rw [List.find?_append]
  simp [hk]
/-- What the walk ends with. -/
theorem stands_end (xs : List UInt8) : ∃ pre k, StandsB xs pre k ∧ (k = xs.length ∨ (k < xs.length ∧ (entRd xs (lastK pre) k).1 ≠ 0) ∨ (k < xs.length ∧ (entRd xs (lastK pre) k).1 = 0 ∧ pre.length = 4096)) := by
  suffices hs : ∀ m pre k, xs.length - k ≤ m → StandsB xs pre k → ∃ pre k, StandsB xs pre k ∧ (k = xs.length ∨ (k < xs.length ∧ (entRd xs (lastK pre) k).1 ≠ 0) ∨ (k < xs.length ∧ (entRd xs (lastK pre) k).1 = 0 ∧ pre.length = 4096)) from
    hs _ _ _ (Nat.le_refl _) (StandsB.start xs)
  intro m
  induction m with
  | zero =>
    intro pre k hk hst
    exact ⟨pre, k, hst, .inl (by have := hst.1; omega)⟩
  | succ m ih =>
    intro pre k hk hst
    by_cases h1 : k < xs.length
    · by_cases h2 : (entRd xs (lastK pre) k).1 = 0
      · by_cases h3 : pre.length = 4096
        · exact ⟨pre, k, hst, .inr (.inr ⟨h1, h2, h3⟩)⟩
        · obtain ⟨n, e, hn, hl, _⟩ := ent_ok h2
          exact ih _ _ (by rw [e]; omega) (hst.step h1 h2 h3)
      · exact ⟨pre, k, hst, .inr (.inl ⟨h1, h2⟩)⟩
    · exact ⟨pre, k, hst, .inl (by have := hst.1; omega)⟩
theorem read_facts (xs : List UInt8) : (readAll xs).1.length ≤ 4096 ∧ (readAll xs).1.any PairV.long = false ∧ ordL [] (readAll xs).1 = true ∧ ((readAll xs).2 = 0 → packL [] (readAll xs).1 = xs) := by
  obtain ⟨pre, k, hst, h | ⟨h1, h2⟩ | ⟨h1, h2, h3⟩⟩ := stands_end xs
  · rw [hst.done h]
    refine ⟨hst.2.2.1, hst.2.2.2.2.2.1, hst.2.2.2.2.1, fun _ => ?_⟩
    have := hst.2.2.2.1
    rw [h, List.take_length] at this
    exact this.symm
  · rw [hst.bad h1 h2]
    exact ⟨hst.2.2.1, hst.2.2.2.2.2.1, hst.2.2.2.2.1, fun h => absurd h h2⟩
  · rw [hst.many h1 h2 h3]
    exact ⟨hst.2.2.1, hst.2.2.2.2.2.1, hst.2.2.2.2.1, fun h => by simp at h⟩
theorem build_read (xs : List UInt8) (h : (readAll xs).2 = 0) : buildOf (readAll xs).1 = (xs, 0) := by
  obtain ⟨h1, h2, h3, h4⟩ := read_facts xs
  unfold buildOf
  rw [if_neg (by rw [h2]; simp; omega), if_pos h3, h4 h]
theorem build_ok {ps : List PairV} (h : (buildOf ps).2 = 0) : ps.length ≤ 4096 ∧ ps.any PairV.long = false ∧ ordL [] ps = true ∧ (buildOf ps).1 = packL [] ps := by
  unfold buildOf at h ⊢
  by_cases h1 : 4096 < ps.length ∨ ps.any PairV.long = true
  · rw [if_pos h1] at h; simp at h
  · rw [if_neg h1] at h ⊢
    by_cases h2 : ordL [] ps = true
    · rw [if_pos h2]
      refine ⟨by omega, ?_, h2, rfl⟩
      cases h3 : ps.any PairV.long
      · rfl
      · exact absurd (.inr h3) h1
    · rw [if_neg h2] at h; simp at h
theorem stands_pack (ps : List PairV) (h1 : ps.length ≤ 4096) (h2 : ps.any PairV.long = false) (h3 : ordL [] ps = true) : ∀ n, n ≤ ps.length → StandsB (packL [] ps) (ps.take n) (packL [] (ps.take n)).length := by
  intro n
  induction n with
  | zero => intro _; exact StandsB.start _
  | succ n ih =>
    intro hn
    have hst := ih (by omega)
    have hlt : n < ps.length := by omega
    obtain ⟨t, ht⟩ : ∃ t, packL [] ps = packL [] (ps.take n) ++ (entL (lastK (ps.take n)) ps[n] ++ t) := by
      have e1 : ps = (ps.take n ++ [ps[n]]) ++ ps.drop (n + 1) := by
        rw [← take_snoc' ps n hlt, List.take_append_drop]
      have hp : ∀ (r q : List PairV) (a : List UInt8), ∃ t, packL a (q ++ r) = packL a q ++ t := by
        intro r q
        induction q with
        | nil => intro a; exact ⟨packL a r, rfl⟩
        | cons x q ih =>
          intro a
          obtain ⟨t, ht⟩ := ih x.key
          exact ⟨t, by rw [List.cons_append, packL, ht, packL, List.append_assoc]⟩
      obtain ⟨t, ht⟩ := hp (ps.drop (n + 1)) (ps.take n ++ [ps[n]]) []
      refine ⟨t, ?_⟩
      rw [← e1, pack_snoc] at ht
      rw [ht, List.append_assoc]
    have ho : lessL (lastK (ps.take n)) ps[n].key = -1 := by
      have ho : ∀ (r q : List PairV) (a : List UInt8), ordL a (q ++ r) = true → ordL a q = true := by
        intro r q
        induction q with
        | nil => intro a _; rfl
        | cons x q ih =>
          intro a h
          rw [List.cons_append, ordL, Bool.and_eq_true] at h
          rw [ordL, Bool.and_eq_true]
          exact ⟨h.1, ih _ h.2⟩
      have e1 : ps = (ps.take n ++ [ps[n]]) ++ ps.drop (n + 1) := by
        rw [← take_snoc' ps n hlt, List.take_append_drop]
      have h4 := h3
      rw [e1] at h4
      have h5 := ho _ _ _ h4
      rw [ord_snoc] at h5
      rw [Bool.and_eq_true] at h5
      exact of_decide_eq_true h5.2
    have hlong : ps[n].long = false := by
      rw [List.any_eq_false] at h2
      simpa using h2 _ (List.getElem_mem hlt)
    have hr := ent_back (packL [] (ps.take n)) (lastK (ps.take n)) t ps[n] hlong ho
    rw [← ht] at hr
    have hlen : 0 < (entL (lastK (ps.take n)) ps[n]).length := by
      unfold entL
      rw [List.length_append]
      have := (enc_length (com (lastK (ps.take n)) ps[n].key)).1
      omega
    have := hst.step (by rw [ht]; simp only [List.length_append]; omega) (by rw [hr]) (by rw [List.length_take]; omega)
    rw [hr] at this
    rw [take_snoc' ps n hlt, pack_snoc, List.length_append]
    exact this
theorem read_pack (ps : List PairV) (h1 : ps.length ≤ 4096) (h2 : ps.any PairV.long = false) (h3 : ordL [] ps = true) : readAll (packL [] ps) = (ps, 0) := by
  have := stands_pack ps h1 h2 h3 ps.length (Nat.le_refl _)
  rw [List.take_length] at this
  exact this.done rfl
theorem find_pack (ps : List PairV) (h1 : ps.length ≤ 4096) (h2 : ps.any PairV.long = false) (h3 : ordL [] ps = true) (i : Nat) (hi : i < ps.length) : findOf (packL [] ps) ps[i].key = (ps[i].val, true, 0) := by
  unfold findOf
  rw [read_pack ps h1 h2 h3, if_pos rfl]
  dsimp only
  rw [ord_find ps [] h3 ps[i] (List.getElem_mem hi)]
theorem wk_build : buildOf [⟨[97, 98], [120]⟩, ⟨[97, 99], []⟩] = ([0, 2, 1, 97, 98, 120, 1, 1, 0, 99], 0) := by decide +kernel
theorem wk_find : findOf [0, 2, 1, 97, 98, 120, 1, 1, 0, 99] [97, 98] = ([120], true, 0) := by decide +kernel
theorem wk_read : readOf [1, 0, 0] = ([], 11) := by decide +kernel
/-- How long a block is at the most. -/
theorem pack_len (ps : List PairV) (a : List UInt8) (h : ps.any PairV.long = false) : (packL a ps).length ≤ 4326 * ps.length := by
  induction ps generalizing a with
  | nil => simp [packL]
  | cons p ps ih =>
    simp only [List.any_cons, Bool.or_eq_false_iff] at h
    have := ih p.key h.2
    have h1 := h.1
    unfold PairV.long at h1
    simp at h1
    have e1 := (enc_length (com a p.key)).2
    have e2 := (enc_length (p.key.length - com a p.key)).2
    have e3 := (enc_length p.val.length).2
    simp only [packL, entL, List.length_append, List.length_drop, List.length_cons]
    omega
end Go.Proofs.Ythaciglechijkaa
