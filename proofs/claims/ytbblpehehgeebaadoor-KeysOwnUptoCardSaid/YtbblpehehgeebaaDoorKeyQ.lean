/-
  Plain laws on keys: rows in order, and there and back. No program in sight.
-/
import Derived.Test.YtbblpehehgeebaaDoorKeyP2
namespace Go.Proofs.YtbblpehehgeebaaDoor
open Go.RowKit
set_option linter.unusedVariables false

/-! ### order -/
def cmpP (p q : PartV) : Int :=
  if p.isText = true then (if q.isText = true then lessL p.text q.text else 1)
  else if q.isText = true then -1
  else if p.num < q.num then -1 else if q.num < p.num then 1 else 0
def cmpL : List PartV → List PartV → Int
  | [], [] => 0
  | [], _ :: _ => -1
  | _ :: _, [] => 1
  | p :: a, q :: b => if cmpP p q ≠ 0 then cmpP p q else cmpL a b
theorem lessL_def (a b : UInt8) (x y : List UInt8) : lessL (a :: x) (b :: y) = if a.toNat < b.toNat then -1 else if b.toNat < a.toNat then 1 else lessL x y := by rw [lessL]
theorem lessL_anti : ∀ x y : List UInt8, lessL y x = - lessL x y
  | [], [] => rfl
  | [], _ :: _ => rfl
  | _ :: _, [] => rfl
  | a :: x, b :: y => by
    have h := lessL_anti x y
    unfold lessL
    by_cases h1 : a.toNat < b.toNat
    · rw [if_neg (by omega), if_pos h1, if_pos h1]; rfl
    · by_cases h2 : b.toNat < a.toNat
      · rw [if_pos h2, if_neg h1, if_pos h2]
      · rw [if_neg h2, if_neg h1, if_neg h1, if_neg h2, h]
theorem cmpP_anti (p q : PartV) : cmpP q p = - cmpP p q := by
  unfold cmpP
  by_cases h1 : p.isText = true <;> by_cases h2 : q.isText = true
  · simp only [h1, h2, if_true]; exact lessL_anti _ _
  · simp [h1, h2]
  · simp [h1, h2]
  · rw [if_neg h2, if_neg h1, if_neg h1, if_neg h2]
    by_cases h3 : p.num < q.num
    · rw [if_neg (show ¬ q.num < p.num by omega), if_pos h3, if_pos h3]; rfl
    · by_cases h4 : q.num < p.num
      · rw [if_pos h4, if_neg h3, if_pos h4]
      · rw [if_neg h4, if_neg h3, if_neg h3, if_neg h4]; rfl
theorem cmpL_anti : ∀ a b : List PartV, cmpL b a = - cmpL a b
  | [], [] => rfl
  | [], _ :: _ => rfl
  | _ :: _, [] => rfl
  | p :: a, q :: b => by
    have h := cmpL_anti a b
    have h2 := cmpP_anti p q
    unfold cmpL
    by_cases h1 : cmpP p q = 0
    · rw [h2, h1, if_neg (by simp), if_neg (by simp), h]
    · rw [h2, if_pos (by omega), if_pos h1]
theorem lessL_eq : ∀ x y : List UInt8, lessL x y = 0 → x = y
  | [], [], _ => rfl
  | [], _ :: _, h => by simp [lessL] at h
  | _ :: _, [], h => by simp [lessL] at h
  | a :: x, b :: y, h => by
    unfold lessL at h
    by_cases h1 : a.toNat < b.toNat
    · rw [if_pos h1] at h; omega
    · by_cases h2 : b.toNat < a.toNat
      · rw [if_neg h1, if_pos h2] at h; omega
      · rw [if_neg h1, if_neg h2] at h
        rw [lessL_eq x y h, UInt8.toNat_inj.1 (show a.toNat = b.toNat by omega)]
theorem lessL_pre (p x y : List UInt8) : lessL (p ++ x) (p ++ y) = lessL x y := by
  induction p with
  | nil => rfl
  | cons a p ih => rw [List.cons_append, List.cons_append, lessL_cons, ih]
theorem fold_lt : ∀ (l m : List UInt8) (a b : Nat), l.length = m.length → a < b → l.foldl (fun v c => v * 256 + c.toNat) a < m.foldl (fun v c => v * 256 + c.toNat) b
  | [], [], a, b, _, h => h
  | c :: l, d :: m, a, b, hl, h => by
    rw [List.foldl_cons, List.foldl_cons]
    refine fold_lt l m _ _ (by simpa using hl) ?_
    have := c.toNat_lt
    have := d.toNat_lt
    omega
theorem num_order : ∀ (l m x y : List UInt8) (a : Nat), l.length = m.length → l.foldl (fun v c => v * 256 + c.toNat) a ≠ m.foldl (fun v c => v * 256 + c.toNat) a →
    lessL (l ++ x) (m ++ y) = if l.foldl (fun v c => v * 256 + c.toNat) a < m.foldl (fun v c => v * 256 + c.toNat) a then -1 else 1
  | [], [], x, y, a, _, h => absurd rfl h
  | c :: l, d :: m, x, y, a, hl, h => by
    rw [List.foldl_cons, List.foldl_cons] at h ⊢
    rw [List.cons_append, List.cons_append]
    have hl2 : l.length = m.length := by simpa using hl
    by_cases h1 : c.toNat < d.toNat
    · rw [if_pos (fold_lt l m _ _ hl2 (by omega)), lessL, if_pos h1]
    · by_cases h2 : d.toNat < c.toNat
      · have := fold_lt m l _ _ hl2.symm (show a * 256 + d.toNat < a * 256 + c.toNat by omega)
        rw [if_neg (by omega), lessL, if_neg h1, if_pos h2]
      · obtain rfl := UInt8.toNat_inj.1 (show c.toNat = d.toNat by omega)
        rw [lessL_cons]
        exact num_order l m x y _ hl2 h
theorem be8_order (u v : Nat) (hu : u < 18446744073709551616) (hv : v < 18446744073709551616) (h : u ≠ v) (x y : List UInt8) : lessL (be8 u ++ x) (be8 v ++ y) = if u < v then -1 else 1 := by
  have e1 := be8_num u hu
  have e2 := be8_num v hv
  unfold numB at e1 e2
  rw [num_order (be8 u) (be8 v) x y 0 rfl (by rw [e1, e2]; exact h), e1, e2]
theorem nz (c : UInt8) (h : c ≠ 0) : 0 < c.toNat := by
  rcases Nat.eq_zero_or_pos c.toNat with h1 | h1
  · exact absurd (UInt8.toNat_inj.1 h1) h
  · exact h1
theorem esc_order : ∀ (s t x y : List UInt8), lessL s t ≠ 0 → lessL (esc s ++ 0 :: 1 :: x) (esc t ++ 0 :: 1 :: y) = lessL s t
  | [], [], _, _, h => absurd rfl h
  | [], d :: t, x, y, _ => by
    unfold esc
    by_cases h : d = 0
    · subst h
      rw [if_pos rfl]
      show lessL (0 :: 1 :: x) (0 :: 255 :: (esc t ++ 0 :: 1 :: y)) = _
      rw [lessL_cons, lessL_def, if_pos (by decide)]
      rfl
    · have := nz d h
      rw [if_neg h]
      show lessL (0 :: 1 :: x) (d :: (esc t ++ 0 :: 1 :: y)) = _
      rw [lessL_def, if_pos (by show 0 < _; omega)]
      rfl
  | c :: s, [], x, y, _ => by
    unfold esc
    by_cases h : c = 0
    · subst h
      rw [if_pos rfl]
      show lessL (0 :: 255 :: (esc s ++ 0 :: 1 :: x)) (0 :: 1 :: y) = _
      rw [lessL_cons, lessL_def, if_neg (by decide), if_pos (by decide)]
      rfl
    · have := nz c h
      rw [if_neg h]
      show lessL (c :: (esc s ++ 0 :: 1 :: x)) (0 :: 1 :: y) = _
      rw [lessL_def, if_neg (by show ¬ _ < 0; omega), if_pos (by show 0 < _; omega)]
      rfl
  | c :: s, d :: t, x, y, h => by
    by_cases hcd : c = d
    · subst hcd
      rw [lessL_cons] at h ⊢
      have ih := esc_order s t x y h
      unfold esc
      by_cases h0 : c = 0
      · rw [if_pos h0, if_pos h0, List.cons_append, List.cons_append, List.cons_append, List.cons_append, lessL_cons, lessL_cons, ih]
      · rw [if_neg h0, if_neg h0, List.cons_append, List.cons_append, lessL_cons, ih]
    · have hne : c.toNat ≠ d.toNat := fun e => hcd (UInt8.toNat_inj.1 e)
      unfold esc
      rw [lessL_def c d s t]
      by_cases h0 : c = 0
      · subst h0
        have hd := nz d (fun e => hcd e.symm)
        rw [if_pos rfl, if_neg (fun e => hcd e.symm), List.cons_append, List.cons_append, List.cons_append]
        have hz : (0 : UInt8).toNat = 0 := rfl
        simp only [hz]
        rw [lessL_def]
        simp only [hz]
        rw [if_pos hd, if_pos hd]
      · rw [if_neg h0]
        by_cases h1 : d = 0
        · subst h1
          have hc := nz c h0
          rw [if_pos rfl, List.cons_append, List.cons_append, List.cons_append]
          have hz : (0 : UInt8).toNat = 0 := rfl
          simp only [hz]
          rw [lessL_def]
          simp only [hz]
          rw [if_neg (by omega), if_pos hc, if_neg (by omega), if_pos hc]
        · rw [if_neg h1, List.cons_append, List.cons_append, lessL_def]
          by_cases h2 : c.toNat < d.toNat
          · simp only [if_pos h2]
          · have h3 : d.toNat < c.toNat := by omega
            simp only [if_neg h2, if_pos h3]
theorem part_order (p q : PartV) (hp : p.ok) (hq : q.ok) (h : cmpP p q ≠ 0) (x y : List UInt8) : lessL (partE p ++ x) (partE q ++ y) = cmpP p q := by
  obtain ⟨b, n, s⟩ := p
  obtain ⟨d, m, t⟩ := q
  obtain ⟨p0, p1⟩ := hp
  obtain ⟨q0, q1⟩ := hq
  simp only at p0 p1 q0 q1
  cases b <;> cases d
  · simp only [cmpP, partE, Bool.false_eq_true, if_false] at h ⊢
    have hnm : n ≠ m := fun e => by subst e; simp at h
    rw [List.cons_append, List.cons_append, lessL_cons, be8_order _ _ (by omega) (by omega) (by omega)]
    by_cases h1 : n < m
    · rw [if_pos h1, if_pos (by omega)]
    · rw [if_neg h1, if_pos (show m < n by omega), if_neg (by omega)]
  · simp only [cmpP, partE, Bool.false_eq_true, if_false, if_true]
    rw [List.cons_append, List.cons_append, lessL_def, if_pos (by decide)]
  · simp only [cmpP, partE, Bool.false_eq_true, if_false, if_true]
    rw [List.cons_append, List.cons_append, lessL_def, if_neg (by decide), if_pos (by decide)]
  · simp only [cmpP, partE, if_true] at h ⊢
    rw [List.cons_append, List.cons_append, lessL_cons]
    have e : ∀ u z : List UInt8, esc u ++ [0, 1] ++ z = esc u ++ (0 :: 1 :: z) := fun u z => by simp
    rw [e, e]
    exact esc_order s t x y h
theorem cmpP_eq (p q : PartV) (ho : p.odd = false) (hq : q.odd = false) (h : cmpP p q = 0) : p = q := by
  obtain ⟨b, n, s⟩ := p
  obtain ⟨d, m, t⟩ := q
  cases b <;> cases d
  · simp [PartV.odd] at ho hq
    subst ho hq
    simp only [cmpP, Bool.false_eq_true, if_false] at h
    by_cases h1 : n < m
    · rw [if_pos h1] at h; omega
    · by_cases h2 : m < n
      · rw [if_neg h1, if_pos h2] at h; omega
      · rw [show n = m by omega]
  · simp [cmpP] at h
  · simp [cmpP] at h
  · simp [PartV.odd] at ho hq
    subst ho hq
    simp only [cmpP, if_true] at h
    rw [lessL_eq s t h]
theorem partE_cons (p : PartV) : ∃ c l, partE p = c :: l := by
  unfold partE
  split
  · exact ⟨_, _, rfl⟩
  · exact ⟨_, _, rfl⟩
theorem enc_order : ∀ a b : List PartV, (∀ p ∈ a, p.ok ∧ p.odd = false) → (∀ p ∈ b, p.ok ∧ p.odd = false) → lessL (encL a) (encL b) = cmpL a b
  | [], [], _, _ => rfl
  | [], q :: b, _, _ => by
    obtain ⟨c, l, e⟩ := partE_cons q
    unfold encL
    rw [List.flatMap_cons, e]
    rfl
  | p :: a, [], _, _ => by
    obtain ⟨c, l, e⟩ := partE_cons p
    unfold encL
    rw [List.flatMap_cons, e]
    rfl
  | p :: a, q :: b, ha, hb => by
    have ih := enc_order a b (fun x hx => ha x (by simp [hx])) (fun x hx => hb x (by simp [hx]))
    obtain ⟨p1, p2⟩ := ha p (by simp)
    obtain ⟨q1, q2⟩ := hb q (by simp)
    unfold encL at ih ⊢
    rw [List.flatMap_cons, List.flatMap_cons]
    unfold cmpL
    by_cases h : cmpP p q = 0
    · rw [if_neg (by simpa using h), ← cmpP_eq p q p2 q2 h, lessL_pre, ih]
    · rw [if_pos h]
      exact part_order p q p1 q1 h _ _
theorem encOf_ok (ps : List PartV) (h : (encOf ps).2 = 0) : encOf ps = (encL ps, 0) ∧ (∀ p ∈ ps, p.odd = false) ∧ (∀ p ∈ ps, p.long = false) ∧ ps.length ≤ 8 ∧ (encL ps).length ≠ 0 ∧ (encL ps).length ≤ 200 := by
  unfold encOf at h ⊢
  by_cases h1 : 8 < ps.length ∨ ps.any PartV.long = true
  · rw [if_pos h1] at h; simp at h
  · by_cases h2 : ps.any PartV.odd = true
    · rw [if_neg h1, if_pos h2] at h; simp at h
    · by_cases h3 : (encL ps).length = 0 ∨ 200 < (encL ps).length
      · rw [if_neg h1, if_neg h2, if_pos h3] at h; simp at h
      · rw [if_neg h1, if_neg h2, if_neg h3]
        refine ⟨rfl, fun p hp => ?_, fun p hp => ?_, by omega, by omega, by omega⟩
        · cases hO : p.odd
          · rfl
          · exact absurd (List.any_eq_true.2 ⟨p, hp, hO⟩) h2
        · cases hO : p.long
          · rfl
          · exact absurd (.inr (List.any_eq_true.2 ⟨p, hp, hO⟩)) h1
theorem enc_order_of (a b : List PartV) (ha : ∀ p ∈ a, p.ok) (hb : ∀ p ∈ b, p.ok) (h1 : (encOf a).2 = 0) (h2 : (encOf b).2 = 0) : lessL (encOf a).1 (encOf b).1 = cmpL a b := by
  obtain ⟨e1, o1, _⟩ := encOf_ok a h1
  obtain ⟨e2, o2, _⟩ := encOf_ok b h2
  rw [e1, e2]
  exact enc_order a b (fun p hp => ⟨ha p hp, o1 p hp⟩) (fun p hp => ⟨hb p hp, o2 p hp⟩)

/-! ### there and back -/
theorem partsRd_enc : ∀ (ps : List PartV) (f : Nat), (encL ps).length < f → (∀ p ∈ ps, p.ok ∧ p.odd = false) → partsRd f (encL ps) = (0, ps)
  | [], 0, h, _ => by omega
  | [], f + 1, _, _ => rfl
  | p :: ps, 0, h, _ => by omega
  | p :: ps, f + 1, h, hp => by
    have hc : encL (p :: ps) = partE p ++ encL ps := by simp [encL]
    obtain ⟨c, l, e⟩ := partE_cons p
    have hr := partRd_enc p (encL ps) (hp p (by simp)).1 (hp p (by simp)).2
    rw [hc] at h ⊢
    rw [e] at hr h ⊢
    rw [List.length_append, List.length_cons] at h
    have ih := partsRd_enc ps f (by omega) (fun q hq => hp q (by simp [hq]))
    rw [List.cons_append] at hr ⊢
    unfold partsRd
    rw [hr]
    simp only [if_true]
    rw [ih]
theorem dec_enc (ps : List PartV) (hok : ∀ p ∈ ps, p.ok) (h : (encOf ps).2 = 0) : decOf (encOf ps).1 = (ps, 0) := by
  obtain ⟨e, ho, hlo, h8, hz, h200⟩ := encOf_ok ps h
  rw [e]
  have hr := partsRd_enc ps ((encL ps).length + 1) (by omega) (fun p hp => ⟨hok p hp, ho p hp⟩)
  unfold decOf
  simp only
  rw [hr]
  have hal : ¬ (8 < ps.length ∨ ps.any PartV.long = true) := by
    intro h
    rcases h with h | h
    · omega
    · obtain ⟨x, hx, hx2⟩ := List.any_eq_true.1 h
      rw [hlo x hx] at hx2
      cases hx2
  simp only [ne_eq, not_true_eq_false, if_false]
  rw [if_neg hal, if_neg (by omega)]
theorem numB8_lt (l : List UInt8) (h : l.length = 8) : numB l < 18446744073709551616 := by
  match l, h with
  | [a, b, c, d, e, f, g, i], _ =>
    have := a.toNat_lt
    have := b.toNat_lt
    have := c.toNat_lt
    have := d.toNat_lt
    have := e.toNat_lt
    have := f.toNat_lt
    have := g.toNat_lt
    have := i.toNat_lt
    simp only [numB, List.foldl_cons, List.foldl_nil]
    omega
theorem be8_of_num (l : List UInt8) (h : l.length = 8) : be8 (numB l) = l := by
  match l, h with
  | [a, b, c, d, e, f, g, i], _ =>
    have ha := a.toNat_lt
    have hb := b.toNat_lt
    have hc := c.toNat_lt
    have hd := d.toNat_lt
    have he := e.toNat_lt
    have hf := f.toNat_lt
    have hg := g.toNat_lt
    have hi := i.toNat_lt
    simp only [numB, List.foldl_cons, List.foldl_nil, be8]
    have key : ∀ (k : Nat) (z : UInt8), k % 256 = z.toNat → UInt8.ofNat k = z := fun k z hz => by
      apply UInt8.toNat_inj.1
      rw [UInt8.toNat_ofNat']
      exact hz
    rw [key _ a (by omega), key _ b (by omega), key _ c (by omega), key _ d (by omega), key _ e (by omega), key _ f (by omega), key _ g (by omega), key _ i (by omega)]
theorem textRd_back : ∀ (l : List UInt8), (textRd l).1 = 0 → l = esc (textRd l).2.1 ++ 0 :: 1 :: (textRd l).2.2
  | [], h => by simp [textRd] at h
  | [x], h => by simp [textRd] at h
  | x :: y :: l, h => by
    have h1 := textRd_back l
    have h2 := textRd_back (y :: l)
    unfold textRd at h ⊢
    by_cases hx : x = 0
    · subst hx
      rw [if_pos rfl] at h ⊢
      by_cases hy : y = 255
      · subst hy
        rw [if_pos rfl] at h ⊢
        simp only at h ⊢
        have := h1 h
        rw [esc, if_pos rfl, List.cons_append, List.cons_append, ← this]
      · rw [if_neg hy] at h ⊢
        by_cases hy1 : y = 1
        · subst hy1
          rw [if_pos rfl]
          rfl
        · rw [if_neg hy1] at h
          simp at h
    · rw [if_neg hx] at h ⊢
      simp only at h ⊢
      have := h2 h
      rw [esc, if_neg hx, List.cons_append, ← this]
theorem partRd_back (c : UInt8) (l : List UInt8) (h : (partRd (c :: l)).1 = 0) : c :: l = partE (partRd (c :: l)).2.1 ++ (partRd (c :: l)).2.2 ∧ (partRd (c :: l)).2.1.ok ∧ (partRd (c :: l)).2.1.odd = false := by
  rw [partRd_cons] at h ⊢
  by_cases h1 : c = 1
  · subst h1
    rw [if_pos rfl] at h ⊢
    by_cases h2 : l.length < 8
    · rw [if_pos h2] at h; simp at h
    · rw [if_neg h2] at h ⊢
      have hl : (l.take 8).length = 8 := by rw [List.length_take]; omega
      have hlt := numB8_lt _ hl
      refine ⟨?_, ⟨by simp only; omega, by simp only; omega⟩, by simp [PartV.odd]⟩
      simp only [partE, Bool.false_eq_true, if_false]
      rw [show ((numB (l.take 8) : Int) - 9223372036854775808 + 9223372036854775808).toNat = numB (l.take 8) by omega, be8_of_num _ hl, List.cons_append, List.take_append_drop]
  · rw [if_neg h1] at h ⊢
    by_cases h2 : c = 2
    · subst h2
      rw [if_pos rfl] at h ⊢
      simp only at h ⊢
      refine ⟨?_, ⟨by simp only; omega, by simp only; omega⟩, by simp [PartV.odd]⟩
      have := textRd_back l h
      simp only [partE, if_true]
      rw [List.cons_append, List.append_assoc]
      exact congrArg (List.cons 2) this
    · rw [if_neg h2] at h
      simp at h
theorem partsRd_back : ∀ (f : Nat) (l : List UInt8), l.length < f → (partsRd f l).1 = 0 → encL (partsRd f l).2 = l ∧ ∀ p ∈ (partsRd f l).2, p.ok ∧ p.odd = false
  | 0, l, h, _ => by omega
  | f + 1, [], _, _ => ⟨rfl, fun p hp => by simp [partsRd] at hp⟩
  | f + 1, c :: l, hl, h => by
    unfold partsRd at h ⊢
    by_cases h1 : (partRd (c :: l)).1 = 0
    · rw [if_pos h1] at h ⊢
      simp only at h ⊢
      have hr := partRd_rest c l
      obtain ⟨b1, b2, b3⟩ := partRd_back c l h1
      rw [List.length_cons] at hl
      obtain ⟨i1, i2⟩ := partsRd_back f (partRd (c :: l)).2.2 (by omega) h
      refine ⟨?_, fun p hp => ?_⟩
      · unfold encL at i1 ⊢
        rw [List.flatMap_cons, i1, ← b1]
      · rcases List.mem_cons.1 hp with rfl | hp
        · exact ⟨b2, b3⟩
        · exact i2 p hp
    · rw [if_neg h1] at h
      exact absurd h h1
theorem enc_dec (b : List UInt8) (h : (decOf b).2 = 0) : encOf (decOf b).1 = (b, 0) ∧ (∀ p ∈ (decOf b).1, p.ok) := by
  unfold decOf at h ⊢
  by_cases h1 : (partsRd (b.length + 1) b).1 ≠ 0
  · rw [if_pos h1] at h; simp only at h; exact absurd h h1
  · rw [if_neg h1] at h ⊢
    by_cases h2 : 8 < (partsRd (b.length + 1) b).2.length ∨ (partsRd (b.length + 1) b).2.any PartV.long = true
    · rw [if_pos h2] at h; simp at h
    · rw [if_neg h2] at h ⊢
      by_cases h3 : b.length = 0 ∨ 200 < b.length
      · rw [if_pos h3] at h; simp at h
      · rw [if_neg h3] at h ⊢
        obtain ⟨i1, i2⟩ := partsRd_back (b.length + 1) b (by omega) (by simpa using h1)
        simp only
        refine ⟨?_, fun p hp => (i2 p hp).1⟩
        have hod : ¬ (partsRd (b.length + 1) b).2.any PartV.odd = true := by
          intro h
          obtain ⟨x, hx, hx2⟩ := List.any_eq_true.1 h
          rw [(i2 x hx).2] at hx2
          cases hx2
        unfold encOf
        rw [if_neg h2, if_neg hod, i1, if_neg h3]
theorem dec_none (b : List UInt8) (h : (decOf b).2 ≠ 0) : (decOf b).1 = [] := by
  unfold decOf at h ⊢
  by_cases h1 : (partsRd (b.length + 1) b).1 ≠ 0
  · rw [if_pos h1]
  · rw [if_neg h1] at h ⊢
    by_cases h2 : 8 < (partsRd (b.length + 1) b).2.length ∨ (partsRd (b.length + 1) b).2.any PartV.long = true
    · rw [if_pos h2]
    · rw [if_neg h2] at h ⊢
      by_cases h3 : b.length = 0 ∨ 200 < b.length
      · rw [if_pos h3]
      · rw [if_neg h3] at h
        simp at h
end Go.Proofs.YtbblpehehgeebaaDoor
