/-
  Plain laws of layer 9: pairs that are packed, each key by what it shares with the one ahead. No program in sight.
-/
import Derived.Test.YthaciglechijkaaVarintP
import Derived.Test.YthaciglechijkaaKeyP
namespace Go.Proofs.Ythaciglechijkaa
set_option linter.unusedVariables false

structure PairV where
  key : List UInt8
  val : List UInt8
instance : DecidableEq PairV := fun p q =>
  if h : p.key = q.key ∧ p.val = q.val then .isTrue (by cases p; cases q; simp_all) else .isFalse (fun e => h (by subst e; exact ⟨rfl, rfl⟩))

/-- How many bytes two strings begin alike. -/
def com : List UInt8 → List UInt8 → Nat
  | a :: x, b :: y => if a = b then com x y + 1 else 0
  | _, _ => 0
theorem com_nil (x : List UInt8) : com [] x = 0 := by cases x <;> rfl
theorem com_nil' (x : List UInt8) : com x [] = 0 := by cases x <;> rfl
theorem com_le (x y : List UInt8) : com x y ≤ x.length ∧ com x y ≤ y.length := by
  induction x generalizing y with
  | nil => simp [com_nil]
  | cons a x ih =>
    cases y with
    | nil => simp [com_nil']
    | cons b y =>
      unfold com
      have := ih y
      split <;> simp <;> omega
theorem com_take (x y : List UInt8) : x.take (com x y) = y.take (com x y) := by
  induction x generalizing y with
  | nil => simp [com_nil]
  | cons a x ih =>
    cases y with
    | nil => simp [com_nil']
    | cons b y =>
      unfold com
      split
      · rename_i h; subst h; simp [ih y]
      · simp
/-- The end of what is alike. -/
theorem com_here (x y : List UInt8) (k : Nat) (hp : x.take k = y.take k) (hx : k ≤ x.length) (hy : k ≤ y.length) (he : k = x.length ∨ k = y.length ∨ ∃ (h1 : k < x.length) (h2 : k < y.length), x[k] ≠ y[k]) : com x y = k := by
  induction x generalizing y k with
  | nil => simp at hx; subst hx; exact com_nil y
  | cons a x ih =>
    cases y with
    | nil => simp at hy; subst hy; exact com_nil' _
    | cons b y =>
      cases k with
      | zero =>
        rcases he with h | h | ⟨h1, h2, h3⟩
        · simp at h
        · simp at h
        · unfold com; rw [if_neg (by simpa using h3)]
      | succ k =>
        simp at hp
        obtain ⟨rfl, hp⟩ := hp
        unfold com
        rw [if_pos rfl, ih y k hp (by simpa using hx) (by simpa using hy) ?_]
        rcases he with h | h | ⟨h1, h2, h3⟩
        · left; simpa using h
        · right; left; simpa using h
        · right; right; exact ⟨by simpa using h1, by simpa using h2, by simpa using h3⟩
/-- A pair's bytes, behind a key. -/
def entL (a : List UInt8) (p : PairV) : List UInt8 :=
  enc (com a p.key) ++ (enc (p.key.length - com a p.key) ++ (enc p.val.length ++ (p.key.drop (com a p.key) ++ p.val)))
def packL : List UInt8 → List PairV → List UInt8
  | _, [] => []
  | a, p :: ps => entL a p ++ packL p.key ps
def lastK (ps : List PairV) : List UInt8 := (ps.getLast?.map PairV.key).getD []
theorem lastK_snoc (ps : List PairV) (p : PairV) : lastK (ps ++ [p]) = p.key := by simp [lastK]
theorem packL_snoc (ps : List PairV) (p : PairV) (a : List UInt8) : packL a (ps ++ [p]) = packL a ps ++ entL ((ps.getLast?.map PairV.key).getD a) p := by
  induction ps generalizing a with
  | nil => simp [packL]
  | cons q ps ih =>
    rw [List.cons_append, packL, ih, packL, List.append_assoc]
    congr 3
    cases ps with
    | nil => simp
    | cons r ps => simp [List.getLast?_cons]
theorem pack_snoc (ps : List PairV) (p : PairV) : packL [] (ps ++ [p]) = packL [] ps ++ entL (lastK ps) p := packL_snoc ps p []
/-- Each key above the one ahead, the first above a. -/
def ordL : List UInt8 → List PairV → Bool
  | _, [] => true
  | a, p :: ps => decide (lessL a p.key = -1) && ordL p.key ps
theorem ordL_snoc (ps : List PairV) (p : PairV) (a : List UInt8) : ordL a (ps ++ [p]) = (ordL a ps && decide (lessL ((ps.getLast?.map PairV.key).getD a) p.key = -1)) := by
  induction ps generalizing a with
  | nil =>
    simp only [List.nil_append, ordL, Bool.and_true, Bool.true_and, List.getLast?_nil, Option.map_none, Option.getD_none]
    rfl
  | cons q ps ih =>
    rw [List.cons_append, ordL, ih, ordL, Bool.and_assoc]
    congr 3
    cases ps with
    | nil => simp
    | cons r ps => simp [List.getLast?_cons]
theorem ord_snoc (ps : List PairV) (p : PairV) : ordL [] (ps ++ [p]) = (ordL [] ps && decide (lessL (lastK ps) p.key = -1)) := ordL_snoc ps p []
def PairV.long (p : PairV) : Bool := decide (200 < p.key.length) || decide (4096 < p.val.length)
def buildOf (ps : List PairV) : List UInt8 × Int :=
  if 4096 < ps.length ∨ ps.any PairV.long = true then ([], 3) else if ordL [] ps = true then (packL [] ps, 0) else ([], 30)
/-- A key behind another one, as its numbers tell it. -/
def entKey (xs a : List UInt8) (n0 n1 n2 p : Nat) : Int × PairV × Nat :=
  if a.length < n0 then (11, ⟨[], []⟩, 0)
  else if 200 < n1 ∨ 200 < n0 + n1 ∨ 4096 < n2 then (3, ⟨[], []⟩, 0)
  else if xs.length - p < n1 + n2 then (10, ⟨[], []⟩, 0)
  else if lessL a (a.take n0 ++ (xs.drop p).take n1) ≠ -1 ∨ com a (a.take n0 ++ (xs.drop p).take n1) ≠ n0 then (11, ⟨[], []⟩, 0)
  else (0, ⟨a.take n0 ++ (xs.drop p).take n1, (xs.drop (p + n1)).take n2⟩, p + n1 + n2)
/-- One pair, from a place on: the error's number, the pair, the place behind it. -/
def entRd (xs a : List UInt8) (k : Nat) : Int × PairV × Nat :=
  if (uintAt xs k).2.2 ≠ 0 then ((uintAt xs k).2.2, ⟨[], []⟩, 0)
  else if (uintAt xs (uintAt xs k).2.1).2.2 ≠ 0 then ((uintAt xs (uintAt xs k).2.1).2.2, ⟨[], []⟩, 0)
  else if (uintAt xs (uintAt xs (uintAt xs k).2.1).2.1).2.2 ≠ 0 then ((uintAt xs (uintAt xs (uintAt xs k).2.1).2.1).2.2, ⟨[], []⟩, 0)
  else entKey xs a (uintAt xs k).1 (uintAt xs (uintAt xs k).2.1).1 (uintAt xs (uintAt xs (uintAt xs k).2.1).2.1).1 (uintAt xs (uintAt xs (uintAt xs k).2.1).2.1).2.1.toNat
def readFrom (xs : List UInt8) : Nat → Nat → List UInt8 → Nat → List PairV × Int
  | 0, _, _, _ => ([], 0)
  | f + 1, many, a, k => if xs.length ≤ k then ([], 0)
    else if (entRd xs a k).1 ≠ 0 then ([], (entRd xs a k).1)
    else if many = 4096 then ([], 3)
    else ((entRd xs a k).2.1 :: (readFrom xs f (many + 1) (entRd xs a k).2.1.key (entRd xs a k).2.2).1, (readFrom xs f (many + 1) (entRd xs a k).2.1.key (entRd xs a k).2.2).2)
def readAll (xs : List UInt8) : List PairV × Int := readFrom xs (xs.length + 1) 0 [] 0
def readOf (xs : List UInt8) : List PairV × Int := if (readAll xs).2 = 0 then readAll xs else ([], (readAll xs).2)
def findOf (xs key : List UInt8) : List UInt8 × Bool × Int :=
  if (readAll xs).2 = 0 then (match (readAll xs).1.find? (fun p => decide (p.key = key)) with
    | some p => (p.val, true, 0)
    | none => ([], false, 0)) else ([], false, (readAll xs).2)
/-- A number at a place, read without error. -/
theorem uint_ok {xs : List UInt8} {k : Nat} (h : (uintAt xs k).2.2 = 0) : ∃ n : Nat, (uintAt xs k).2.1 = ((k + n : Nat) : Int) ∧ 0 < n ∧ k + n ≤ xs.length ∧ (xs.drop k).take n = enc (uintAt xs k).1 ∧ (uintAt xs k).1 < 18446744073709551616 := by
  unfold uintAt at h ⊢
  by_cases h0 : (k : Int) < 0 ∨ (xs.length : Int) < (k : Int)
  · rw [if_pos h0] at h; simp at h
  · rw [if_neg h0] at h ⊢
    dsimp only at h ⊢
    rw [Int.toNat_natCast] at h ⊢
    by_cases h1 : (dec 0 0 (xs.drop k)).2.2 = 0
    · rw [if_pos h1]
      generalize hd : dec 0 0 (xs.drop k) = r at *
      obtain ⟨v, n, e⟩ := r
      dsimp only at *
      subst h1
      obtain ⟨q, hq, _, h2, h3, h4, h5, _, h6⟩ := vform_dec (xs.drop k) 0 0 v n (by omega) (by omega) hd
      rw [List.length_drop] at h3
      simp at hq
      subst hq
      refine ⟨n, by simp, h2, by omega, ?_, ?_⟩
      · rw [Nat.sub_zero] at h5; exact h5.symm
      · simpa using h6
    · rw [if_neg h1] at h
      exfalso
      dsimp only at h
      omega
theorem uint_enc (a b : List UInt8) (v : Nat) (hv : v < 18446744073709551616) : uintAt (a ++ (enc v ++ b)) (a.length : Nat) = (v, ((a.length + (enc v).length : Nat) : Int), 0) := by
  unfold uintAt
  rw [if_neg (by simp; omega)]
  dsimp only
  rw [Int.toNat_natCast, List.drop_left, dec_enc v b hv, if_pos rfl]
  simp
/-- A pair that is read: its place, its bytes, its bounds. -/
theorem ent_ok {xs a : List UInt8} {k : Nat} (h : (entRd xs a k).1 = 0) : ∃ n, (entRd xs a k).2.2 = k + n ∧ 3 ≤ n ∧ k + n ≤ xs.length ∧ (xs.drop k).take n = entL a (entRd xs a k).2.1 ∧ (entRd xs a k).2.1.long = false ∧ lessL a (entRd xs a k).2.1.key = -1 := by
  unfold entRd at h ⊢
  by_cases h0 : (uintAt xs k).2.2 = 0
  · obtain ⟨n0, e0, z0, l0, t0, b0⟩ := uint_ok h0
    rw [if_neg (by simpa using h0)] at h ⊢
    rw [e0] at h ⊢
    by_cases h1 : (uintAt xs ((k + n0 : Nat) : Int)).2.2 = 0
    · obtain ⟨n1, e1, z1, l1, t1, b1⟩ := uint_ok h1
      rw [if_neg (by simpa using h1)] at h ⊢
      rw [e1] at h ⊢
      by_cases h2 : (uintAt xs ((k + n0 + n1 : Nat) : Int)).2.2 = 0
      · obtain ⟨n2, e2, z2, l2, t2, b2⟩ := uint_ok h2
        rw [if_neg (by simpa using h2)] at h ⊢
        rw [e2] at h ⊢
        rw [Int.toNat_natCast] at h ⊢
        generalize (uintAt xs k).1 = v0 at *
        generalize (uintAt xs ((k + n0 : Nat) : Int)).1 = v1 at *
        generalize (uintAt xs ((k + n0 + n1 : Nat) : Int)).1 = v2 at *
        unfold entKey at h ⊢
        by_cases c0 : a.length < v0
        · rw [if_pos c0] at h; simp at h
        rw [if_neg c0] at h ⊢
        by_cases c1 : 200 < v1 ∨ 200 < v0 + v1 ∨ 4096 < v2
        · rw [if_pos c1] at h; simp at h
        rw [if_neg c1] at h ⊢
        by_cases c2 : xs.length - (k + n0 + n1 + n2) < v1 + v2
        · rw [if_pos c2] at h; simp at h
        rw [if_neg c2] at h ⊢
        generalize hK : a.take v0 ++ (xs.drop (k + n0 + n1 + n2)).take v1 = K at *
        by_cases c3 : lessL a K ≠ -1 ∨ com a K ≠ v0
        · rw [if_pos c3] at h; simp at h
        rw [if_neg c3] at h ⊢
        have c4 : lessL a K = -1 := Classical.byContradiction fun h => c3 (.inl h)
        have c5 : com a K = v0 := Classical.byContradiction fun h => c3 (.inr h)
        have hKl : K.length = v0 + v1 := by rw [← hK]; simp; omega
        have hKd : K.drop v0 = (xs.drop (k + n0 + n1 + n2)).take v1 := by
          rw [← hK, List.drop_left' (by simp; omega)]
        have hVl : ((xs.drop (k + n0 + n1 + n2 + v1)).take v2).length = v2 := by simp; omega
        refine ⟨n0 + n1 + n2 + v1 + v2, by dsimp only; omega, by omega, by omega, ?_, ?_, c4⟩
        · unfold entL
          dsimp only
          rw [c5, hKl, hKd, hVl, show v0 + v1 - v0 = v1 by omega, ← t0, ← t1, ← t2]
          have step : ∀ (p n m : Nat), (xs.drop p).take (n + m) = (xs.drop p).take n ++ (xs.drop (p + n)).take m := fun p n m => by
            rw [List.take_add, List.drop_drop]
          rw [show n0 + n1 + n2 + v1 + v2 = n0 + (n1 + (n2 + (v1 + v2))) by omega, step, step, step, step]
        · unfold PairV.long
          dsimp only
          rw [hKl, hVl]
          simp
          omega
      · rw [if_pos (by simpa using h2)] at h; exact absurd h h2
    · rw [if_pos (by simpa using h1)] at h; exact absurd h h1
  · rw [if_pos (by simpa using h0)] at h; exact absurd h h0
/-- What is written is read. -/
theorem ent_back (x a b : List UInt8) (p : PairV) (hl : p.long = false) (ho : lessL a p.key = -1) : entRd (x ++ (entL a p ++ b)) a x.length = (0, p, x.length + (entL a p).length) := by
  obtain ⟨key, val⟩ := p
  unfold PairV.long at hl
  unfold entL
  dsimp only at *
  have h1 := com_le a key
  have h2 := com_take a key
  generalize hc : com a key = c at *
  simp at hl
  have e0 := uint_enc x (enc (key.length - c) ++ (enc val.length ++ (key.drop c ++ (val ++ b)))) c (by omega)
  have e1 := uint_enc (x ++ enc c) (enc val.length ++ (key.drop c ++ (val ++ b))) (key.length - c) (by omega)
  have e2 := uint_enc (x ++ enc c ++ enc (key.length - c)) (key.drop c ++ (val ++ b)) val.length (by omega)
  simp only [List.append_assoc, List.length_append] at e0 e1 e2 ⊢
  unfold entRd
  rw [e0, if_neg (by simp)]
  dsimp only
  rw [e1, if_neg (by simp)]
  dsimp only
  rw [show x.length + ((enc c).length + (enc (key.length - c)).length) = x.length + (enc c).length + (enc (key.length - c)).length by omega] at e2
  rw [show x.length + (enc c).length + (enc (key.length - c)).length = x.length + (enc c).length + (enc (key.length - c)).length from rfl] at e2
  rw [e2, if_neg (by simp)]
  dsimp only
  rw [Int.toNat_natCast]
  unfold entKey
  rw [if_neg (by omega), if_neg (by omega), if_neg (by simp; omega)]
  have d1 : ∀ y : List UInt8, (x ++ (enc c ++ (enc (key.length - c) ++ (enc val.length ++ y)))).drop (x.length + (enc c).length + (enc (key.length - c)).length + (enc val.length).length) = y := fun y => by
    rw [← List.append_assoc, ← List.append_assoc, ← List.append_assoc]
    exact List.drop_left' (by simp; omega)
  have d2 : ∀ y : List UInt8, (x ++ (enc c ++ (enc (key.length - c) ++ (enc val.length ++ (key.drop c ++ y))))).drop (x.length + (enc c).length + (enc (key.length - c)).length + (enc val.length).length + (key.length - c)) = y := fun y => by
    rw [← List.append_assoc, ← List.append_assoc, ← List.append_assoc, ← List.append_assoc]
    exact List.drop_left' (by simp; omega)
  rw [d1, d2, List.take_left' (by simp), h2, List.take_append_drop, if_neg (by rw [hc]; simp [ho]), List.take_left' rfl]
  simp
  omega
/-- The walk stands at a place, some pairs read. -/
def StandsB (xs : List UInt8) (pre : List PairV) (k : Nat) : Prop :=
  k ≤ xs.length ∧ pre.length * 3 ≤ k ∧ pre.length ≤ 4096 ∧ xs.take k = packL [] pre ∧ ordL [] pre = true ∧ pre.any PairV.long = false ∧
    ∃ f, xs.length < f + k ∧ readAll xs = (pre ++ (readFrom xs f pre.length (lastK pre) k).1, (readFrom xs f pre.length (lastK pre) k).2)
theorem StandsB.start (xs : List UInt8) : StandsB xs [] 0 := ⟨by omega, by simp, by simp, rfl, rfl, rfl, xs.length + 1, by omega, by simp [readAll, lastK]⟩
theorem readFrom_cons (xs : List UInt8) (f many : Nat) (a : List UInt8) (k : Nat) (h0 : k < xs.length) (h1 : (entRd xs a k).1 = 0) (h2 : many ≠ 4096) : readFrom xs (f + 1) many a k = ((entRd xs a k).2.1 :: (readFrom xs f (many + 1) (entRd xs a k).2.1.key (entRd xs a k).2.2).1, (readFrom xs f (many + 1) (entRd xs a k).2.1.key (entRd xs a k).2.2).2) := by
  rw [readFrom, if_neg (by omega), if_neg (by simpa using h1), if_neg h2]
theorem StandsB.step {xs : List UInt8} {pre : List PairV} {k : Nat} (h : StandsB xs pre k) (hk : k < xs.length) (he : (entRd xs (lastK pre) k).1 = 0) (hm : pre.length ≠ 4096) : StandsB xs (pre ++ [(entRd xs (lastK pre) k).2.1]) (entRd xs (lastK pre) k).2.2 := by
  obtain ⟨h1, h2, h3, h4, h5, h6, f, hf, hg⟩ := h
  obtain ⟨n, e, hn, hl, ht, hlong, hless⟩ := ent_ok he
  match f, hf with
  | 0, hf => omega
  | f + 1, hf =>
    refine ⟨by omega, by simp; omega, by simp; omega, ?_, ?_, ?_, f, by omega, ?_⟩
    · rw [e, List.take_add, h4, ht, pack_snoc]
    · rw [ord_snoc, h5, hless]; rfl
    · simp [h6, hlong]
    · rw [hg, readFrom_cons xs f _ _ k hk he hm, lastK_snoc]
      simp
theorem StandsB.bad {xs : List UInt8} {pre : List PairV} {k : Nat} (h : StandsB xs pre k) (hk : k < xs.length) (he : (entRd xs (lastK pre) k).1 ≠ 0) : readAll xs = (pre, (entRd xs (lastK pre) k).1) := by
  obtain ⟨h1, h2, h3, h4, h5, h6, f, hf, hg⟩ := h
  match f, hf with
  | 0, hf => omega
  | f + 1, hf =>
    rw [hg, readFrom, if_neg (by omega), if_pos he]
    simp
theorem StandsB.many {xs : List UInt8} {pre : List PairV} {k : Nat} (h : StandsB xs pre k) (hk : k < xs.length) (he : (entRd xs (lastK pre) k).1 = 0) (hm : pre.length = 4096) : readAll xs = (pre, 3) := by
  obtain ⟨h1, h2, h3, h4, h5, h6, f, hf, hg⟩ := h
  match f, hf with
  | 0, hf => omega
  | f + 1, hf =>
    rw [hg, readFrom, if_neg (by omega), if_neg (by simpa using he), if_pos hm]
    simp
theorem StandsB.done {xs : List UInt8} {pre : List PairV} {k : Nat} (h : StandsB xs pre k) (hk : k = xs.length) : readAll xs = (pre, 0) := by
  obtain ⟨h1, h2, h3, h4, h5, h6, f, hf, hg⟩ := h
  match f, hf with
  | 0, hf => omega
  | f + 1, hf =>
    rw [hg, readFrom, if_pos (by omega)]
    simp
end Go.Proofs.Ythaciglechijkaa
