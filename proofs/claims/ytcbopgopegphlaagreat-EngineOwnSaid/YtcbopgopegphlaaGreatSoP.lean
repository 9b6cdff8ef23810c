/-
  The library's stable sort, in plain words: insertion in blocks, then merges by rotation; what it makes is sorted. No statement is proved here.
-/
import Derived.Sort.LotA
namespace Go.Proofs.YtcbopgopegphlaaGreat
open Go.Sort
set_option linter.unusedVariables false
section
variable {α : Type} [Inhabited α]

/-! ### runs of exchanges -/
def swapFrom (a b n i : Nat) (d : Array α) : Array α := if i < n then swapFrom a b n (i + 1) (swp d (a + i) (b + i)) else d
termination_by n - i
def upFrom (e k : Nat) (d : Array α) : Array α := if k < e then upFrom e (k + 1) (swp d k (k + 1)) else d
termination_by e - k
def downFrom (i : Nat) : Nat → Array α → Array α
  | 0, d => d
  | k + 1, d => if i < k + 1 then downFrom i k (swp d (k + 1) k) else d
def rotLoop (m i j : Nat) (d : Array α) : Array α :=
  if _h : 0 < i ∧ 0 < j then
    if i = j then swapFrom (m - i) m i 0 d
    else if j < i then rotLoop m (i - j) j (swapFrom (m - i) m j 0 d)
    else rotLoop m i (j - i) (swapFrom (m - i) (m + j - i) i 0 d)
  else d
termination_by i + j
theorem swapFrom_size (a b n : Nat) : ∀ (r i : Nat) (d : Array α), n - i = r → (swapFrom a b n i d).size = d.size
  | 0, i, d, h => by rw [swapFrom, if_neg (by omega)]
  | r + 1, i, d, h => by rw [swapFrom, if_pos (by omega), swapFrom_size a b n r (i + 1) _ (by omega), size_swp]
theorem swapFrom_get (a b n : Nat) (hab : a + n ≤ b) : ∀ (r i : Nat) (d : Array α), n - i = r → b + n ≤ d.size → ∀ k, (swapFrom a b n i d)[k]! = if a + i ≤ k ∧ k < a + n then d[k + b - a]! else if b + i ≤ k ∧ k < b + n then d[k + a - b]! else d[k]!
  | 0, i, d, h, hb, k => by
    rw [swapFrom, if_neg (by omega), if_neg (by omega), if_neg (by omega)]
  | r + 1, i, d, h, hb, k => by
    rw [swapFrom, if_pos (by omega), swapFrom_get a b n hab r (i + 1) _ (by omega) (by rw [size_swp]; exact hb) k]
    have g := fun k => swp_get d (i := a + i) (j := b + i) (by omega) (by omega) k
    by_cases h1 : a + i ≤ k ∧ k < a + n
    · rw [if_pos h1]
      by_cases h2 : k = a + i
      · subst h2
        rw [if_neg (by omega), if_neg (by omega), g, if_neg (by omega), if_pos rfl]
        congr 1
        omega
      · rw [if_pos (by omega), g, if_neg (by omega), if_neg (by omega)]
    · rw [if_neg h1, if_neg (by omega)]
      by_cases h3 : b + i ≤ k ∧ k < b + n
      · rw [if_pos h3]
        by_cases h2 : k = b + i
        · subst h2
          rw [if_neg (by omega), g, if_pos rfl]
          congr 1
          omega
        · rw [if_pos (by omega), g, if_neg (by omega), if_neg (by omega)]
      · rw [if_neg h3, if_neg (by omega), g, if_neg (by omega), if_neg (by omega)]
theorem swapFrom_perm (a b n : Nat) (lo hi : Nat) (hla : lo ≤ a) (hlb : lo ≤ b) (hha : a + n ≤ hi) (hhb : b + n ≤ hi) : ∀ (r i : Nat) (d : Array α), n - i = r → hi ≤ d.size → PermIn lo hi d (swapFrom a b n i d)
  | 0, i, d, h, hs => by rw [swapFrom, if_neg (by omega)]; exact permIn_refl _ _ _
  | r + 1, i, d, h, hs => by
    rw [swapFrom, if_pos (by omega)]
    exact permIn_trans _ _ _ _ _ (swp_permIn d lo hi (a + i) (b + i) (by omega) (by omega) (by omega) (by omega) hs) (swapFrom_perm a b n lo hi hla hlb hha hhb r (i + 1) _ (by omega) (by rw [size_swp]; exact hs))
theorem rotLoop_get (m : Nat) : ∀ (f i j : Nat) (d : Array α), i + j ≤ f → 0 < i → 0 < j → i ≤ m → m + j ≤ d.size → ∀ k, (rotLoop m i j d)[k]! = if m - i ≤ k ∧ k < m - i + j then d[k + i]! else if m - i + j ≤ k ∧ k < m + j then d[k - j]! else d[k]!
  | 0, i, j, d, hf, hi, hj, him, hs, k => by omega
  | f + 1, i, j, d, hf, hi, hj, him, hs, k => by
    rw [rotLoop, dif_pos ⟨hi, hj⟩]
    by_cases hij : i = j
    · subst hij
      rw [if_pos rfl, swapFrom_get _ _ _ (by omega) i 0 d (by omega) hs k]
      by_cases h1 : m - i ≤ k ∧ k < m - i + i
      · rw [if_pos (by omega), if_pos h1]; congr 1; omega
      · rw [if_neg (by omega), if_neg h1]
        by_cases h2 : m - i + i ≤ k ∧ k < m + i
        · rw [if_pos (by omega), if_pos h2]; congr 1; omega
        · rw [if_neg (by omega), if_neg h2]
    · rw [if_neg hij]
      by_cases hlt : j < i
      · rw [if_pos hlt, rotLoop_get m f (i - j) j _ (by omega) (by omega) hj (by omega) (by rw [swapFrom_size _ _ _ j 0 d (by omega)]; exact hs) k]
        have g := fun k => swapFrom_get (m - i) m j (by omega) j 0 d (by omega) hs k
        rw [g, g, g]
        by_cases h1 : m - i ≤ k ∧ k < m - i + j
        · rw [if_pos h1, if_neg (by omega), if_neg (by omega), if_pos (by omega)]; congr 1; omega
        · rw [if_neg h1]
          by_cases h2 : m - i + j ≤ k ∧ k < m + j
          · rw [if_pos h2]
            by_cases h3 : k < m - i + j + j
            · by_cases h4 : k < m
              · rw [if_pos (by omega), if_neg (by omega)]
                by_cases h5 : m ≤ k + (i - j)
                · rw [if_pos (by omega)]; congr 1; omega
                · omega
              · by_cases h6 : k < m - (i - j) + j
                · rw [if_pos (by omega), if_neg (by omega), if_pos (by omega)]; congr 1; omega
                · omega
            · rw [if_neg (by omega), if_pos (by omega), if_neg (by omega), if_neg (by omega)]
          · rw [if_neg h2, if_neg (by omega), if_neg (by omega), if_neg (by omega), if_neg (by omega)]
      · rw [if_neg hlt, rotLoop_get m f i (j - i) _ (by omega) hi (by omega) him (by rw [swapFrom_size _ _ _ i 0 d (by omega)]; omega) k]
        have g := fun k => swapFrom_get (m - i) (m + j - i) i (by omega) i 0 d (by omega) (by omega) k
        rw [g, g, g]
        by_cases h1 : m - i ≤ k ∧ k < m - i + j
        · rw [if_pos h1]
          by_cases h3 : k < m - i + (j - i)
          · rw [if_pos (by omega), if_neg (by omega), if_neg (by omega)]
          · rw [if_neg (by omega), if_pos (by omega), if_pos (by omega)]; congr 1; omega
        · rw [if_neg h1]
          by_cases h2 : m - i + j ≤ k ∧ k < m + j
          · rw [if_pos h2, if_neg (by omega), if_neg (by omega), if_neg (by omega), if_pos (by omega)]; congr 1; omega
          · rw [if_neg h2, if_neg (by omega), if_neg (by omega), if_neg (by omega), if_neg (by omega)]
theorem rotLoop_perm (m lo hi : Nat) : ∀ (f i j : Nat) (d : Array α), i + j ≤ f → 0 < i → 0 < j → i ≤ m → lo + i ≤ m → m + j ≤ hi → hi ≤ d.size → PermIn lo hi d (rotLoop m i j d)
  | 0, i, j, d, hf, h0, h1, _, _, _, _ => by omega
  | f + 1, i, j, d, hf, h0, h1, him, hlo, hhi, hs => by
    rw [rotLoop, dif_pos ⟨h0, h1⟩]
    by_cases hij : i = j
    · subst hij
      rw [if_pos rfl]
      exact swapFrom_perm _ _ _ lo hi (by omega) (by omega) (by omega) (by omega) i 0 d (by omega) hs
    · rw [if_neg hij]
      by_cases hlt : j < i
      · rw [if_pos hlt]
        exact permIn_trans _ _ _ _ _ (swapFrom_perm (m - i) m j lo hi (by omega) (by omega) (by omega) (by omega) j 0 d (by omega) hs) (rotLoop_perm m lo hi f (i - j) j _ (by omega) (by omega) h1 (by omega) (by omega) hhi (by rw [swapFrom_size _ _ _ j 0 d (by omega)]; exact hs))
      · rw [if_neg hlt]
        exact permIn_trans _ _ _ _ _ (swapFrom_perm (m - i) (m + j - i) i lo hi (by omega) (by omega) (by omega) (by omega) i 0 d (by omega) hs) (rotLoop_perm m lo hi f i (j - i) _ (by omega) h0 (by omega) him hlo (by omega) (by rw [swapFrom_size _ _ _ i 0 d (by omega)]; exact hs))
theorem upFrom_size (e : Nat) : ∀ (r k : Nat) (d : Array α), e - k = r → (upFrom e k d).size = d.size
  | 0, k, d, h => by rw [upFrom, if_neg (by omega)]
  | r + 1, k, d, h => by rw [upFrom, if_pos (by omega), upFrom_size e r (k + 1) _ (by omega), size_swp]
theorem upFrom_get (e : Nat) : ∀ (r k : Nat) (d : Array α), e - k = r → e < d.size → k ≤ e → ∀ t, (upFrom e k d)[t]! = if k ≤ t ∧ t < e then d[t + 1]! else if t = e then d[k]! else d[t]!
  | 0, k, d, h, hs, hk, t => by
    obtain rfl : k = e := by omega
    rw [upFrom, if_neg (by omega), if_neg (by omega)]
    split
    · rename_i h; rw [h]
    · rfl
  | r + 1, k, d, h, hs, hk, t => by
    rw [upFrom, if_pos (by omega), upFrom_get e r (k + 1) _ (by omega) (by rw [size_swp]; exact hs) (by omega) t]
    have g := fun t => swp_get d (i := k) (j := k + 1) (by omega) (by omega) t
    rw [g, g, g]
    by_cases h1 : k ≤ t ∧ t < e
    · rw [if_pos h1]
      by_cases h2 : t = k
      · subst h2; rw [if_neg (by omega), if_neg (by omega), if_neg (by omega), if_pos rfl]
      · rw [if_pos (by omega), if_neg (by omega), if_neg (by omega)]
    · rw [if_neg h1, if_neg (by omega)]
      by_cases h2 : t = e
      · rw [if_pos h2, if_pos h2, if_pos rfl]
      · rw [if_neg h2, if_neg h2, if_neg (by omega), if_neg (by omega)]
theorem upFrom_perm (e lo hi : Nat) (he : e < hi) : ∀ (r k : Nat) (d : Array α), e - k = r → lo ≤ k → hi ≤ d.size → PermIn lo hi d (upFrom e k d)
  | 0, k, d, h, _, _ => by rw [upFrom, if_neg (by omega)]; exact permIn_refl _ _ _
  | r + 1, k, d, h, hl, hs => by
    rw [upFrom, if_pos (by omega)]
    exact permIn_trans _ _ _ _ _ (swp_permIn d lo hi k (k + 1) (by omega) (by omega) (by omega) (by omega) hs) (upFrom_perm e lo hi he r (k + 1) _ (by omega) (by omega) (by rw [size_swp]; exact hs))
theorem downFrom_get (i : Nat) : ∀ (k : Nat) (d : Array α), k < d.size → i ≤ k → ∀ t, (downFrom i k d)[t]! = if i < t ∧ t ≤ k then d[t - 1]! else if t = i then d[k]! else d[t]!
  | 0, d, hs, hk, t => by
    obtain rfl : i = 0 := by omega
    rw [downFrom, if_neg (by omega)]
    split
    · rename_i h; rw [h]
    · rfl
  | k + 1, d, hs, hk, t => by
    rw [downFrom]
    by_cases hik : i < k + 1
    · rw [if_pos hik, downFrom_get i k _ (by rw [size_swp]; omega) (by omega) t]
      have g := fun t => swp_get d (i := k + 1) (j := k) (by omega) (by omega) t
      rw [g, g, g]
      by_cases h1 : i < t ∧ t ≤ k + 1
      · rw [if_pos h1]
        by_cases h2 : t = k + 1
        · subst h2; rw [if_neg (by omega), if_neg (by omega), if_neg (by omega), if_pos rfl]; rfl
        · rw [if_pos (by omega), if_neg (by omega), if_neg (by omega)]
      · rw [if_neg h1, if_neg (by omega)]
        by_cases h2 : t = i
        · rw [if_pos h2, if_pos h2, if_pos rfl]
        · rw [if_neg h2, if_neg h2, if_neg (by omega), if_neg (by omega)]
    · rw [if_neg hik]
      obtain rfl : i = k + 1 := by omega
      rw [if_neg (by omega)]
      split
      · rename_i h; rw [h]
      · rfl
theorem downFrom_perm (i lo hi : Nat) (hil : lo ≤ i) : ∀ (k : Nat) (d : Array α), k < hi → hi ≤ d.size → PermIn lo hi d (downFrom i k d)
  | 0, d, _, _ => by rw [downFrom]; exact permIn_refl _ _ _
  | k + 1, d, hk, hs => by
    rw [downFrom]
    split
    · exact permIn_trans _ _ _ _ _ (swp_permIn d lo hi (k + 1) k (by omega) (by omega) (by omega) (by omega) hs) (downFrom_perm i lo hi hil k _ (by omega) (by rw [size_swp]; exact hs))
    · exact permIn_refl _ _ _

/-! ### a search for the first place at which p no longer holds -/
def bsr (p : Nat → Bool) (i j : Nat) : Nat := if _h : i < j then (if p ((i + j) / 2) then bsr p ((i + j) / 2 + 1) j else bsr p i ((i + j) / 2)) else i
termination_by j - i
theorem bsr_spec (p : Nat → Bool) : ∀ (r i j : Nat), j - i ≤ r → i ≤ j → (∀ x y, i ≤ x → x ≤ y → y < j → p y = true → p x = true) →
    i ≤ bsr p i j ∧ bsr p i j ≤ j ∧ (∀ x, i ≤ x → x < bsr p i j → p x = true) ∧ (∀ x, bsr p i j ≤ x → x < j → p x = false)
  | 0, i, j, h, hij, hm => by
    rw [bsr, dif_neg (by omega)]
    exact ⟨Nat.le_refl _, hij, fun x h1 h2 => by omega, fun x h1 h2 => by omega⟩
  | r + 1, i, j, h, hij, hm => by
    rw [bsr]
    by_cases hlt : i < j
    · rw [dif_pos hlt]
      by_cases hp : p ((i + j) / 2) = true
      · rw [if_pos hp]
        obtain ⟨h1, h2, h3, h4⟩ := bsr_spec p r ((i + j) / 2 + 1) j (by omega) (by omega) (fun x y hx => hm x y (by omega))
        refine ⟨by omega, h2, fun x hx1 hx2 => ?_, h4⟩
        by_cases hx : x ≤ (i + j) / 2
        · exact hm x _ hx1 hx (by omega) hp
        · exact h3 x (by omega) hx2
      · rw [if_neg hp]
        obtain ⟨h1, h2, h3, h4⟩ := bsr_spec p r i ((i + j) / 2) (by omega) (by omega) (fun x y hx hxy hy => hm x y hx hxy (by omega))
        refine ⟨h1, by omega, h3, fun x hx1 hx2 => ?_⟩
        by_cases hx : x < (i + j) / 2
        · exact h4 x hx1 hx
        · cases hpx : p x with
          | false => rfl
          | true => exact absurd (hm _ x (by omega) (by omega) hx2 hpx) hp
    · rw [dif_neg hlt]
      exact ⟨Nat.le_refl _, hij, fun x h1 h2 => by omega, fun x h1 h2 => by omega⟩

/-! ### the merge -/
def symMerge (lt : α → α → Bool) : Nat → Nat → Nat → Nat → Array α → Array α
  | 0, _, _, _, d => d
  | f + 1, a, m, b, d =>
    if m - a = 1 then upFrom (bsr (fun h => lt d[h]! d[a]!) m b - 1) a d
    else if b - m = 1 then downFrom (bsr (fun h => !lt d[m]! d[h]!) a m) m d
    else
      let mid := (a + b) / 2
      let n := mid + m
      let start := if mid < m then bsr (fun c => !lt d[n - 1 - c]! d[c]!) (n - b) mid else bsr (fun c => !lt d[n - 1 - c]! d[c]!) a m
      let e := n - start
      let d1 := if start < m ∧ m < e then rotLoop m (m - start) (e - m) d else d
      let d2 := if a < start ∧ start < mid then symMerge lt f a start mid d1 else d1
      if mid < e ∧ e < b then symMerge lt f mid e b d2 else d2
variable {lt T : α → α → Bool}
/-- One side is sorted against the other. -/
def Cross (lt T : α → α → Bool) (a m b : Nat) (d : Array α) : Prop := ∀ i j, a ≤ i → i < m → m ≤ j → j < b → lt d[j]! d[i]! = T d[j]! d[i]!
omit [Inhabited α] in
theorem asymm (hT : SWO T) {x y : α} (h : T x y = true) : T y x = false := hT.asymmA h
theorem sorted_le (hT : SWO T) {a b : Nat} {d : Array α} (h : SortedIn T a b d) {i j : Nat} (hi : a ≤ i) (hij : i ≤ j) (hj : j < b) : T d[j]! d[i]! = false := by
  rcases Nat.lt_or_eq_of_le hij with h1 | h1
  · exact h i j hi h1 hj
  · subst h1; exact hT.irrefl _
theorem merge_one (hT : SWO T) {a b : Nat} {d : Array α} (hb : a + 1 < b) (hs : b ≤ d.size) (h2 : SortedIn T (a + 1) b d) (hc : Cross lt T a (a + 1) b d) :
    PermIn a b d (upFrom (bsr (fun h => lt d[h]! d[a]!) (a + 1) b - 1) a d) ∧ SortedIn T a b (upFrom (bsr (fun h => lt d[h]! d[a]!) (a + 1) b - 1) a d) := by
  have hcr : ∀ h, a + 1 ≤ h → h < b → lt d[h]! d[a]! = T d[h]! d[a]! := fun h h1 h2 => hc a h (Nat.le_refl _) (by omega) h1 h2
  obtain ⟨q1, q2, q3, q4⟩ := bsr_spec (fun h => lt d[h]! d[a]!) (b - (a + 1)) (a + 1) b (Nat.le_refl _) (by omega) (fun x y hx hxy hy hp => by
    (try simp only at hp ⊢)
    rw [hcr y (by omega) hy] at hp
    rw [hcr x hx (by omega)]
    cases hx2 : T d[x]! d[a]! with
    | true => rfl
    | false =>
      have := hT.ntrans _ _ _ (sorted_le hT h2 hx hxy hy) hx2
      rw [this] at hp
      cases hp)
  generalize bsr (fun h => lt d[h]! d[a]!) (a + 1) b = i at *
  (try simp only at q3 q4)
  refine ⟨upFrom_perm (i - 1) a b (by omega) (i - 1 - a) a d rfl (Nat.le_refl _) hs, fun p q hp hpq hq => ?_⟩
  have g := upFrom_get (i - 1) (i - 1 - a) a d rfl (by omega) (by omega)
  rw [g, g]
  by_cases c1 : q < i - 1
  · rw [if_pos (by omega), if_pos (by omega)]
    exact h2 _ _ (by omega) (by omega) (by omega)
  · rw [if_neg (by omega)]
    by_cases c2 : q = i - 1
    · rw [if_pos c2, if_pos (by omega)]
      have := q3 (p + 1) (by omega) (by omega)
      rw [hcr _ (by omega) (by omega)] at this
      exact asymm hT this
    · rw [if_neg c2]
      by_cases c3 : p < i - 1
      · rw [if_pos (by omega)]
        exact h2 _ _ (by omega) (by omega) (by omega)
      · rw [if_neg (by omega)]
        by_cases c4 : p = i - 1
        · rw [if_pos c4]
          have := q4 q (by omega) (by omega)
          rw [hcr _ (by omega) (by omega)] at this
          exact this
        · rw [if_neg c4]
          exact h2 _ _ (by omega) (by omega) (by omega)
theorem merge_last (hT : SWO T) {a m : Nat} {d : Array α} (ha : a < m) (hs : m + 1 ≤ d.size) (h1 : SortedIn T a m d) (hc : Cross lt T a m (m + 1) d) :
    PermIn a (m + 1) d (downFrom (bsr (fun h => !lt d[m]! d[h]!) a m) m d) ∧ SortedIn T a (m + 1) (downFrom (bsr (fun h => !lt d[m]! d[h]!) a m) m d) := by
  have hcr : ∀ h, a ≤ h → h < m → lt d[m]! d[h]! = T d[m]! d[h]! := fun h x1 x2 => hc h m x1 x2 (Nat.le_refl _) (by omega)
  obtain ⟨q1, q2, q3, q4⟩ := bsr_spec (fun h => !lt d[m]! d[h]!) (m - a) a m (Nat.le_refl _) (by omega) (fun x y hx hxy hy hp => by
    simp only [Bool.not_eq_true'] at hp ⊢
    rw [hcr y (by omega) hy] at hp
    rw [hcr x hx (by omega)]
    exact hT.ntrans _ _ _ hp (sorted_le hT h1 hx hxy hy))
  generalize bsr (fun h => !lt d[m]! d[h]!) a m = i at *
  simp only [Bool.not_eq_true', Bool.not_eq_false'] at q3 q4
  refine ⟨downFrom_perm i a (m + 1) q1 m d (by omega) hs, fun p q hp hpq hq => ?_⟩
  have g := downFrom_get i m d (by omega) q2
  rw [g, g]
  by_cases c1 : i < p
  · rw [if_pos (by omega), if_pos (by omega)]
    exact h1 _ _ (by omega) (by omega) (by omega)
  · rw [if_neg (show ¬ (i < p ∧ p ≤ m) by omega)]
    by_cases c2 : p = i
    · rw [if_pos c2, if_pos (by omega)]
      have := q4 (q - 1) (by omega) (by omega)
      rw [hcr _ (by omega) (by omega)] at this
      exact asymm hT this
    · rw [if_neg c2]
      by_cases c3 : i < q
      · rw [if_pos (by omega)]
        exact h1 _ _ (by omega) (by omega) (by omega)
      · rw [if_neg (by omega)]
        by_cases c4 : q = i
        · rw [if_pos c4]
          have := q3 p (by omega) (by omega)
          rw [hcr _ (by omega) (by omega)] at this
          exact this
        · rw [if_neg c4]
          exact h1 _ _ (by omega) (by omega) (by omega)
theorem sorted_congr {a b : Nat} {d d' : Array α} (h : SortedIn T a b d) (he : ∀ p, a ≤ p → p < b → d'[p]! = d[p]!) : SortedIn T a b d' := fun p q hp hpq hq => by
  rw [he p hp (by omega), he q (by omega) hq]
  exact h p q hp hpq hq
/-- Nothing on the right is less than anything on the left, and each side is sorted: so is the whole. -/
theorem sorted_join {a m b : Nat} {d : Array α} (h1 : SortedIn T a m d) (h2 : SortedIn T m b d) (h : ∀ p q, a ≤ p → p < m → m ≤ q → q < b → T d[q]! d[p]! = false) : SortedIn T a b d := fun p q hp hpq hq => by
  by_cases c1 : q < m
  · exact h1 p q hp hpq c1
  · by_cases c2 : p < m
    · exact h p q hp c2 (by omega) hq
    · exact h2 p q (by omega) hpq hq
theorem apart_left {a m b : Nat} {d d' : Array α} (hm : m ≤ d.size) (hP : PermIn a m d d') (h : ∀ p q, a ≤ p → p < m → m ≤ q → q < b → T d[q]! d[p]! = false) : ∀ p q, a ≤ p → p < m → m ≤ q → q < b → T d'[q]! d'[p]! = false := fun p q hp1 hp2 hq1 hq2 => by
  rw [hP.2.1 q (Or.inr hq1)]
  exact permIn_all d d' a m (fun x => T d[q]! x = false) hm hP (fun i h1 h2 => h i q h1 h2 hq1 hq2) p hp1 hp2
theorem apart_right {a m b : Nat} {d d' : Array α} (hb : b ≤ d.size) (hP : PermIn m b d d') (h : ∀ p q, a ≤ p → p < m → m ≤ q → q < b → T d[q]! d[p]! = false) : ∀ p q, a ≤ p → p < m → m ≤ q → q < b → T d'[q]! d'[p]! = false := fun p q hp1 hp2 hq1 hq2 => by
  rw [hP.2.1 p (Or.inl hp2)]
  exact permIn_all d d' m b (fun x => T x d[p]! = false) hb hP (fun i h1 h2 => h p i hp1 hp2 h1 h2) q hq1 hq2
theorem symMerge_law (hT : SWO T) : ∀ (f a m b : Nat) (d : Array α), b - a ≤ f → a < m → m < b → b ≤ d.size → SortedIn T a m d → SortedIn T m b d → Cross lt T a m b d →
    PermIn a b d (symMerge lt f a m b d) ∧ SortedIn T a b (symMerge lt f a m b d)
  | 0, a, m, b, d, hf, ham, hmb, hs, h1, h2, hc => by omega
  | f + 1, a, m, b, d, hf, ham, hmb, hs, h1, h2, hc => by
    rw [symMerge]
    by_cases hone : m - a = 1
    · rw [if_pos hone]
      obtain rfl : m = a + 1 := by omega
      exact merge_one hT hmb hs h2 hc
    rw [if_neg hone]
    by_cases hlast : b - m = 1
    · rw [if_pos hlast]
      obtain rfl : b = m + 1 := by omega
      exact merge_last hT ham hs h1 hc
    rw [if_neg hlast]
    simp only
    obtain ⟨mid, hmid⟩ : ∃ mid, (a + b) / 2 = mid := ⟨_, rfl⟩
    rw [hmid]
    obtain ⟨n, hn⟩ : ∃ n, mid + m = n := ⟨_, rfl⟩
    rw [hn]
    -- the search
    have hs0 : ∃ s0 r0, a ≤ s0 ∧ s0 ≤ r0 ∧ r0 ≤ m ∧ r0 ≤ mid ∧ n ≤ s0 + b ∧ (s0 = a ∨ s0 + b = n) ∧ (r0 = m ∨ r0 = mid) ∧
        (if mid < m then bsr (fun c => !lt d[n - 1 - c]! d[c]!) (n - b) mid else bsr (fun c => !lt d[n - 1 - c]! d[c]!) a m) = bsr (fun c => !lt d[n - 1 - c]! d[c]!) s0 r0 := by
      by_cases h : mid < m
      · exact ⟨n - b, mid, by omega, by omega, by omega, by omega, by omega, .inr (by omega), .inr rfl, by rw [if_pos h]⟩
      · exact ⟨a, m, by omega, by omega, by omega, by omega, by omega, .inl rfl, .inl rfl, by rw [if_neg h]⟩
    obtain ⟨s0, r0, k1, k2, k3, k4, k5, k6, k7, k8⟩ := hs0
    rw [k8]
    clear k8
    have hcr : ∀ c, s0 ≤ c → c < r0 → lt d[n - 1 - c]! d[c]! = T d[n - 1 - c]! d[c]! := fun c x1 x2 => hc c (n - 1 - c) (by omega) (by omega) (by omega) (by omega)
    obtain ⟨q1, q2, q3, q4⟩ := bsr_spec (fun c => !lt d[n - 1 - c]! d[c]!) (r0 - s0) s0 r0 (Nat.le_refl _) k2 (fun x y hx hxy hy hp => by
      simp only [Bool.not_eq_true'] at hp ⊢
      rw [hcr y (by omega) hy] at hp
      rw [hcr x hx (by omega)]
      exact hT.ntrans _ _ _ (hT.ntrans _ _ _ (sorted_le hT h2 (i := n - 1 - y) (j := n - 1 - x) (by omega) (by omega) (by omega)) hp) (sorted_le hT h1 (by omega) hxy (by omega)))
    generalize bsr (fun c => !lt d[n - 1 - c]! d[c]!) s0 r0 = s at *
    simp only [Bool.not_eq_true', Bool.not_eq_false'] at q3 q4
    obtain ⟨e, he⟩ : ∃ e, n - s = e := ⟨_, rfl⟩
    rw [he]
    -- the rotation
    obtain ⟨d1, hd1⟩ : ∃ d1, (if s < m ∧ m < e then rotLoop m (m - s) (e - m) d else d) = d1 := ⟨_, rfl⟩
    rw [hd1]
    have g1 : ∀ k, d1[k]! = if s ≤ k ∧ k < mid then d[k + (m - s)]! else if mid ≤ k ∧ k < e then d[k - (e - m)]! else d[k]! := fun k => by
      rw [← hd1]
      by_cases hr : s < m ∧ m < e
      · rw [if_pos hr, rotLoop_get m (m - s + (e - m)) (m - s) (e - m) d (Nat.le_refl _) (by omega) (by omega) (by omega) (by omega) k]
        have e1 : m - (m - s) = s := by omega
        have e2 : s + (e - m) = mid := by omega
        have e3 : m + (e - m) = e := by omega
        rw [e1, e2, e3]
      · rw [if_neg hr]
        by_cases c1 : s ≤ k ∧ k < mid
        · rw [if_pos c1, show m - s = 0 by omega, Nat.add_zero]
        · rw [if_neg c1]
          by_cases c2 : mid ≤ k ∧ k < e
          · rw [if_pos c2, show e - m = 0 by omega, Nat.sub_zero]
          · rw [if_neg c2]
    have P1 : PermIn a b d d1 := by
      rw [← hd1]
      split
      · exact rotLoop_perm m a b (m - s + (e - m)) (m - s) (e - m) d (Nat.le_refl _) (by omega) (by omega) (by omega) (by omega) (by omega) hs
      · exact permIn_refl _ _ _
    have z1 : d1.size = d.size := P1.1
    clear hd1
    -- what is on either side
    have K : ∀ p q, a ≤ p → p < mid → mid ≤ q → q < b → T d1[q]! d1[p]! = false := fun p q hp1 hp2 hq1 hq2 => by
      rw [g1 p, g1 q, if_neg (show ¬ (s ≤ q ∧ q < mid) by omega)]
      by_cases c2 : q < e
      · rw [if_pos ⟨hq1, c2⟩]
        by_cases c1 : s ≤ p
        · rw [if_pos ⟨c1, hp2⟩]
          have hsr : s < r0 := by omega
          have hx := q4 s (Nat.le_refl _) hsr
          rw [hcr s q1 hsr] at hx
          exact hT.ntrans _ _ _ (sorted_le hT h1 (i := s) (by omega) (by omega) (by omega)) (hT.ntrans _ _ _ (asymm hT hx) (sorted_le hT h2 (by omega) (by omega) (by omega)))
        · rw [if_neg (by omega), if_neg (by omega)]
          exact sorted_le hT h1 hp1 (by omega) (by omega)
      · rw [if_neg (show ¬ (mid ≤ q ∧ q < e) by omega)]
        by_cases c1 : s ≤ p
        · rw [if_pos ⟨c1, hp2⟩]
          exact sorted_le hT h2 (by omega) (by omega) hq2
        · rw [if_neg (by omega), if_neg (by omega)]
          have hss : s0 ≤ s - 1 := by omega
          have hx := q3 (s - 1) hss (by omega)
          rw [hcr (s - 1) hss (by omega)] at hx
          exact hT.ntrans _ _ _ (hT.ntrans _ _ _ (sorted_le hT h2 (i := n - 1 - (s - 1)) (by omega) (by omega) hq2) hx) (sorted_le hT h1 hp1 (by omega) (by omega))
    have S1 : SortedIn T a s d1 := sorted_congr (fun p q x1 x2 x3 => h1 p q x1 x2 (by omega)) fun p x1 x2 => by rw [g1, if_neg (by omega), if_neg (by omega)]
    have S2 : SortedIn T s mid d1 := fun p q x1 x2 x3 => by rw [g1 p, g1 q, if_pos (by omega), if_pos (by omega)]; exact h2 _ _ (by omega) (by omega) (by omega)
    have S3 : SortedIn T mid e d1 := fun p q x1 x2 x3 => by rw [g1 p, g1 q, if_neg (by omega), if_pos (by omega), if_neg (by omega), if_pos (by omega)]; exact h1 _ _ (by omega) (by omega) (by omega)
    have S4 : SortedIn T e b d1 := sorted_congr (fun p q x1 x2 x3 => h2 p q (by omega) x2 x3) fun p x1 x2 => by rw [g1, if_neg (by omega), if_neg (by omega)]
    have C1 : Cross lt T a s mid d1 := fun i j x1 x2 x3 x4 => by rw [g1 i, g1 j, if_pos (by omega), if_neg (by omega), if_neg (by omega)]; exact hc _ _ (by omega) (by omega) (by omega) (by omega)
    have C2 : Cross lt T mid e b d1 := fun i j x1 x2 x3 x4 => by rw [g1 i, g1 j, if_neg (by omega), if_neg (by omega), if_neg (by omega), if_pos (by omega)]; exact hc _ _ (by omega) (by omega) (by omega) (by omega)
    clear g1 hc q3 q4 hcr h1 h2
    -- the left half
    obtain ⟨d2, hd2⟩ : ∃ d2, (if a < s ∧ s < mid then symMerge lt f a s mid d1 else d1) = d2 := ⟨_, rfl⟩
    rw [hd2]
    have L2 : PermIn a mid d1 d2 ∧ SortedIn T a mid d2 := by
      rw [← hd2]
      by_cases hr : a < s ∧ s < mid
      · rw [if_pos hr]
        exact symMerge_law hT f a s mid d1 (by omega) hr.1 hr.2 (by omega) S1 S2 C1
      · rw [if_neg hr]
        refine ⟨permIn_refl _ _ _, ?_⟩
        rcases (show s = a ∨ s = mid by omega) with rfl | rfl
        · exact S2
        · exact S1
    clear hd2 C1 S1 S2
    obtain ⟨P2, S12⟩ := L2
    have z2 : d2.size = d1.size := P2.1
    have o2 : ∀ k, mid ≤ k → d2[k]! = d1[k]! := fun k hk => P2.2.1 k (Or.inr hk)
    have K2 := apart_left (by omega) P2 K
    have S3' : SortedIn T mid e d2 := sorted_congr S3 fun p x1 x2 => o2 p x1
    have S4' : SortedIn T e b d2 := sorted_congr S4 fun p x1 x2 => o2 p (by omega)
    have C2' : Cross lt T mid e b d2 := fun i j x1 x2 x3 x4 => by rw [o2 i x1, o2 j (by omega)]; exact C2 i j x1 x2 x3 x4
    clear K S3 S4 C2 o2
    -- the right half
    obtain ⟨d3, hd3⟩ : ∃ d3, (if mid < e ∧ e < b then symMerge lt f mid e b d2 else d2) = d3 := ⟨_, rfl⟩
    rw [hd3]
    have L3 : PermIn mid b d2 d3 ∧ SortedIn T mid b d3 := by
      rw [← hd3]
      by_cases hr : mid < e ∧ e < b
      · rw [if_pos hr]
        exact symMerge_law hT f mid e b d2 (by omega) hr.1 hr.2 (by omega) S3' S4' C2'
      · rw [if_neg hr]
        refine ⟨permIn_refl _ _ _, ?_⟩
        rcases (show e = mid ∨ e = b by omega) with rfl | rfl
        · exact S4'
        · exact S3'
    obtain ⟨P3, S34⟩ := L3
    have K3 := apart_right (by omega) P3 K2
    refine ⟨permIn_trans _ _ _ _ _ P1 (permIn_trans _ _ _ _ _ (permIn_mono d1 d2 a mid a b (Nat.le_refl _) (by omega) (by omega) P2) (permIn_mono d2 d3 mid b a b (by omega) (Nat.le_refl _) (by omega) P3)), ?_⟩
    exact sorted_join (sorted_congr S12 fun p x1 x2 => P3.2.1 p (Or.inl x2)) S34 K3

/-! ### insertion, where the two orders agree -/
theorem insInner_same {a : Nat} : ∀ (j : Nat) (d : Array α), j < d.size → (∀ q, a ≤ q → q < j → lt d[j]! d[q]! = T d[j]! d[q]!) → insInner lt a j d = insInner T a j d
  | 0, d, hs, h => rfl
  | j + 1, d, hs, h => by
    unfold insInner
    by_cases ha : j + 1 > a
    · have e := h j (by omega) (by omega)
      simp only [decide_eq_true ha, Bool.true_and]
      rw [e]
      by_cases ht : T d[j + 1]! d[j]! = true
      · rw [if_pos ht, if_pos ht]
        refine insInner_same j _ (by rw [size_swp]; omega) fun q hq hqj => ?_
        have g := fun t => swp_get d (i := j + 1) (j := j) (by omega) (by omega) t
        rw [g, g, if_pos rfl, if_neg (by omega), if_neg (by omega)]
        exact h q hq (by omega)
      · rw [if_neg ht, if_neg ht]
    · simp [ha]
theorem insOuter_same (hT : SWO T) (a b : Nat) : ∀ (r i : Nat) (d : Array α), b - i = r → a < i → i ≤ b → b ≤ d.size → SortedIn T a i d → (∀ p q, a ≤ p → p < q → i ≤ q → q < b → lt d[q]! d[p]! = T d[q]! d[p]!) →
    insOuter lt a b i d = insOuter T a b i d
  | 0, i, d, hr, hai, hib, hs, hS, h => by rw [insOuter, if_neg (by omega), insOuter, if_neg (by omega)]
  | r + 1, i, d, hr, hai, hib, hs, hS, h => by
    rw [insOuter, if_pos (by omega)]
    conv => rhs; rw [insOuter, if_pos (show i < b by omega)]
    rw [insInner_same i d (by omega) fun q hq hqi => h q i hq hqi (Nat.le_refl _) (by omega)]
    obtain ⟨hP, hS2⟩ := insInner_spec hT swp_permIn permIn_refl permIn_trans a (i + 1) i (by omega) i d (by omega) (Nat.le_refl _) (by omega) ⟨fun p q hap hpq hqi _ hq => hS p q hap hpq (by omega), fun q h1 h2 => by omega⟩
    refine insOuter_same hT a b r (i + 1) _ (by omega) (by omega) (by omega) (by rw [hP.1]; exact hs) hS2 fun p q hp hpq hq hqb => ?_
    rw [hP.2.1 q (Or.inr hq)]
    by_cases hpi : p < i + 1
    · exact permIn_all d _ a (i + 1) (fun x => lt d[q]! x = T d[q]! x) (by omega) hP (fun k k1 k2 => h k q k1 (by omega) (by omega) hqb) p hp hpi
    · rw [hP.2.1 p (Or.inr (by omega))]
      exact h p q hp hpq (by omega) hqb
theorem insertion_law (hT : SWO T) (d : Array α) (a b : Nat) (hab : a ≤ b) (hb : b ≤ d.size) (h : ∀ p q, a ≤ p → p < q → q < b → lt d[q]! d[p]! = T d[q]! d[p]!) :
    PermIn a b d (insertionSort lt d a b) ∧ SortedIn T a b (insertionSort lt d a b) := by
  have e : insertionSort lt d a b = insertionSort T d a b := by
    unfold insertionSort
    by_cases h1 : a + 1 ≤ b
    · exact insOuter_same hT a b (b - (a + 1)) (a + 1) d rfl (by omega) h1 hb (fun i j x1 x2 x3 => by omega) fun p q x1 x2 x3 x4 => h p q x1 x2 x4
    · rw [insOuter, if_neg (by omega), insOuter, if_neg (by omega)]
  rw [e]
  exact insertionSort_holds hT d a b hab hb

/-! ### the whole -/
def insBlocks (lt : α → α → Bool) (n a : Nat) (d : Array α) : Array α := if a + 20 ≤ n then insBlocks lt n (a + 20) (insertionSort lt d a (a + 20)) else insertionSort lt d a n
termination_by n - a
def mergePass (lt : α → α → Bool) (n bs a : Nat) (d : Array α) : Array α :=
  if _h : 0 < bs ∧ a + 2 * bs ≤ n then mergePass lt n bs (a + 2 * bs) (symMerge lt (2 * bs) a (a + bs) (a + 2 * bs) d)
  else if a + bs < n then symMerge lt (n - a) a (a + bs) n d else d
termination_by n - a
def stableLoop (lt : α → α → Bool) (n bs : Nat) (d : Array α) : Array α := if _h : 0 < bs ∧ bs < n then stableLoop lt n (2 * bs) (mergePass lt n bs 0 d) else d
termination_by n - bs
def stable (lt : α → α → Bool) (d : Array α) : Array α := stableLoop lt d.size 20 (insBlocks lt d.size 0 d)
/-- All ahead of c stand to all behind it as they should. -/
def Cut (lt T : α → α → Bool) (n c : Nat) (d : Array α) : Prop := ∀ i j, i < c → c ≤ j → j < n → lt d[j]! d[i]! = T d[j]! d[i]!
theorem Cut.perm {n c a b : Nat} {d d' : Array α} (h : Cut lt T n c d) (hP : PermIn a b d d') (hab : a ≤ b) (hb : b ≤ n) (hn : n ≤ d.size) (hc : c ≤ a ∨ b ≤ c) : Cut lt T n c d' := fun i j hi hj hjn => by
  rcases hc with hc | hc
  · rw [hP.2.1 i (Or.inl (by omega))]
    exact permIn_all d d' c n (fun x => lt x d[i]! = T x d[i]!) hn (permIn_mono d d' a b c n hc hb hn hP) (fun k k1 k2 => h i k hi k1 k2) j hj hjn
  · rw [hP.2.1 j (Or.inr (by omega))]
    exact permIn_all d d' 0 c (fun x => lt d[j]! x = T d[j]! x) (by omega) (permIn_mono d d' a b 0 c (by omega) hc (by omega) hP) (fun k k1 k2 => h k j k2 hj hjn) i (by omega) hi
theorem sorted_away {a b lo hi : Nat} {d d' : Array α} (h : SortedIn T lo hi d) (hP : PermIn a b d d') (ha : hi ≤ a ∨ b ≤ lo) : SortedIn T lo hi d' :=
  sorted_congr h fun p h1 h2 => hP.2.1 p (by omega)
theorem gap (bs x k : Nat) : bs * x ≤ bs * k ∨ bs * k + bs ≤ bs * x := by
  by_cases h : x ≤ k
  · exact .inl (Nat.mul_le_mul_left bs h)
  · right
    have := Nat.mul_le_mul_left bs (show k + 1 ≤ x by omega)
    rw [Nat.mul_add, Nat.mul_one] at this
    exact this
theorem insBlocks_law (hT : SWO T) (n : Nat) : ∀ (r k : Nat) (d : Array α), n - 20 * k ≤ r → 20 * k ≤ n → d.size = n → (∀ c, 20 * k ≤ c → Cut lt T n c d) → (∀ x, Cut lt T n (20 * x) d) → (∀ x, x < k → SortedIn T (20 * x) (20 * x + 20) d) →
    PermIn 0 n d (insBlocks lt n (20 * k) d) ∧ (∀ x, Cut lt T n (20 * x) (insBlocks lt n (20 * k) d)) ∧ (∀ x, SortedIn T (20 * x) (min (20 * x + 20) n) (insBlocks lt n (20 * k) d)) := by
  intro r
  induction r using Nat.strongRecOn with
  | ind r ih =>
    intro k d hr hk hs hc1 hc2 hrun
    rw [insBlocks]
    by_cases hb : 20 * k + 20 ≤ n
    · rw [if_pos hb]
      obtain ⟨hP, hS⟩ := insertion_law (lt := lt) hT d (20 * k) (20 * k + 20) (by omega) (by omega) fun p q x1 x2 x3 => hc1 q (by omega) p q x2 (Nat.le_refl _) (by omega)
      have hP2 := permIn_mono d _ (20 * k) (20 * k + 20) 0 n (by omega) hb (by omega) hP
      obtain ⟨r1, r2, r3⟩ := ih (r - 1) (by omega) (k + 1) (insertionSort lt d (20 * k) (20 * k + 20)) (by omega) (by omega) (by rw [hP.1]; exact hs)
        (fun c hc => (hc1 c (by omega)).perm hP (by omega) hb (by omega) (.inr (by omega)))
        (fun x => (hc2 x).perm hP (by omega) hb (by omega) (by omega))
        (fun x hx => by
          by_cases e : x = k
          · subst e; exact hS
          · exact sorted_away (hrun x (by omega)) hP (by omega))
      rw [show 20 * (k + 1) = 20 * k + 20 by omega] at r1 r2 r3
      exact ⟨permIn_trans _ _ _ _ _ hP2 r1, r2, r3⟩
    · rw [if_neg hb]
      obtain ⟨hP, hS⟩ := insertion_law (lt := lt) hT d (20 * k) n hk (by omega) fun p q x1 x2 x3 => hc1 q (by omega) p q x2 (Nat.le_refl _) (by omega)
      refine ⟨permIn_mono d _ (20 * k) n 0 n (by omega) (Nat.le_refl _) (by omega) hP, fun x => (hc2 x).perm hP hk (Nat.le_refl _) (by omega) (by omega), fun x => ?_⟩
      by_cases e : x < k
      · rw [show min (20 * x + 20) n = 20 * x + 20 by omega]
        exact sorted_away (hrun x e) hP (by omega)
      · by_cases e2 : x = k
        · subst e2
          rw [show min (20 * x + 20) n = n by omega]
          exact hS
        · exact fun i j h1 h2 h3 => by omega
theorem mergePass_law (hT : SWO T) (n bs : Nat) (hbs : 0 < bs) : ∀ (r k : Nat) (d : Array α), n - 2 * bs * k ≤ r → d.size = n → (∀ x, Cut lt T n (2 * bs * x) d) → (∀ x, 2 * bs * k ≤ bs * x → Cut lt T n (bs * x) d) →
    (∀ x, x < k → SortedIn T (2 * bs * x) (min (2 * bs * x + 2 * bs) n) d) → (∀ x, 2 * bs * k ≤ bs * x → SortedIn T (bs * x) (min (bs * x + bs) n) d) →
    PermIn 0 n d (mergePass lt n bs (2 * bs * k) d) ∧ (∀ x, Cut lt T n (2 * bs * x) (mergePass lt n bs (2 * bs * k) d)) ∧ (∀ x, SortedIn T (2 * bs * x) (min (2 * bs * x + 2 * bs) n) (mergePass lt n bs (2 * bs * k) d)) := by
  intro r
  induction r using Nat.strongRecOn with
  | ind r ih =>
    intro k d hr hs hc2 hc1 hrun hrest
    have e0 : bs * (2 * k) = 2 * bs * k := by rw [← Nat.mul_assoc, Nat.mul_comm bs 2]
    have e1 : bs * (2 * k + 1) = 2 * bs * k + bs := by rw [Nat.mul_add, Nat.mul_one, e0]
    have e2 : 2 * bs * (k + 1) = 2 * bs * k + 2 * bs := by rw [Nat.mul_add, Nat.mul_one]
    have s1 := hrest (2 * k) (by omega)
    have s2 := hrest (2 * k + 1) (by omega)
    have c1 := hc1 (2 * k + 1) (by omega)
    rw [e0] at s1
    rw [e1] at s2 c1
    rw [mergePass]
    by_cases hb : 2 * bs * k + 2 * bs ≤ n
    · rw [dif_pos ⟨hbs, hb⟩]
      rw [show min (2 * bs * k + bs) n = 2 * bs * k + bs by omega] at s1
      rw [show min (2 * bs * k + bs + bs) n = 2 * bs * k + 2 * bs by omega] at s2
      obtain ⟨hP, hS⟩ := symMerge_law (lt := lt) hT (2 * bs) (2 * bs * k) (2 * bs * k + bs) (2 * bs * k + 2 * bs) d (by omega) (by omega) (by omega) (by omega) s1 s2 (fun i j x1 x2 x3 x4 => c1 i j x2 x3 (by omega))
      have hP2 := permIn_mono d _ (2 * bs * k) (2 * bs * k + 2 * bs) 0 n (by omega) hb (by omega) hP
      obtain ⟨r1, r2, r3⟩ := ih (r - 1) (by omega) (k + 1) (symMerge lt (2 * bs) (2 * bs * k) (2 * bs * k + bs) (2 * bs * k + 2 * bs) d) (by omega) (by rw [hP.1]; exact hs)
        (fun x => (hc2 x).perm hP (by omega) hb (by omega) (by rcases gap (2 * bs) x k with h | h <;> omega))
        (fun x hx => (hc1 x (by omega)).perm hP (by omega) hb (by omega) (.inr (by omega)))
        (fun x hx => by
          by_cases e : x = k
          · subst e
            rw [show min (2 * bs * x + 2 * bs) n = 2 * bs * x + 2 * bs by omega]
            exact hS
          · exact sorted_away (hrun x (by omega)) hP (by
              have := Nat.mul_le_mul_left (2 * bs) (show x + 1 ≤ k by omega)
              rw [Nat.mul_add, Nat.mul_one] at this
              omega))
        (fun x hx => sorted_away (hrest x (by omega)) hP (.inr (by omega)))
      rw [e2] at r1 r2 r3
      exact ⟨permIn_trans _ _ _ _ _ hP2 r1, r2, r3⟩
    · rw [dif_neg (by omega)]
      have hend : ∀ (d' : Array α), (∀ x, x < k → SortedIn T (2 * bs * x) (min (2 * bs * x + 2 * bs) n) d') → SortedIn T (2 * bs * k) n d' → ∀ x, SortedIn T (2 * bs * x) (min (2 * bs * x + 2 * bs) n) d' := fun d' h1 h2 x => by
        by_cases e : x < k
        · exact h1 x e
        · by_cases e3 : x = k
          · subst e3
            rw [show min (2 * bs * x + 2 * bs) n = n by omega]
            exact h2
          · have := Nat.mul_le_mul_left (2 * bs) (show k + 1 ≤ x by omega)
            exact fun i j h1 h2 h3 => by omega
      by_cases hm : 2 * bs * k + bs < n
      · rw [if_pos hm]
        rw [show min (2 * bs * k + bs) n = 2 * bs * k + bs by omega] at s1
        rw [show min (2 * bs * k + bs + bs) n = n by omega] at s2
        obtain ⟨hP, hS⟩ := symMerge_law (lt := lt) hT (n - 2 * bs * k) (2 * bs * k) (2 * bs * k + bs) n d (by omega) (by omega) hm (by omega) s1 s2 (fun i j x1 x2 x3 x4 => c1 i j x2 x3 x4)
        refine ⟨permIn_mono d _ (2 * bs * k) n 0 n (by omega) (Nat.le_refl _) (by omega) hP, fun x => (hc2 x).perm hP (by omega) (Nat.le_refl _) (by omega) (by rcases gap (2 * bs) x k with h | h <;> omega), hend _ (fun x hx => sorted_away (hrun x hx) hP (by
          have := Nat.mul_le_mul_left (2 * bs) (show x + 1 ≤ k by omega)
          rw [Nat.mul_add, Nat.mul_one] at this
          omega)) hS⟩
      · rw [if_neg hm]
        rw [show min (2 * bs * k + bs) n = n by omega] at s1
        exact ⟨permIn_refl _ _ _, hc2, hend d hrun s1⟩
theorem stableLoop_law (hT : SWO T) (n : Nat) : ∀ (r bs : Nat) (d : Array α), n - bs ≤ r → 0 < bs → d.size = n → (∀ x, Cut lt T n (bs * x) d) → (∀ x, SortedIn T (bs * x) (min (bs * x + bs) n) d) →
    PermIn 0 n d (stableLoop lt n bs d) ∧ SortedIn T 0 n (stableLoop lt n bs d) := by
  intro r
  induction r using Nat.strongRecOn with
  | ind r ih =>
    intro bs d hr hbs hs hc hrun
    rw [stableLoop]
    by_cases hb : bs < n
    · rw [dif_pos ⟨hbs, hb⟩]
      obtain ⟨r1, r2, r3⟩ := mergePass_law (lt := lt) hT n bs hbs n 0 d (by omega) hs (fun x => by rw [Nat.mul_comm 2 bs, Nat.mul_assoc]; exact hc (2 * x)) (fun x _ => hc x) (fun x hx => by omega) (fun x _ => hrun x)
      rw [Nat.mul_zero] at r1 r2 r3
      obtain ⟨q1, q2⟩ := ih (r - 1) (by omega) (2 * bs) (mergePass lt n bs 0 d) (by omega) (by omega) (by rw [r1.1]; exact hs) r2 r3
      exact ⟨permIn_trans _ _ _ _ _ r1 q1, q2⟩
    · rw [dif_neg (by omega)]
      have := hrun 0
      rw [Nat.mul_zero, show min (0 + bs) n = n by omega] at this
      exact ⟨permIn_refl _ _ _, this⟩
/-- What the stable sort makes: a permutation, sorted by T, where T agrees with the order asked wherever two stand in the order in which they came. -/
theorem stable_law (hT : SWO T) (d : Array α) (h : ∀ i j, i < j → j < d.size → lt d[j]! d[i]! = T d[j]! d[i]!) : PermIn 0 d.size d (stable lt d) ∧ SortedIn T 0 d.size (stable lt d) := by
  have hcut : ∀ c, Cut lt T d.size c d := fun c i j h1 h2 h3 => h i j (by omega) h3
  obtain ⟨r1, r2, r3⟩ := insBlocks_law (lt := lt) hT d.size d.size 0 d (by omega) (by omega) rfl (fun c _ => hcut c) (fun x => hcut _) (fun x hx => by omega)
  rw [Nat.mul_zero] at r1 r2 r3
  unfold stable
  obtain ⟨q1, q2⟩ := stableLoop_law (lt := lt) hT d.size d.size 20 (insBlocks lt d.size 0 d) (by omega) (by omega) r1.1 r2 r3
  exact ⟨permIn_trans _ _ _ _ _ r1 q1, q2⟩
end
end Go.Proofs.YtcbopgopegphlaaGreat
