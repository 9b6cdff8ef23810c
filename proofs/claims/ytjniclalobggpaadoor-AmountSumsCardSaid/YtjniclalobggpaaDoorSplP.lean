/-
  Shares of a total by weights, in plain words: what each part is, which parts get one more, and what that sums to. No statement is proved here.
-/
import Derived.Test.YtjniclalobggpaaDoorSoP
namespace Go.Proofs.YtjniclalobggpaaDoor
open Go.Sort
set_option linter.unusedVariables false

def sumTo (f : Nat → Nat) : Nat → Nat
  | 0 => 0
  | k + 1 => sumTo f k + f k
def wAt (ws : List Nat) (i : Nat) : Nat := ws.getD i 0
def wsum (ws : List Nat) : Nat → Nat := sumTo (wAt ws)
def qq (n : Nat) (ws : List Nat) (S i : Nat) : Nat := n * wAt ws i / S
def rr (n : Nat) (ws : List Nat) (S i : Nat) : Nat := n * wAt ws i % S
def left0 (n : Nat) (ws : List Nat) (S L : Nat) : Nat := n - sumTo (qq n ws S) L
def shares0 (n : Nat) (ws : List Nat) (S L : Nat) : Array (Nat × Nat) := ((List.range L).map fun i => (i, rr n ws S i)).toArray
def ltSh (x y : Nat × Nat) : Bool := decide (y.2 < x.2)
def TSh (x y : Nat × Nat) : Bool := decide (y.2 < x.2 ∨ (x.2 = y.2 ∧ x.1 < y.1))
theorem swo_TSh : SWO TSh where
  irrefl x := by simp [TSh]
  trans x y z h1 h2 := by simp only [TSh, decide_eq_true_eq] at *; omega
  ntrans x y z h1 h2 := by simp only [TSh, decide_eq_false_iff_not] at *; omega
def order (n : Nat) (ws : List Nat) (S L : Nat) : Array (Nat × Nat) := stable ltSh (shares0 n ws S L)
def place (n : Nat) (ws : List Nat) (S L k : Nat) : Nat := ((order n ws S L)[k]!).1
def picked (p : Nat → Nat) : Nat → Nat → Bool
  | 0, _ => false
  | k + 1, i => picked p k i || p k == i
theorem picked_iff (p : Nat → Nat) : ∀ k i, picked p k i = true ↔ ∃ j, j < k ∧ p j = i
  | 0, i => by simp [picked]
  | k + 1, i => by
    simp only [picked, Bool.or_eq_true, picked_iff p k i, beq_iff_eq]
    constructor
    · rintro (⟨j, h1, h2⟩ | h)
      · exact ⟨j, by omega, h2⟩
      · exact ⟨k, by omega, h⟩
    · rintro ⟨j, h1, h2⟩
      by_cases e : j = k
      · subst e; exact .inr h2
      · exact .inl ⟨j, by omega, h2⟩

/-! ### sums -/
theorem sumTo_congr (f g : Nat → Nat) : ∀ k, (∀ i, i < k → f i = g i) → sumTo f k = sumTo g k
  | 0, h => rfl
  | k + 1, h => by rw [sumTo, sumTo, sumTo_congr f g k fun i hi => h i (by omega), h k (by omega)]
theorem sumTo_mono (f : Nat → Nat) : ∀ (L k : Nat), k ≤ L → sumTo f k ≤ sumTo f L
  | 0, k, h => by rw [Nat.le_zero.1 h]; exact Nat.le_refl _
  | L + 1, k, h => by
    by_cases e : k = L + 1
    · subst e; exact Nat.le_refl _
    · have := sumTo_mono f L k (by omega)
      rw [sumTo]; omega
theorem sumTo_le (f : Nat → Nat) (b : Nat) : ∀ k, (∀ i, i < k → f i ≤ b) → sumTo f k ≤ k * b
  | 0, h => by simp [sumTo]
  | k + 1, h => by
    have h1 := sumTo_le f b k fun i hi => h i (by omega)
    have h2 := h k (by omega)
    rw [sumTo, Nat.add_mul, Nat.one_mul]; omega
theorem sumTo_add (f g : Nat → Nat) : ∀ k, sumTo (fun i => f i + g i) k = sumTo f k + sumTo g k
  | 0 => rfl
  | k + 1 => by rw [sumTo, sumTo, sumTo, sumTo_add f g k]; omega
theorem sumTo_zero (f : Nat → Nat) : ∀ k, (∀ i, i < k → f i = 0) → sumTo f k = 0
  | 0, h => rfl
  | k + 1, h => by rw [sumTo, sumTo_zero f k fun i hi => h i (by omega), h k (by omega)]
theorem sumTo_one (p : Nat) : ∀ L, p < L → sumTo (fun i => if p == i then 1 else 0) L = 1
  | 0, h => by omega
  | L + 1, h => by
    rw [sumTo]
    by_cases e : p = L
    · subst e
      rw [sumTo_zero _ p fun i hi => by simp [show p ≠ i by omega]]
      simp
    · rw [sumTo_one p L (by omega)]
      simp [e]
theorem split_sum (n : Nat) (ws : List Nat) (S : Nat) : ∀ k, n * wsum ws k = S * sumTo (qq n ws S) k + sumTo (rr n ws S) k
  | 0 => by simp [wsum, sumTo]
  | k + 1 => by
    have h := split_sum n ws S k
    have h2 := Nat.div_add_mod (n * wAt ws k) S
    unfold wsum at *
    rw [sumTo, sumTo, sumTo, Nat.mul_add, Nat.mul_add, h]
    show _ = S * _ + S * (n * wAt ws k / S) + (_ + n * wAt ws k % S)
    omega

/-! ### the order -/
section
variable (n : Nat) (ws : List Nat) (S L : Nat)
theorem shares0_size : (shares0 n ws S L).size = L := by simp [shares0]
theorem shares0_at (i : Nat) (h : i < L) : (shares0 n ws S L)[i]! = (i, rr n ws S i) := by
  rw [getElem!_pos _ i (by rw [shares0_size]; exact h)]
  simp [shares0]
theorem order_law : PermIn 0 L (shares0 n ws S L) (order n ws S L) ∧ SortedIn TSh 0 L (order n ws S L) := by
  have h := stable_law (lt := ltSh) (T := TSh) swo_TSh (shares0 n ws S L) fun i j hij hj => by
    rw [shares0_size] at hj
    rw [shares0_at n ws S L i (by omega), shares0_at n ws S L j hj]
    simp only [ltSh, TSh]
    rw [decide_eq_decide]
    omega
  rw [shares0_size] at h
  exact h
theorem order_size : (order n ws S L).size = L := (order_law n ws S L).1.1.trans (shares0_size n ws S L)
theorem order_perm : (order n ws S L).toList.Perm ((List.range L).map fun i => (i, rr n ws S i)) := by
  have h := (order_law n ws S L).1.2.2
  have key : ∀ d : Array (Nat × Nat), d.size = L → d.extract 0 L = d := fun d hd => by subst hd; exact Array.extract_size
  rw [key _ (order_size n ws S L), key _ (shares0_size n ws S L)] at h
  exact h
theorem order_mem (k : Nat) (hk : k < L) : (order n ws S L)[k]! ∈ (order n ws S L).toList := by
  rw [getElem!_pos _ k (by rw [order_size]; exact hk)]
  exact Array.mem_def.1 (Array.getElem_mem _)
theorem order_at (k : Nat) (hk : k < L) : (order n ws S L)[k]! = (place n ws S L k, rr n ws S (place n ws S L k)) ∧ place n ws S L k < L := by
  have h := (order_perm n ws S L).mem_iff.1 (order_mem n ws S L k hk)
  obtain ⟨i, hi, he⟩ := List.mem_map.1 h
  rw [List.mem_range] at hi
  have hp : place n ws S L k = i := by unfold place; rw [← he]
  rw [hp, ← he]
  exact ⟨rfl, hi⟩
theorem place_all (i : Nat) (hi : i < L) : ∃ m, m < L ∧ place n ws S L m = i := by
  have h : (i, rr n ws S i) ∈ (order n ws S L).toList := (order_perm n ws S L).mem_iff.2 (List.mem_map.2 ⟨i, List.mem_range.2 hi, rfl⟩)
  obtain ⟨m, hm, he⟩ := List.getElem_of_mem h
  have hs : m < L := by have := order_size n ws S L; simp at hm; omega
  refine ⟨m, hs, ?_⟩
  unfold place
  rw [getElem!_pos _ m (by rw [order_size]; exact hs)]
  simp only [Array.getElem_toList] at he
  rw [he]
theorem place_ne {k m : Nat} (hkm : k < m) (hm : m < L) : place n ws S L k ≠ place n ws S L m := by
  have hnd : ((order n ws S L).toList.map (·.1)).Nodup := by
    have h := (order_perm n ws S L).map (·.1)
    refine h.nodup_iff.2 ?_
    rw [List.map_map, show ((fun x : Nat × Nat => x.1) ∘ fun i => (i, rr n ws S i)) = id from rfl, List.map_id]
    exact List.nodup_range
  intro he
  rw [List.nodup_iff_pairwise_ne, List.pairwise_iff_getElem] at hnd
  have hs := order_size n ws S L
  have := hnd k m (by simp [hs]; omega) (by simp [hs]; omega) hkm
  apply this
  simp only [List.getElem_map, Array.getElem_toList]
  unfold place at he
  rw [getElem!_pos _ k (by omega), getElem!_pos _ m (by omega)] at he
  exact he
theorem place_sorted {k m : Nat} (hkm : k < m) (hm : m < L) :
    rr n ws S (place n ws S L m) < rr n ws S (place n ws S L k) ∨ (rr n ws S (place n ws S L m) = rr n ws S (place n ws S L k) ∧ place n ws S L k < place n ws S L m) := by
  have h := (order_law n ws S L).2 k m (Nat.zero_le _) hkm hm
  have h1 := (order_at n ws S L k (by omega)).1
  have h2 := (order_at n ws S L m hm).1
  have h3 := place_ne n ws S L hkm hm
  rw [h1, h2] at h
  simp only [TSh, decide_eq_false_iff_not] at h
  omega
/-- What has been picked already; what is still to be had. -/
def pk (k i : Nat) : Bool := picked (place n ws S L) k i
theorem pk_zero (i : Nat) : pk n ws S L 0 i = false := rfl
theorem pk_succ (k i : Nat) : pk n ws S L (k + 1) i = (pk n ws S L k i || place n ws S L k == i) := rfl
theorem pk_fresh (k : Nat) (hk : k < L) : pk n ws S L k (place n ws S L k) = false := by
  rw [Bool.eq_false_iff]
  intro h
  obtain ⟨j, h1, h2⟩ := (picked_iff _ _ _).1 h
  exact place_ne n ws S L h1 hk h2
def restF (k i : Nat) : Int := if pk n ws S L k i then -1 else (rr n ws S i : Int)
theorem restF_zero (i : Nat) : restF n ws S L 0 i = (rr n ws S i : Int) := rfl
theorem restF_succ (k i : Nat) : restF n ws S L (k + 1) i = if i = place n ws S L k then -1 else restF n ws S L k i := by
  unfold restF
  rw [pk_succ]
  by_cases e : i = place n ws S L k
  · rw [if_pos e, e]; simp
  · rw [if_neg e]
    have : (place n ws S L k == i) = false := by simp; omega
    rw [this, Bool.or_false]
theorem restF_lo (k i : Nat) : -1 ≤ restF n ws S L k i := by unfold restF; split <;> omega
theorem restF_hi (hS : 0 < S) (k i : Nat) : restF n ws S L k i < S := by
  unfold restF
  split
  · omega
  · have : rr n ws S i < S := Nat.mod_lt _ hS
    omega
/-- The first of the greatest rests is the next in order. -/
theorem pick_law (k x : Nat) (hk : k < L) (hx : x < L) (h1 : ∀ j, j < L → restF n ws S L k j ≤ restF n ws S L k x) (h2 : ∀ j, j < x → restF n ws S L k j < restF n ws S L k x) : x = place n ws S L k := by
  have hp := (order_at n ws S L k hk).2
  have hf := pk_fresh n ws S L k hk
  have e1 : restF n ws S L k (place n ws S L k) = (rr n ws S (place n ws S L k) : Int) := by unfold restF; rw [hf]; rfl
  have a1 := h1 _ hp
  rw [e1] at a1
  have hxf : pk n ws S L k x = false := by
    rw [Bool.eq_false_iff]
    intro h
    have : restF n ws S L k x = -1 := by unfold restF; rw [h]; rfl
    omega
  have e2 : restF n ws S L k x = (rr n ws S x : Int) := by unfold restF; rw [hxf]; rfl
  obtain ⟨m, hm, hmx⟩ := place_all n ws S L x hx
  have hkm : k ≤ m := by
    rcases Nat.lt_or_ge m k with h | h
    · have : pk n ws S L k x = true := (picked_iff _ _ _).2 ⟨m, h, hmx⟩
      rw [hxf] at this; cases this
    · exact h
  by_cases e : m = k
  · rw [← hmx, e]
  · have hs := place_sorted n ws S L (k := k) (m := m) (by omega) hm
    rw [hmx] at hs
    rcases hs with hs | ⟨hs, hlt⟩
    · omega
    · have := h2 _ hlt
      omega
theorem pk_count (k : Nat) (hk : k ≤ L) : sumTo (fun i => if pk n ws S L k i then 1 else 0) L = k := by
  induction k with
  | zero => exact sumTo_zero _ _ fun i _ => rfl
  | succ k ih =>
    have h := ih (by omega)
    have hf := pk_fresh n ws S L k (by omega)
    rw [show sumTo (fun i => if pk n ws S L (k + 1) i then 1 else 0) L = sumTo (fun i => (if pk n ws S L k i then 1 else 0) + (if place n ws S L k == i then 1 else 0)) L from sumTo_congr _ _ _ fun i _ => by
      rw [pk_succ]
      by_cases e : place n ws S L k = i
      · rw [← e, hf]; simp
      · simp [e]]
    rw [sumTo_add, h, sumTo_one _ _ (order_at n ws S L k (by omega)).2]
theorem rest_sum (f : Nat → Nat) : sumTo f L = sumTo (fun k => f (place n ws S L k)) L := by
  have key : ∀ (l : List Nat) (g : Nat → Nat), ((List.range l.length).map fun k => g (l.getD k 0)) = l.map g := fun l g => by
    refine List.ext_getElem (by simp) fun i h1 h2 => ?_
    simp at h1
    simp [List.getD_eq_getElem?_getD, List.getElem?_eq_getElem h1]
  have hsum : ∀ (g : Nat → Nat) m, sumTo g m = ((List.range m).map g).sum := fun g m => by
    induction m with
    | zero => rfl
    | succ m ih => rw [sumTo, ih, List.range_succ, List.map_append, List.sum_append]; simp
  have hp := (order_perm n ws S L).map fun x => f x.1
  rw [List.map_map] at hp
  have e1 : (List.map ((fun x : Nat × Nat => f x.1) ∘ fun i => (i, rr n ws S i)) (List.range L)) = (List.range L).map f := rfl
  rw [e1] at hp
  rw [hsum, hsum, ← hp.sum_nat]
  congr 1
  have hs := order_size n ws S L
  refine List.ext_getElem (by simp [hs]) fun i h1 h2 => ?_
  simp at h2
  simp only [List.getElem_map, Array.getElem_toList, List.getElem_range]
  unfold place
  rw [getElem!_pos _ i (by omega)]
/-- How many are left when each has its whole part. -/
theorem left_law (hL : wsum ws L = S) (hS : 0 < S) : sumTo (qq n ws S) L ≤ n ∧ left0 n ws S L * S = sumTo (rr n ws S) L ∧ left0 n ws S L < L := by
  have h := split_sum n ws S L
  rw [hL] at h
  have hr : sumTo (rr n ws S) L ≤ L * (S - 1) := sumTo_le _ _ _ fun i _ => by have : rr n ws S i < S := Nat.mod_lt _ hS; omega
  have hLp : 0 < L := by
    rcases Nat.eq_zero_or_pos L with e | e
    · subst e; simp [wsum, sumTo] at hL; omega
    · exact e
  generalize sumTo (rr n ws S) L = R at *
  unfold left0
  generalize sumTo (qq n ws S) L = Q at *
  have hq : Q ≤ n := by
    rw [Nat.mul_comm n S] at h
    exact Nat.le_of_mul_le_mul_left (by omega) hS
  obtain ⟨d, rfl⟩ : ∃ d, n = Q + d := ⟨n - Q, by omega⟩
  rw [Nat.add_sub_cancel_left]
  rw [Nat.add_mul, Nat.mul_comm Q S] at h
  refine ⟨by omega, by omega, ?_⟩
  rcases Nat.lt_or_ge d L with hd | hd
  · exact hd
  · have h3 : L * S ≤ d * S := Nat.mul_le_mul_right S hd
    have h4 : L * (S - 1) < L * S := Nat.mul_lt_mul_of_pos_left (by omega) hLp
    omega
theorem picked_pos (hL : wsum ws L = S) (hS : 0 < S) (i : Nat) (h : pk n ws S L (left0 n ws S L) i = true) : 0 < rr n ws S i := by
  obtain ⟨hq, hl, hlt⟩ := left_law n ws S L hL hS
  obtain ⟨k, hk, hki⟩ := (picked_iff _ _ _).1 h
  rcases Nat.eq_zero_or_pos (rr n ws S i) with e | e
  · exfalso
    have hz : ∀ m, k ≤ m → m < L → rr n ws S (place n ws S L m) = 0 := fun m hm hmL => by
      by_cases e2 : m = k
      · rw [e2, hki, e]
      · have := place_sorted n ws S L (k := k) (m := m) (by omega) hmL
        rw [hki, e] at this
        omega
    rw [rest_sum n ws S L] at hl
    have hs : ∀ m, m ≤ L → sumTo (fun j => rr n ws S (place n ws S L j)) m ≤ k * (S - 1) := fun m hm => by
      induction m with
      | zero => simp [sumTo]
      | succ m ih =>
        by_cases e2 : k ≤ m
        · rw [sumTo, hz m e2 (by omega)]; exact ih (by omega)
        · refine Nat.le_trans (sumTo_le _ (S - 1) (m + 1) fun j _ => ?_) (Nat.mul_le_mul_right _ (by omega))
          have : rr n ws S (place n ws S L j) < S := Nat.mod_lt _ hS
          omega
    have := hs L (Nat.le_refl _)
    have h5 : (k + 1) * S ≤ left0 n ws S L * S := Nat.mul_le_mul_right S hk
    have h6 : k * (S - 1) ≤ k * S := Nat.mul_le_mul_left k (by omega)
    rw [Nat.add_mul] at h5
    omega
  · exact e

/-! ### the shares -/
def shareF (k i : Nat) : Nat := qq n ws S i + if pk n ws S L k i then 1 else 0
theorem shareF_zero (i : Nat) : shareF n ws S L 0 i = qq n ws S i := rfl
theorem shareF_succ (k i : Nat) (hk : k < L) : shareF n ws S L (k + 1) i = if i = place n ws S L k then shareF n ws S L k i + 1 else shareF n ws S L k i := by
  unfold shareF
  rw [pk_succ]
  by_cases e : i = place n ws S L k
  · rw [if_pos e, e, pk_fresh n ws S L k hk]; simp
  · rw [if_neg e]
    have : (place n ws S L k == i) = false := by simp; omega
    rw [this, Bool.or_false]
theorem share_sum (hL : wsum ws L = S) (hS : 0 < S) : sumTo (shareF n ws S L (left0 n ws S L)) L = n := by
  obtain ⟨hq, _, hlt⟩ := left_law n ws S L hL hS
  unfold shareF
  rw [sumTo_add, pk_count n ws S L _ (by omega)]
  unfold left0
  omega
theorem share_near (hL : wsum ws L = S) (hS : 0 < S) (i : Nat) :
    n * wAt ws i < (shareF n ws S L (left0 n ws S L) i + 1) * S ∧ (0 < shareF n ws S L (left0 n ws S L) i → (shareF n ws S L (left0 n ws S L) i - 1) * S < n * wAt ws i) := by
  have h := Nat.div_add_mod (n * wAt ws i) S
  have hm : n * wAt ws i % S < S := Nat.mod_lt _ hS
  unfold shareF
  have hp := picked_pos n ws S L hL hS i
  unfold qq
  unfold rr at hp
  generalize n * wAt ws i / S = q at *
  generalize n * wAt ws i % S = r at *
  generalize n * wAt ws i = t at *
  rw [Nat.mul_comm S q] at h
  cases e : pk n ws S L (left0 n ws S L) i
  · simp only [Bool.false_eq_true, if_false, Nat.add_zero, Nat.add_mul, Nat.one_mul]
    refine ⟨by omega, fun h0 => ?_⟩
    obtain ⟨q', rfl⟩ : ∃ q', q = q' + 1 := ⟨q - 1, by omega⟩
    rw [Nat.add_mul, Nat.one_mul] at h
    rw [Nat.add_sub_cancel]; omega
  · have := hp e
    simp only [if_true, Nat.add_mul, Nat.one_mul, Nat.add_sub_cancel]
    exact ⟨by omega, fun _ => by omega⟩
theorem share_le (hL : wsum ws L = S) (hS : 0 < S) (k i : Nat) (hi : i < L) : shareF n ws S L k i ≤ n + 1 := by
  have hw : wAt ws i ≤ S := by
    have h1 := sumTo_mono (wAt ws) L (i + 1) hi
    rw [sumTo] at h1
    unfold wsum at hL
    omega
  have hq : qq n ws S i ≤ n := by
    unfold qq
    refine Nat.le_trans (Nat.div_le_div_right (Nat.mul_le_mul_left n hw)) ?_
    rw [Nat.mul_div_cancel _ hS]; exact Nat.le_refl _
  unfold shareF
  split <;> omega
end
end Go.Proofs.YtjniclalobggpaaDoor
