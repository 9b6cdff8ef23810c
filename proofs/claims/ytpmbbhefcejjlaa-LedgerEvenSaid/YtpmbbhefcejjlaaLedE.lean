/-
  The plain law of lines: there and back, over a third state, sums.
-/
import Derived.Test.YtpmbbhefcejjlaaLedP2
namespace Go.Proofs.Ytpmbbhefcejjlaa
set_option linter.unusedVariables false

/-- The sum of an account's lines. -/
def accOf (l : List (Int × Int)) (k : Nat) : Int := (l.map fun x => if x.1 = (k : Int) then x.2 else 0).sum
def tot (l : List (Int × Int)) : Int := (l.map fun x => x.2).sum
theorem accOf_nil (k : Nat) : accOf [] k = 0 := rfl
theorem tot_nil : tot [] = 0 := rfl
theorem accOf_append (a b : List (Int × Int)) (k : Nat) : accOf (a ++ b) k = accOf a k + accOf b k := by simp [accOf]
theorem tot_append (a b : List (Int × Int)) : tot (a ++ b) = tot a + tot b := by simp [tot]
theorem accOf_step (l : List (Int × Int)) (j k : Nat) (h : j < l.length) : accOf (l.take (j + 1)) k = accOf (l.take j) k + (if l[j].1 = (k : Int) then l[j].2 else 0) := by
  rw [take_snoc' l j h, accOf_append]
  simp [accOf]
theorem tot_step (l : List (Int × Int)) (j : Nat) (h : j < l.length) : tot (l.take (j + 1)) = tot (l.take j) + l[j].2 := by
  rw [take_snoc' l j h, tot_append]
  simp [tot]
theorem accOf_fits (l : List (Int × Int)) (M : Int) (hM : 0 ≤ M) (h : ∀ x ∈ l, -M ≤ x.2 ∧ x.2 ≤ M) (k : Nat) : -(l.length * M) ≤ accOf l k ∧ accOf l k ≤ l.length * M := by
  induction l with
  | nil => simp [accOf]
  | cons x l ih =>
    have h1 := ih fun y hy => h y (List.mem_cons_of_mem _ hy)
    have h2 := h x List.mem_cons_self
    have e : accOf (x :: l) k = (if x.1 = (k : Int) then x.2 else 0) + accOf l k := by simp [accOf]
    rw [e, List.length_cons, Int.natCast_add, Int.add_mul]
    split <;> simp <;> omega
theorem tot_fits (l : List (Int × Int)) (M : Int) (hM : 0 ≤ M) (h : ∀ x ∈ l, -M ≤ x.2 ∧ x.2 ≤ M) : -(l.length * M) ≤ tot l ∧ tot l ≤ l.length * M := by
  induction l with
  | nil => simp [tot]
  | cons x l ih =>
    have h1 := ih fun y hy => h y (List.mem_cons_of_mem _ hy)
    have h2 := h x List.mem_cons_self
    have e : tot (x :: l) = x.2 + tot l := by simp [tot]
    rw [e, List.length_cons, Int.natCast_add, Int.add_mul]
    simp
    omega
theorem accOf_filter (l : List (Int × Int)) (k : Nat) : accOf (l.filter fun x => x.2 != 0) k = accOf l k := by
  induction l with
  | nil => rfl
  | cons x l ih =>
    have e : ∀ m, accOf (x :: m) k = (if x.1 = (k : Int) then x.2 else 0) + accOf m k := fun m => by simp [accOf]
    by_cases hz : x.2 = 0
    · rw [List.filter_cons_of_neg (by simp [hz]), e, ih]; simp [hz]
    · rw [List.filter_cons_of_pos (by simp [hz]), e, e, ih]
theorem tot_filter (l : List (Int × Int)) : tot (l.filter fun x => x.2 != 0) = tot l := by
  induction l with
  | nil => rfl
  | cons x l ih =>
    have e : ∀ m, tot (x :: m) = x.2 + tot m := fun m => by simp [tot]
    by_cases hz : x.2 = 0
    · rw [List.filter_cons_of_neg (by simp [hz]), e, ih]; simp [hz]
    · rw [List.filter_cons_of_pos (by simp [hz]), e, e, ih]
theorem lines_len (s t : St) : (linesOf s t).length ≤ 7 := upTo_len s t 7
theorem lines_fits {s t : St} (hs : Within s) (ht : Within t) : ∀ x ∈ linesOf s t, (1 ≤ x.1 ∧ x.1 ≤ 7) ∧ -16000000000000000 ≤ x.2 ∧ x.2 ≤ 16000000000000000 := by
  intro x hx
  have hx := (List.mem_filter.1 hx).1
  obtain ⟨⟨p0, p1⟩, ⟨i0, i1⟩, ⟨f0, f1⟩, ⟨c0, c1⟩, ⟨o0, o1⟩, ⟨n0, n1⟩, ⟨a0, a1⟩, ⟨h0, h1⟩⟩ := hs.all
  obtain ⟨⟨q0, q1⟩, ⟨j0, j1⟩, ⟨g0, g1⟩, ⟨d0, d1⟩, ⟨u0, u1⟩, ⟨m0, m1⟩, ⟨b0, b1⟩, ⟨k0, k1⟩⟩ := ht.all
  simp only [all7, List.mem_cons, List.not_mem_nil, or_false] at hx
  rcases hx with rfl | rfl | rfl | rfl | rfl | rfl | rfl <;> simp only <;> omega
theorem lines_back (s t : St) : linesOf t s = (linesOf s t).map fun x => (x.1, -x.2) := by
  have h : all7 t s = (all7 s t).map fun x => (x.1, -x.2) := by
    simp only [all7, List.map_cons, List.map_nil]
    refine List.cons_eq_cons.2 ⟨by ext <;> simp <;> omega, List.cons_eq_cons.2 ⟨by ext <;> simp <;> omega, List.cons_eq_cons.2 ⟨by ext <;> simp <;> omega, List.cons_eq_cons.2 ⟨by ext <;> simp <;> omega, List.cons_eq_cons.2 ⟨by ext <;> simp <;> omega, List.cons_eq_cons.2 ⟨by ext <;> simp <;> omega, List.cons_eq_cons.2 ⟨by ext <;> simp <;> omega, rfl⟩⟩⟩⟩⟩⟩⟩
  unfold linesOf
  rw [h, List.filter_map]
  congr 1
  apply List.filter_congr
  intro x _
  by_cases hz : x.2 = 0
  · simp [hz]
  · have h2 : -x.2 ≠ 0 := by omega
    show (-x.2 != 0) = (x.2 != 0)
    rw [bne_iff_ne.2 h2, bne_iff_ne.2 hz]
theorem lines_tot {s t : St} (hs : Even s) (ht : Even t) : tot (linesOf s t) = 0 := by
  unfold linesOf
  rw [tot_filter]
  unfold Even at hs ht
  simp [tot, all7]
  omega
theorem lines_over (a b c : St) (k : Nat) : accOf (linesOf a b) k + accOf (linesOf b c) k - accOf (linesOf a c) k = 0 := by
  unfold linesOf
  rw [accOf_filter, accOf_filter, accOf_filter]
  have e : ∀ s t : St, accOf (all7 s t) k = (if (1 : Int) = (k : Int) then t.n - t.o - s.n + s.o else 0) + ((if (2 : Int) = (k : Int) then t.p - s.p else 0) + ((if (3 : Int) = (k : Int) then t.i - s.i else 0) + ((if (4 : Int) = (k : Int) then t.f - s.f else 0) + ((if (5 : Int) = (k : Int) then s.c - t.c else 0) + ((if (6 : Int) = (k : Int) then s.a - t.a else 0) + (if (7 : Int) = (k : Int) then s.ch - t.ch else 0)))))) := fun s t => by simp [accOf, all7]
  rw [e, e, e]
  split <;> split <;> split <;> split <;> split <;> split <;> split <;> omega
/-- What the law answers ahead of its loops. -/
theorem sym_ok (a b : St) : (linesAt a b).2 = 0 ↔ (linesAt b a).2 = 0 := by
  unfold linesAt
  by_cases h1 : Within a <;> by_cases h2 : Within b <;> by_cases h3 : Even a <;> by_cases h4 : Even b <;> simp [h1, h2, h3, h4]
theorem ok_parts {a b : St} (h : (linesAt a b).2 = 0) : Within a ∧ Within b ∧ Even a ∧ Even b ∧ linesAt a b = (linesOf a b, 0) := by
  unfold linesAt at h ⊢
  by_cases h1 : Within a <;> by_cases h2 : Within b <;> by_cases h3 : Even a <;> by_cases h4 : Even b <;> simp [h1, h2, h3, h4] at h ⊢
theorem bad_nil {a b : St} (h : (linesAt a b).2 ≠ 0) : (linesAt a b).1 = [] := by
  unfold linesAt at h ⊢
  by_cases h1 : Within a <;> by_cases h2 : Within b <;> by_cases h3 : Even a <;> by_cases h4 : Even b <;> simp [h1, h2, h3, h4] at h ⊢
theorem same_err {a b c : St} (h : (linesAt a b).2 = 0) : (linesAt b c).2 = (linesAt a c).2 := by
  obtain ⟨h1, h2, h3, h4, _⟩ := ok_parts h
  unfold linesAt
  by_cases h5 : Within c <;> by_cases h6 : Even c <;> simp [h1, h2, h3, h4, h5, h6]
def Fine (X : List (Int × Int)) : Prop := ∀ x ∈ X, (1 ≤ x.1 ∧ x.1 ≤ 7) ∧ -16000000000000000 ≤ x.2 ∧ x.2 ≤ 16000000000000000
theorem fine_acc {X : List (Int × Int)} (h : Fine X) (hl : X.length ≤ 7) (j k : Nat) : -112000000000000000 ≤ accOf (X.take j) k ∧ accOf (X.take j) k ≤ 112000000000000000 := by
  have h1 := accOf_fits (X.take j) 16000000000000000 (by omega) (fun x hx => (h x (List.mem_of_mem_take hx)).2) k
  have h2 : (X.take j).length ≤ 7 := by rw [List.length_take]; omega
  omega
theorem fine_tot {X : List (Int × Int)} (h : Fine X) (hl : X.length ≤ 7) (j : Nat) : -112000000000000000 ≤ tot (X.take j) ∧ tot (X.take j) ≤ 112000000000000000 := by
  have h1 := tot_fits (X.take j) 16000000000000000 (by omega) (fun x hx => (h x (List.mem_of_mem_take hx)).2)
  have h2 : (X.take j).length ≤ 7 := by rw [List.length_take]; omega
  omega
theorem fine_all {X : List (Int × Int)} (h : Fine X) (hl : X.length ≤ 7) (k : Nat) : -112000000000000000 ≤ accOf X k ∧ accOf X k ≤ 112000000000000000 := by
  have := fine_acc h hl X.length k
  rwa [List.take_length] at this
theorem round_facts {X : List (Int × Int)} (h : Fine X) (j : Nat) (hj : j < X.length) : ∃ (k : Nat) (am : Int), X[j] = ((k : Int), am) ∧ (1 ≤ k ∧ k ≤ 7) ∧ (-16000000000000000 ≤ am ∧ am ≤ 16000000000000000) ∧ tot (X.take (j + 1)) = tot (X.take j) + am ∧ ∀ i : Nat, accOf (X.take (j + 1)) i = accOf (X.take j) i + (if i = k then am else 0) := by
  obtain ⟨⟨h1, h2⟩, h3, h4⟩ := h X[j] (List.getElem_mem hj)
  refine ⟨X[j].1.toNat, X[j].2, ?_, by omega, ⟨h3, h4⟩, tot_step X j hj, fun i => ?_⟩
  · ext
    · simp; omega
    · rfl
  · rw [accOf_step X j i hj]
    congr 1
    by_cases hi : i = X[j].1.toNat
    · rw [if_pos hi, if_pos (by omega)]
    · rw [if_neg hi, if_neg (by omega)]
end Go.Proofs.Ytpmbbhefcejjlaa
