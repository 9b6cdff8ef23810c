/-
  What a replay answers: the plain laws. No statement is proved here.
-/
import Derived.Test.YtcbopgopegphlaaGreatAcX
namespace Go.Proofs.YtcbopgopegphlaaGreat
set_option linter.unusedVariables false

theorem evRun_fine {p : Prod} (hp : p.Ok) {v : Int} : ∀ (l : List Ev) {L M : Ln}, L.Fine → (∀ e ∈ l, e.Ok ∧ e.kind ≠ 5) → evRun p v L l = some M → M.Fine
  | [], L, M, hL, _, h => by
    injection h with h
    subst h
    exact hL
  | e :: l, L, M, hL, ha, h => by
    rw [evRun] at h
    split at h
    · injection h with h
      subst h
      exact hL
    · split at h
      · cases h
      · rename_i M' hs
        have he := ha e (List.mem_cons_self ..)
        exact evRun_fine hp l (evStep_fine hp hL he.1 he.2 hs).1 (fun x hx => ha x (List.mem_cons_of_mem _ hx)) h
theorem lateFrom_nonneg (p : Prod) (first out repaid v : Int) : ∀ n k, 0 ≤ lateFrom p first out repaid v n k
  | 0, k => Int.le_refl _
  | n + 1, k => by
    rw [lateFrom]
    split
    · exact Int.le_refl _
    · rename_i h
      split
      · omega
      · exact lateFrom_nonneg p first out repaid v n (k + 1)
theorem EvsOk.all {l : List Ev} (h : EvsOk l) : ∀ e ∈ l, e.Ok ∧ e.kind ≠ 5 := fun e he => by
  obtain ⟨j, hj, rfl⟩ := List.getElem_of_mem he
  exact ⟨(h j hj).1, (h j hj).2.1⟩
/-- What a replay that goes well has come by. -/
structure Went (p : Prod) (l : List Ev) (v : Int) (L : Ln) (s : St) : Prop where
  ok : p.Ok
  v0 : -719162 ≤ v
  v1 : v ≤ 2932896
  len : l.length ≤ 4096
  evs : EvsOk l
  run : evRun p v (Ln.start p) l = some L
  fine : L.Fine
  fin : endOf p L v = some s
theorem replay_cases (p : Prod) (l : List Ev) (v : Int) : (∃ e, e ≠ 0 ∧ replayAns p l v = (.zero, e)) ∨ ∃ L s, Went p l v L s ∧ replayAns p l v = (s, 0) := by
  by_cases hp : p.Ok
  case neg => exact .inl ⟨50, by omega, replay_prod hp⟩
  by_cases hv : -719162 ≤ v ∧ v ≤ 2932896
  case neg => exact .inl ⟨6, by omega, replay_date hp hv⟩
  by_cases hl : 4096 < l.length
  · exact .inl ⟨3, by omega, replay_long hp hv hl⟩
  by_cases he : EvsOk l
  case neg => exact .inl ⟨52, by omega, replay_bad hp hv hl he⟩
  have hr := replay_run hp hv hl he
  cases hrun : evRun p v (Ln.start p) l with
  | none => exact .inl ⟨4, by omega, by rw [hr, hrun]⟩
  | some L =>
    cases hend : endOf p L v with
    | none => exact .inl ⟨4, by omega, by rw [hr, hrun]; simp only [hend]⟩
    | some s =>
      exact .inr ⟨L, s, ⟨hp, hv.1, hv.2, by omega, he, hrun, evRun_fine hp l (start_fine hp) he.all hrun, hend⟩, by rw [hr, hrun]; simp only [hend]⟩
/-- How the end's state comes. -/
theorem endOf_some {p : Prod} {L : Ln} {v : Int} {s : St} (h : endOf p L v = some s) : ∃ M, toDay p.conv L v = some M ∧ s.day = v ∧ s.rate = M.s.rate ∧ s.p = M.s.p ∧ s.i = M.s.i ∧ s.f = M.s.f ∧ s.c = M.s.c ∧ s.o = M.s.o ∧ s.n = M.s.n ∧ s.a = M.s.a ∧ s.ch = M.s.ch ∧
    (M.lent = true ∧ s.late = lateOf p M.first M.s.o (M.s.o - M.s.p) v ∧ s.bk = (bucketOf p s.late : Nat) ∨ M.lent = false ∧ s.late = M.s.late ∧ s.bk = M.s.bk) := by
  unfold endOf at h
  split at h
  · cases h
  · rename_i M hM
    injection h with h
    refine ⟨M, hM, ?_⟩
    cases hl : M.lent
    · rw [hl] at h
      simp only [Bool.false_eq_true, if_false] at h
      subst h
      exact ⟨rfl, rfl, rfl, rfl, rfl, rfl, rfl, rfl, rfl, rfl, .inr ⟨rfl, rfl, rfl⟩⟩
    · rw [hl] at h
      simp only [if_true] at h
      subst h
      exact ⟨rfl, rfl, rfl, rfl, rfl, rfl, rfl, rfl, rfl, rfl, .inl ⟨rfl, rfl, rfl⟩⟩
structure Good (p : Prod) (v : Int) (s : St) : Prop where
  p0 : 0 ≤ s.p
  p1 : s.p ≤ 1000000000000000
  i0 : 0 ≤ s.i
  i1 : s.i ≤ 1000000000000000
  f0 : 0 ≤ s.f
  f1 : s.f ≤ 1000000000000000
  c0 : 0 ≤ s.c
  c1 : s.c ≤ 1000000000000000
  o0 : 0 ≤ s.o
  o1 : s.o ≤ 1000000000000000
  a0 : 0 ≤ s.a
  a1 : s.a ≤ 1000000000000000
  h0 : 0 ≤ s.ch
  h1 : s.ch ≤ 1000000000000000
  n0 : 0 ≤ s.n
  n1 : s.n ≤ 1000000000000000
  late : 0 ≤ s.late
  bk0 : 0 ≤ s.bk
  bk1 : s.bk ≤ p.bounds.length
  day : s.day = v
  even : s.p + s.i + s.f - s.c = s.o + s.a + s.ch - s.n
  none : s.c = 0 ∨ s.p + s.i + s.f = 0
theorem Went.good {p : Prod} {l : List Ev} {v : Int} {L : Ln} {s : St} (h : Went p l v L s) : Good p v s := by
  obtain ⟨M, hM, e1, e2, e3, e4, e5, e6, e7, e8, e9, e10, hl⟩ := endOf_some h.fin
  have hF := (toDay_fine h.fine h.v0 h.v1 hM).1
  obtain ⟨b1, b2, b3⟩ : 0 ≤ s.late ∧ 0 ≤ s.bk ∧ s.bk ≤ p.bounds.length := by
    rcases hl with ⟨_, h1, h2⟩ | ⟨_, h1, h2⟩
    · refine ⟨by rw [h1]; exact lateFrom_nonneg _ _ _ _ _ _ _, by rw [h2]; omega, ?_⟩
      have : bucketOf p s.late ≤ p.bounds.length := List.countP_le_length
      rw [h2]
      omega
    · rw [h1, h2, hF.late, hF.bk]
      exact ⟨Int.le_refl _, Int.le_refl _, by omega⟩
  have q1 := hF.p0
  have q2 := hF.p1
  have q3 := hF.o1
  have q4 := hF.i0
  have q5 := hF.i1
  have q6 := hF.a1
  have q7 := hF.f0
  have q8 := hF.f1
  have q9 := hF.ch1
  have q10 := hF.c0
  have q11 := hF.c1
  have q12 := hF.n1
  have q13 := hF.even
  have q14 := hF.none
  constructor <;> omega
/-! ### events of later days -/
theorem evRun_take (p : Prod) (v : Int) : ∀ (l : List Ev) (L : Ln), evRun p v L (l.takeWhile fun e => decide (e.day ≤ v)) = evRun p v L l
  | [], L => rfl
  | e :: l, L => by
    by_cases h : e.day ≤ v
    · rw [List.takeWhile_cons_of_pos (by simpa using h), evRun, evRun, if_neg (by omega), if_neg (by omega)]
      cases evStep p L e with
      | none => rfl
      | some M => exact evRun_take p v l M
    · rw [List.takeWhile_cons_of_neg (by simpa using h), evRun, evRun, if_pos (by omega)]
theorem take_while (v : Int) : ∀ (l : List Ev) (n : Nat) (hn : n ≤ l.length), (∀ k (h : k < l.length), k < n → l[k].day ≤ v) → (∀ h : n < l.length, v < l[n].day) → l.takeWhile (fun e => decide (e.day ≤ v)) = l.take n
  | [], n, hn, _, _ => by simp
  | e :: l, 0, hn, _, h2 => by
    have := h2 (by simp)
    rw [List.takeWhile_cons_of_neg (by simpa using this)]
    rfl
  | e :: l, n + 1, hn, h1, h2 => by
    have h0 : e.day ≤ v := h1 0 (by simp) (by omega)
    rw [List.takeWhile_cons_of_pos (by simpa using h0), List.take_succ_cons, take_while v l n (by simpa using hn) (fun k hk hkn => h1 (k + 1) (by simpa using hk) (by omega)) (fun h => h2 (by simpa using h))]
theorem EvsOk.take {l : List Ev} (h : EvsOk l) (n : Nat) : EvsOk (l.take n) := fun i hi => by
  have hi' : i < l.length := by simp at hi; omega
  have := h i hi'
  rw [List.getElem_take]
  refine ⟨this.1, this.2.1, fun h0 => ?_⟩
  rw [List.getElem_take]
  exact this.2.2 h0
theorem Went.ahead {p : Prod} {l : List Ev} {v : Int} {L : Ln} {s : St} (h : Went p l v L s) (n : Nat) (hn : n ≤ l.length) (h1 : ∀ k (h : k < l.length), k < n → l[k].day ≤ v) (h2 : ∀ h : n < l.length, v < l[n].day) : replayAns p (l.take n) v = (s, 0) := by
  have hlen := h.len
  rw [replay_run h.ok ⟨h.v0, h.v1⟩ (by simp; omega) (h.evs.take n), ← take_while v l n hn h1 h2, evRun_take, h.run]
  simp only [h.fin]
end Go.Proofs.YtcbopgopegphlaaGreat
