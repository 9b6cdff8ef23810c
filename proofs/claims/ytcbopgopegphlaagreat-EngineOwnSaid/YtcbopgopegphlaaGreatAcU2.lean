/-
  How a loan grows, and what one that is disbursed once owes: the plain laws. No statement is proved here.
-/
import Derived.Test.YtcbopgopegphlaaGreatAcU
namespace Go.Proofs.YtcbopgopegphlaaGreat
set_option linter.unusedVariables false

theorem parts_le {a b : Int} (a0 : -719162 ≤ a) (b1 : b ≤ 2932896) (h : a ≤ b) :
    (partsOf a).1 < (partsOf b).1 ∨ (partsOf a).1 = (partsOf b).1 ∧ ((partsOf a).2.1 < (partsOf b).2.1 ∨ (partsOf a).2.1 = (partsOf b).2.1 ∧ (partsOf a).2.2 ≤ (partsOf b).2.2) := by
  obtain ⟨va, ea⟩ := parts_valid a a0 (by omega)
  obtain ⟨vb, eb⟩ := parts_valid b (by omega) b1
  generalize (partsOf a).1 = y at *
  generalize (partsOf a).2.1 = m at *
  generalize (partsOf a).2.2 = d at *
  generalize (partsOf b).1 = z at *
  generalize (partsOf b).2.1 = n at *
  generalize (partsOf b).2.2 = e at *
  apply Classical.byContradiction
  intro hn
  have := dayOf_lt vb va (by omega)
  omega
theorem count_mono {c f a b : Int} (f0 : -719162 ≤ f) (hfa : f ≤ a) (hab : a ≤ b) (b1 : b ≤ 2932896) : (countOf c f a).1 ≤ (countOf c f b).1 ∧ (countOf c f a).2 = (countOf c f b).2 := by
  have hl := parts_le (by omega) b1 hab
  obtain ⟨va, _⟩ := parts_valid a (by omega) (by omega)
  obtain ⟨vb, _⟩ := parts_valid b (by omega) b1
  obtain ⟨x1, x2, x3, x4, x5, x6⟩ := va.sizes
  obtain ⟨y1, y2, y3, y4, y5, y6⟩ := vb.sizes
  unfold countOf
  generalize (partsOf a).1 = y at *
  generalize (partsOf a).2.1 = m at *
  generalize (partsOf a).2.2 = d at *
  generalize (partsOf b).1 = z at *
  generalize (partsOf b).2.1 = n at *
  generalize (partsOf b).2.2 = e at *
  split
  · refine ⟨?_, rfl⟩
    unfold thirtyOf
    simp only
    split <;> omega
  · split <;> exact ⟨by simp only; omega, rfl⟩
theorem count_same (c f : Int) : (countOf c f f).1 = 0 := by
  unfold countOf
  split
  · unfold thirtyOf
    simp only
    split <;> omega
  · split <;> (simp only; omega)
theorem countOf_den (c d e : Int) : 1 ≤ (countOf c d e).2 ∧ (countOf c d e).2 ≤ 365 := by
  unfold countOf
  split
  · simp
  · split <;> simp
theorem interest_mono {p rate a b den : Int} (p0 : 0 ≤ p) (a0 : 0 ≤ a) (hab : a ≤ b) (h : (interestOf p rate b den).2 = 0) :
    (interestOf p rate a den).2 = 0 ∧ (interestOf p rate a den).1 ≤ (interestOf p rate b den).1 := by
  unfold interestOf at h ⊢
  split at h
  · simp at h
  · rename_i hb
    rw [if_neg (by omega), if_neg hb]
    have e1 : decide (p < 0) = false := decide_eq_false (by omega)
    rw [e1] at h ⊢
    have hm : p.natAbs * rate.natAbs * a.natAbs ≤ p.natAbs * rate.natAbs * b.natAbs := Nat.mul_le_mul_left _ (by omega)
    have := evenDiv_mono _ _ (1000000000 * den.natAbs) hm (by omega)
    unfold overOf at h ⊢
    generalize evenDiv (p.natAbs * rate.natAbs * a.natAbs) (1000000000 * den.natAbs) = q at *
    generalize evenDiv (p.natAbs * rate.natAbs * b.natAbs) (1000000000 * den.natAbs) = r at *
    unfold sgn at h ⊢
    simp only [Bool.false_eq_true, if_false] at h ⊢
    split at h
    · rename_i hr
      rw [if_pos (by omega), if_pos hr]
      exact ⟨rfl, by simp only; omega⟩
    · simp at h
theorem toDay_grow {c : Int} {L N : Ln} (hL : L.Fine) {a b : Int} (h : L.began = true → L.s.day ≤ a) (hab : a ≤ b) (b1 : b ≤ 2932896) (hN : toDay c L b = some N) :
    ∃ M, toDay c L a = some M ∧ M.s.i ≤ N.s.i ∧ N.s.a - M.s.a = N.s.i - M.s.i := by
  by_cases hb : L.began = true
  case neg =>
    have e1 : toDay c L a = some L := by unfold toDay; rw [if_pos (.inl (by simpa using hb))]
    have e2 : toDay c L b = some L := by unfold toDay; rw [if_pos (.inl (by simpa using hb))]
    rw [e2] at hN
    injection hN with hN
    subst hN
    exact ⟨L, e1, Int.le_refl _, by omega⟩
  have hd := h hb
  have d0 := hL.d0 hb
  by_cases ha : a ≤ L.s.day
  · have e1 : toDay c L a = some L := by unfold toDay; rw [if_pos (.inr ha)]
    refine ⟨L, e1, ?_⟩
    unfold toDay at hN
    split at hN
    · injection hN with hN
      subst hN
      exact ⟨Int.le_refl _, by omega⟩
    · unfold accr at hN
      split at hN
      · cases hN
      · rename_i hc
        rw [not_or] at hc
        have hnn := interest_nonneg L.s.p L.s.rate (countOf c L.s.day b).1 (countOf c L.s.day b).2 (by omega) hL.p0
        injection hN with hN
        subst hN
        simp only
        omega
  · have hbb : ¬ (L.began = false ∨ b ≤ L.s.day) := by rw [not_or]; exact ⟨by simp [hb], by omega⟩
    have haa : ¬ (L.began = false ∨ a ≤ L.s.day) := by rw [not_or]; exact ⟨by simp [hb], by omega⟩
    unfold toDay at hN ⊢
    rw [if_neg hbb] at hN
    rw [if_neg haa]
    unfold accr at hN ⊢
    split at hN
    · cases hN
    · rename_i hc
      rw [not_or] at hc
      obtain ⟨hc1, hc2⟩ := hc
      have hcm := count_mono (c := c) d0 (show L.s.day ≤ a by omega) hab b1
      have hc0 := count_mono (c := c) d0 (Int.le_refl _) (show L.s.day ≤ a by omega) (by omega)
      rw [count_same] at hc0
      rw [← hcm.2] at hN hc1 hc2
      obtain ⟨i1, i2⟩ := interest_mono hL.p0 hc0.1 hcm.1 (show (interestOf L.s.p L.s.rate (countOf c L.s.day b).1 (countOf c L.s.day a).2).2 = 0 by omega)
      rw [if_neg (by rw [not_or]; exact ⟨by omega, by omega⟩)]
      injection hN with hN
      subst hN
      refine ⟨_, rfl, ?_, ?_⟩ <;> (simp only; omega)
theorem evRun_all {p : Prod} {v : Int} : ∀ (l : List Ev) (L : Ln), (∀ e ∈ l, e.day ≤ v) → ∀ {u : Int}, v ≤ u → evRun p u L l = evRun p v L l
  | [], L, _, _, _ => rfl
  | e :: l, L, ha, u, hu => by
    have he := ha e (List.mem_cons_self ..)
    rw [evRun, evRun, if_neg (by omega), if_neg (by omega)]
    cases evStep p L e with
    | none => rfl
    | some M => exact evRun_all l M (fun x hx => ha x (List.mem_cons_of_mem _ hx)) hu
theorem evRun_day {p : Prod} (hp : p.Ok) {v : Int} : ∀ (l : List Ev) {L M : Ln}, L.Fine → (∀ e ∈ l, e.Ok ∧ e.kind ≠ 5) → (L.began = true → L.s.day ≤ v) → evRun p v L l = some M → (M.began = true → M.s.day ≤ v)
  | [], L, M, hL, _, hd, h => by
    injection h with h
    subst h
    exact hd
  | e :: l, L, M, hL, ha, hd, h => by
    rw [evRun] at h
    split at h
    · injection h with h
      subst h
      exact hd
    · rename_i hv
      split at h
      · cases h
      · rename_i M' hs
        have he := ha e (List.mem_cons_self ..)
        obtain ⟨f1, f2, f3⟩ := evStep_fine hp hL he.1 he.2 hs
        exact evRun_day hp l f1 (fun x hx => ha x (List.mem_cons_of_mem _ hx)) (fun _ => by omega) h
/-- As days go by. -/
theorem grows (p : Prod) (l : List Ev) (a b : Int) (ha : ∀ e ∈ l, e.day ≤ a) (hab : a ≤ b) (a0 : -719162 ≤ a) (b1 : b ≤ 2932896) :
    ((replayAns p l a).2 = 0 ∧ (replayAns p l b).2 = 4 ∨ (replayAns p l a).2 = (replayAns p l b).2 ∧ (replayAns p l b).2 ≠ 0 ∨ (replayAns p l a).2 = 4) ∨
    ∃ s t, replayAns p l a = (s, 0) ∧ replayAns p l b = (t, 0) ∧ Good p a s ∧ Good p b t ∧ s.i ≤ t.i ∧ t.a - s.a = t.i - s.i ∧ s.rate = t.rate ∧ s.p = t.p ∧ s.f = t.f ∧ s.c = t.c ∧ s.o = t.o ∧ s.n = t.n ∧ s.ch = t.ch := by
  by_cases hp : p.Ok
  case neg => exact .inl (.inr (.inl (by rw [replay_prod hp, replay_prod hp]; exact ⟨rfl, by simp⟩)))
  by_cases hl : 4096 < l.length
  · exact .inl (.inr (.inl (by rw [replay_long hp ⟨a0, by omega⟩ hl, replay_long hp ⟨by omega, b1⟩ hl]; exact ⟨rfl, by simp⟩)))
  by_cases he : EvsOk l
  case neg => exact .inl (.inr (.inl (by rw [replay_bad hp ⟨a0, by omega⟩ hl he, replay_bad hp ⟨by omega, b1⟩ hl he]; exact ⟨rfl, by simp⟩)))
  have ra := replay_run hp (show -719162 ≤ a ∧ a ≤ 2932896 from ⟨a0, by omega⟩) hl he
  have rb := replay_run hp (show -719162 ≤ b ∧ b ≤ 2932896 from ⟨by omega, b1⟩) hl he
  rw [evRun_all l _ ha hab] at rb
  cases hrun : evRun p a (Ln.start p) l with
  | none => exact .inl (.inr (.inr (by rw [ra, hrun])))
  | some L =>
    rw [hrun] at ra rb
    simp only at ra rb
    have hF := evRun_fine hp l (start_fine hp) he.all hrun
    have hD := evRun_day hp l (start_fine hp) he.all (fun h => by cases h) hrun
    cases hea : endOf p L a with
    | none => exact .inl (.inr (.inr (by rw [ra, hea])))
    | some s =>
      rw [hea] at ra
      simp only at ra
      cases heb : endOf p L b with
      | none => exact .inl (.inl (by rw [ra, rb, heb]; exact ⟨rfl, rfl⟩))
      | some t =>
        rw [heb] at rb
        simp only at rb
        refine .inr ⟨s, t, ra, rb, ?_⟩
        have wa : Went p l a L s := ⟨hp, a0, by omega, by omega, he, hrun, hF, hea⟩
        have wb : Went p l b L t := ⟨hp, by omega, b1, by omega, he, by rw [evRun_all l _ ha hab]; exact hrun, hF, heb⟩
        refine ⟨wa.good, wb.good, ?_⟩
        obtain ⟨M, hM, m1, m2, m3, m4, m5, m6, m7, m8, m9, m10, _⟩ := endOf_some hea
        obtain ⟨N, hN, n1, n2, n3, n4, n5, n6, n7, n8, n9, n10, _⟩ := endOf_some heb
        obtain ⟨M', hM', g1, g2⟩ := toDay_grow hF hD hab b1 hN
        rw [hM] at hM'
        injection hM' with hM'
        subst hM'
        obtain ⟨_, _, _, _, x1, x2, x3, x4, x5, x6, x7, _, _⟩ := toDay_fine hF a0 (by omega) hM
        obtain ⟨_, _, _, _, y1, y2, y3, y4, y5, y6, y7, _, _⟩ := toDay_fine hF (by omega) b1 hN
        refine ⟨?_, ?_, ?_, ?_, ?_, ?_, ?_, ?_, ?_⟩ <;> omega
/-! ### one disbursement -/
def evOne (d a : Int) : Ev := ⟨1, ⟨#[97]⟩, d, 1, a, 0⟩
theorem evOne_ok {d a : Int} (d0 : -719162 ≤ d) (d1 : d ≤ 2932896) (a0 : 1 ≤ a) (a1 : a ≤ 1000000000000000) : (evOne d a).Ok :=
  ⟨name_a, d0, d1, .inl ⟨.inl rfl, a0, a1⟩, by simp [evOne], by simp [evOne], .inr ⟨by simp [evOne], rfl⟩⟩
theorem spend_none {s : St} (k : Int) (hc : s.c = 0) (hf : 0 ≤ s.f) (hi : 0 ≤ s.i) (hp : 0 ≤ s.p) : spend1 s k = s := by
  unfold spend1
  split
  · have : min s.c s.f = 0 := by omega
    rw [this]; simp
  · split
    · have : min s.c s.i = 0 := by omega
      rw [this]; simp
    · split
      · have : min s.c s.p = 0 := by omega
        rw [this]; simp
      · rfl
theorem simple_prod {p : Prod} (hp : ¬ p.Ok) (l : List Ev) (v : Int) : replayAns p l v = (.zero, 50) := replay_prod hp
/-- What a loan owes that is disbursed once. -/
theorem simple {p : Prod} (hp : p.Ok) {d v a : Int} (d0 : -719162 ≤ d) (hdv : d ≤ v) (v1 : v ≤ 2932896) (a0 : 1 ≤ a) (a1 : a ≤ 1000000000000000) :
    ((interestOf a p.rate (countOf p.conv d v).1 (countOf p.conv d v).2).2 ≠ 0 ∨ 1000000000000000 < (interestOf a p.rate (countOf p.conv d v).1 (countOf p.conv d v).2).1) ∧ replayAns p [evOne d a] v = (.zero, 4) ∨
    ((interestOf a p.rate (countOf p.conv d v).1 (countOf p.conv d v).2).2 = 0 ∧ (interestOf a p.rate (countOf p.conv d v).1 (countOf p.conv d v).2).1 ≤ 1000000000000000) ∧
      ∃ s, replayAns p [evOne d a] v = (s, 0) ∧ s.p = a ∧ s.o = a ∧ s.i = (interestOf a p.rate (countOf p.conv d v).1 (countOf p.conv d v).2).1 ∧ s.a = (interestOf a p.rate (countOf p.conv d v).1 (countOf p.conv d v).2).1 ∧ s.c = 0 ∧ s.f = 0 ∧ s.rate = p.rate := by
  have hev : EvsOk [evOne d a] := fun i h => by
    obtain rfl : i = 0 := by simp at h; omega
    exact ⟨evOne_ok d0 (by omega) a0 a1, by simp [evOne], fun h0 => by omega⟩
  have hr := replay_run hp (show -719162 ≤ v ∧ v ≤ 2932896 from ⟨by omega, v1⟩) (show ¬ 4096 < [evOne d a].length by simp) hev
  have hstep : evStep p (Ln.start p) (evOne d a) = some ⟨⟨d, p.rate, a, 0, 0, 0, a, 0, 0, 0, 0, 0⟩, d, true, true⟩ := by
    have h1 : toDay p.conv (Ln.start p) (evOne d a).day = some (Ln.start p) := by unfold toDay; rw [if_pos (.inl rfl)]
    have h2 : addEv { (Ln.start p).s with day := (evOne d a).day } (evOne d a) = ⟨d, p.rate, a, 0, 0, 0, a, 0, 0, 0, 0, 0⟩ := by
      unfold addEv
      rw [if_pos (show (evOne d a).kind = 1 from rfl)]
      simp [Ln.start, evOne]
    unfold evStep
    rw [h1]
    simp only
    rw [h2]
    rw [if_neg (by unfold over; simp only; omega)]
    unfold spendAll
    rw [spend_none (p.o1) rfl (by simp) (by simp) (by simp only; omega), spend_none (p.o2) rfl (by simp) (by simp) (by simp only; omega), spend_none (p.o3) rfl (by simp) (by simp) (by simp only; omega)]
    simp [evOne, Ln.start]
  have hrun : evRun p v (Ln.start p) [evOne d a] = some ⟨⟨d, p.rate, a, 0, 0, 0, a, 0, 0, 0, 0, 0⟩, d, true, true⟩ := by
    rw [evRun, if_neg (by simp only [evOne]; omega), hstep]
    rfl
  rw [hrun] at hr
  simp only at hr
  have hc0 := count_mono (c := p.conv) d0 (Int.le_refl _) hdv v1
  rw [count_same] at hc0
  by_cases hlt : v ≤ d
  · obtain rfl : v = d := by omega
    have hden := countOf_den p.conv v v
    have hz : interestOf a p.rate (countOf p.conv v v).1 (countOf p.conv v v).2 = (0, 0) := by
      rw [count_same]
      unfold interestOf
      rw [if_neg (by have := hp.rate0; have := hp.rate1; omega)]
      simp [overOf, evenDiv_eq, sgn]
      all_goals (first | done | omega)
    rw [hz]
    refine .inr ⟨⟨rfl, by simp⟩, ?_⟩
    have ht : toDay p.conv (⟨⟨v, p.rate, a, 0, 0, 0, a, 0, 0, 0, 0, 0⟩, v, true, true⟩ : Ln) v = some ⟨⟨v, p.rate, a, 0, 0, 0, a, 0, 0, 0, 0, 0⟩, v, true, true⟩ := by unfold toDay; rw [if_pos (.inr (Int.le_refl _))]
    unfold endOf at hr
    rw [ht] at hr
    exact ⟨_, hr, rfl, rfl, rfl, rfl, rfl, rfl, rfl⟩
  · have ht : toDay p.conv (⟨⟨d, p.rate, a, 0, 0, 0, a, 0, 0, 0, 0, 0⟩, d, true, true⟩ : Ln) v = (accr p.conv ⟨d, p.rate, a, 0, 0, 0, a, 0, 0, 0, 0, 0⟩ v).map fun s => { (⟨⟨d, p.rate, a, 0, 0, 0, a, 0, 0, 0, 0, 0⟩, d, true, true⟩ : Ln) with s := s } := by
      unfold toDay; rw [if_neg (by rw [not_or]; exact ⟨by simp, hlt⟩)]
    have hac : accr p.conv ⟨d, p.rate, a, 0, 0, 0, a, 0, 0, 0, 0, 0⟩ v = if (interestOf a p.rate (countOf p.conv d v).1 (countOf p.conv d v).2).2 ≠ 0 ∨ 1000000000000000 - 0 < (interestOf a p.rate (countOf p.conv d v).1 (countOf p.conv d v).2).1 then none
      else some ⟨v, p.rate, a, 0 + (interestOf a p.rate (countOf p.conv d v).1 (countOf p.conv d v).2).1, 0, 0, a, 0, 0 + (interestOf a p.rate (countOf p.conv d v).1 (countOf p.conv d v).2).1, 0, 0, 0⟩ := rfl
    generalize interestOf a p.rate (countOf p.conv d v).1 (countOf p.conv d v).2 = I at *
    by_cases hI : I.2 ≠ 0 ∨ 1000000000000000 - 0 < I.1
    · rw [if_pos hI] at hac
      rw [hac] at ht
      refine .inl ⟨by omega, ?_⟩
      unfold endOf at hr
      rw [ht] at hr
      exact hr
    · rw [if_neg hI] at hac
      rw [hac] at ht
      refine .inr ⟨by omega, ?_⟩
      unfold endOf at hr
      rw [ht] at hr
      exact ⟨_, hr, rfl, rfl, by simp, by simp, rfl, rfl, rfl⟩
end Go.Proofs.YtcbopgopegphlaaGreat
