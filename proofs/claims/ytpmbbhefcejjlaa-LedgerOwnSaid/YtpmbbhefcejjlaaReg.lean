/-
  A region that draws its order, by what each operation asks and leaves: one case an operation, whatever the order. No statement is proved here.
-/
import Derived.Test.YtpmbbhefcejjlaaLib
import Derived.Orders
import Derived.Laws.Tables
namespace Go.Proofs.Ytpmbbhefcejjlaa
open Go.RowKit
set_option linter.unusedVariables false
section
variable {P : Program} {ops : Array Oper} {Q : Exit → Act → World → Prop}
/-- Frames that differ in some slots alone. -/
structure FrameOnly (D : List Nat) (a b : Act) : Prop where
  size : b.tmps.size = a.tmps.size
  defers : b.defers = a.defers
  same : ∀ t, t ∉ D → b.tmps[t]? = a.tmps[t]?
theorem FrameOnly.refl (D : List Nat) (a : Act) : FrameOnly D a a := ⟨rfl, rfl, fun _ _ => rfl⟩
theorem FrameOnly.put {D : List Nat} {a b : Act} (h : FrameOnly D a b) (x : Option Nat) (hx : ∀ d, x = some d → d ∈ D) (v : Value) : FrameOnly D a (b.put x v) := by
  cases x with
  | none => exact h
  | some d =>
    refine ⟨by simp [Act.put, h.size], h.defers, fun t ht => ?_⟩
    have : d ≠ t := fun e => ht (e ▸ hx d rfl)
    simp only [Act.put]
    rw [Array.getElem?_setIfInBounds_ne this]
    exact h.same t ht
theorem FrameOnly.eval {D : List Nat} {a b : Act} (h : FrameOnly D a b) {t : Nat} (ht : t ∉ D) : b.eval (.tmp t) = a.eval (.tmp t) := by
  simp only [Act.eval, Array.getD_eq_getD_getElem?, h.same t ht]
theorem puts_get (b : Act) (D : List Nat) : ∀ (a : Act) (t : Nat), (D.foldl (fun x d => x.put (some d) (b.eval (.tmp d))) a).tmps[t]? = if t ∈ D ∧ t < a.tmps.size then some (b.eval (.tmp t)) else a.tmps[t]? := by
  induction D with
  | nil => intro a t; simp
  | cons d D ih =>
    intro a t
    rw [List.foldl_cons, ih]
    simp only [Act.put, Array.size_setIfInBounds, List.mem_cons]
    by_cases h1 : t ∈ D ∧ t < a.tmps.size
    · rw [if_pos h1, if_pos ⟨.inr h1.1, h1.2⟩]
    · rw [if_neg h1]
      by_cases h2 : t = d
      · subst h2
        by_cases h3 : t < a.tmps.size
        · rw [if_pos ⟨.inl rfl, h3⟩, Array.getElem?_setIfInBounds_self_of_lt h3]
        · rw [if_neg (fun h => h3 h.2), Array.getElem?_eq_none (by simpa using h3), Array.getElem?_eq_none (by simpa using h3)]
      · rw [if_neg (fun h => h.1.elim h2 fun h4 => h1 ⟨h4, h.2⟩), Array.getElem?_setIfInBounds_ne (fun e => h2 e.symm)]
theorem puts_def (b : Act) (D : List Nat) : ∀ a : Act, (D.foldl (fun x d => x.put (some d) (b.eval (.tmp d))) a).defers = a.defers := by
  induction D with
  | nil => intro a; rfl
  | cons d D ih => intro a; rw [List.foldl_cons, ih]; rfl
/-- The frame behind, written out. -/
theorem FrameOnly.out {D : List Nat} {a b : Act} (h : FrameOnly D a b) : b = D.foldl (fun x d => x.put (some d) (b.eval (.tmp d))) a := by
  have h1 : b.tmps = (D.foldl (fun x d => x.put (some d) (b.eval (.tmp d))) a).tmps := by
    apply Array.ext_getElem?
    intro t
    rw [puts_get]
    by_cases ht : t ∈ D ∧ t < a.tmps.size
    · rw [if_pos ht]
      simp only [Act.eval, Array.getD_eq_getD_getElem?]
      rw [Array.getElem?_eq_getElem (by rw [h.size]; exact ht.2)]
      rfl
    · rw [if_neg ht]
      by_cases h2 : t ∈ D
      · have h3 : ¬ t < a.tmps.size := fun h3 => ht ⟨h2, h3⟩
        rw [Array.getElem?_eq_none (by rw [h.size]; omega), Array.getElem?_eq_none (by omega)]
      · exact h.same t h2
  have h2 := puts_def b D a
  rw [← h.defers] at h2
  generalize D.foldl (fun x d => x.put (some d) (b.eval (.tmp d))) a = c at *
  cases b; cases c
  simp_all
/-- i is done, too. -/
def upd (L : Nat → Bool) (i : Nat) : Nat → Bool := fun j => if j = i then true else L j
theorem wanted_free {o : Oper} (h : o.guard = none) (l : List Nat) (t : Array Value) : Region.wanted o (yielded ops t) = true := by simp [Region.wanted, h]
theorem unlisted_set {L : Array Bool} {i : Nat} (hi : L.getD i true = false) : (L.setIfInBounds i true).toList.count false + 1 = L.toList.count false := by
  have hlt : i < L.size := by
    rcases Nat.lt_or_ge i L.size with h | h
    · exact h
    · rw [Array.getD_eq_getD_getElem?, Array.getElem?_eq_none h] at hi; cases hi
  rw [Array.getD_eq_getD_getElem?, Array.getElem?_eq_getElem hlt] at hi
  simp only [Option.getD_some] at hi
  rw [Array.toList_setIfInBounds]
  have hlt' : i < L.toList.length := by simpa using hlt
  have hd : L.toList = L.toList.take i ++ false :: L.toList.drop (i + 1) := by
    conv => lhs; rw [← List.take_append_drop i L.toList, List.drop_eq_getElem_cons hlt']
    rw [show L.toList[i] = false by simpa using hi]
  rw [List.set_eq_take_append_cons_drop, if_pos hlt']
  conv => rhs; rw [hd]
  simp only [List.count_append, List.count_cons]
  simp
  omega
/-- What is asked of a region's text. -/
def regFits (ops : Array Oper) (D : List Nat) : Bool :=
  (List.range ops.size).all fun i => match ops[i]? with
    | none => false
    | some o => o.guard.isNone && (match o.dst with | none => true | some d => D.contains d && (List.range ops.size).all fun j => j == i || (match ops[j]? with | none => true | some oj => oj.dst != some d)) && o.after.all fun e => !Region.binds .any e || decide (e.on < i)
theorem regFits_at {D : List Nat} (h : regFits ops D = true) {i : Nat} {o : Oper} (ho : ops[i]? = some o) :
    o.guard = none ∧ (∀ d, o.dst = some d → d ∈ D ∧ ∀ j oj, ops[j]? = some oj → oj.dst = some d → j = i) ∧ ∀ e ∈ o.after, Region.binds .any e = true → e.on < i := by
  have hlt : i < ops.size := (Array.getElem?_eq_some_iff.1 ho).1
  unfold regFits at h
  rw [List.all_eq_true] at h
  have hi := h i (List.mem_range.2 hlt)
  rw [ho] at hi
  simp only [Bool.and_eq_true] at hi
  obtain ⟨⟨h1, h2⟩, h3⟩ := hi
  refine ⟨by simpa using h1, fun d hd => ?_, fun e he hb => ?_⟩
  · rw [hd] at h2
    simp only [Bool.and_eq_true] at h2
    refine ⟨by simpa using h2.1, fun j oj hj hdj => ?_⟩
    have h4 := List.all_eq_true.1 h2.2 j (List.mem_range.2 (Array.getElem?_eq_some_iff.1 hj).1)
    rw [hj] at h4
    simp only [hdj, bne_self_eq_false, Bool.or_false, beq_iff_eq] at h4
    exact h4
  · have h4 := Array.all_eq_true'.1 h3 e he
    rw [hb] at h4
    simpa using h4
theorem wpAny_steps {D : List Nat} {a : Act} (G : (Nat → Bool) → World → Prop) (T : (Nat → Bool) → Nat → Value → World → Prop) (hfit : regFits ops D = true)
    (hs : ∀ i o, ops[i]? = some o → ∀ (L : Nat → Bool) b v, L i = false → (∀ e ∈ o.after, Region.binds .any e = true → L e.on = true) → (∀ k ok, ops[k]? = some ok → L k = true → ∀ e ∈ ok.after, Region.binds .any e = true → L e.on = true) → FrameOnly D a b → (∀ j oj d, ops[j]? = some oj → oj.dst = some d → L j = false → b.tmps[d]? = a.tmps[d]?) → G L v → (∀ j oj d, ops[j]? = some oj → oj.dst = some d → L j = true → T L j (b.eval (.tmp d)) v) →
      o.wp P b v (fun b' v' => ∃ u, b' = b.put o.dst u ∧ G (upd L i) v' ∧ T (upd L i) i u v' ∧ ∀ j oj d, ops[j]? = some oj → oj.dst = some d → j ≠ i → L j = true → T L j (b.eval (.tmp d)) v → T (upd L i) j (b.eval (.tmp d)) v') Q)
    (he : ∀ b v, FrameOnly D a b → G (fun i => decide (i < ops.size)) v → (∀ j oj d, ops[j]? = some oj → oj.dst = some d → T (fun i => decide (i < ops.size)) j (b.eval (.tmp d)) v) → Q .normal b v) :
    ∀ (fuel : Nat) (listed : Array Bool) b v, listed.size = ops.size → (∀ k ok, ops[k]? = some ok → listed.getD k false = true → ∀ e ∈ ok.after, Region.binds .any e = true → listed.getD e.on false = true) → listed.toList.count false ≤ fuel → (∀ t, b.tmps.size ≤ t → t ∉ D) → FrameOnly D a b → (∀ j oj d, ops[j]? = some oj → oj.dst = some d → listed.getD j false = false → b.tmps[d]? = a.tmps[d]?) → G (fun i => listed.getD i false) v → (∀ j oj d, ops[j]? = some oj → oj.dst = some d → listed.getD j false = true → T (fun i => listed.getD i false) j (b.eval (.tmp d)) v) →
      wpAny P .any ops Q fuel listed b v := by
  have hall : ∀ listed : Array Bool, listed.size = ops.size → Region.ready .any ops listed = [] → ∀ i, i < ops.size → listed.getD i false = true := by
    intro listed hsz hr i
    induction i using Nat.strongRecOn with
    | _ i ih =>
      intro hi
      cases hc : listed.getD i false with
      | true => rfl
      | false =>
        exfalso
        obtain ⟨o, ho⟩ : ∃ o, ops[i]? = some o := ⟨_, Array.getElem?_eq_getElem hi⟩
        have hmem : i ∈ Region.ready .any ops listed := by
          unfold Region.ready
          rw [List.mem_filter]
          refine ⟨List.mem_range.2 hi, ?_⟩
          have h1 : listed.getD i true = false := by
            rw [Array.getD_eq_getD_getElem?, Array.getElem?_eq_getElem (by omega)] at hc ⊢
            exact hc
          rw [h1, ho]
          simp only [Bool.not_false, Bool.true_and, Option.map_some, Option.getD_some]
          rw [Array.all_eq_true']
          intro e he2
          by_cases hb : Region.binds .any e = true
          · rw [ih e.on ((regFits_at hfit ho).2.2 e he2 hb) (Nat.lt_trans ((regFits_at hfit ho).2.2 e he2 hb) hi)]; simp
          · simp [hb]
        rw [hr] at hmem
        cases hmem
  have hend : ∀ listed : Array Bool, listed.size = ops.size → Region.ready .any ops listed = [] → ∀ b v, FrameOnly D a b → G (fun i => listed.getD i false) v → (∀ j oj d, ops[j]? = some oj → oj.dst = some d → listed.getD j false = true → T (fun i => listed.getD i false) j (b.eval (.tmp d)) v) → Q .normal b v := by
    intro listed hsz hr b v hf hg ht
    have h1 := hall listed hsz hr
    have h2 : (fun i => listed.getD i false) = fun i => decide (i < ops.size) := by
      funext i
      by_cases hi : i < ops.size
      · rw [h1 i hi]; simp [hi]
      · rw [Array.getD_eq_getD_getElem?, Array.getElem?_eq_none (by omega)]; simp [hi]
    rw [h2] at hg ht
    exact he b v hf hg fun j oj d hj hd => ht j oj d hj hd (h1 j (Array.getElem?_eq_some_iff.1 hj).1)
  intro fuel
  induction fuel with
  | zero =>
    intro listed b v hsz hcl hc hD hf hn hg ht
    have hr : Region.ready .any ops listed = [] := by
      unfold Region.ready
      rw [List.filter_eq_nil_iff]
      intro i hi hcon
      simp only [Bool.and_eq_true, Bool.not_eq_true'] at hcon
      have := unlisted_set hcon.1
      omega
    exact ⟨hr, hend listed hsz hr b v hf hg ht⟩
  | succ fuel ih =>
    intro listed b v hsz hcl hc hD hf hn hg ht
    refine ⟨fun hr => hend listed hsz hr b v hf hg ht, fun i hi => ?_⟩
    unfold Region.ready at hi
    rw [List.mem_filter] at hi
    obtain ⟨hi1, hi2⟩ := hi
    have hlt := List.mem_range.1 hi1
    obtain ⟨o, ho⟩ : ∃ o, ops[i]? = some o := ⟨_, Array.getElem?_eq_getElem hlt⟩
    rw [ho] at hi2
    simp only [Bool.and_eq_true, Bool.not_eq_true', Option.map_some, Option.getD_some] at hi2
    obtain ⟨hu, hdep⟩ := hi2
    have hu' : listed.getD i false = false := by
      rw [Array.getD_eq_getD_getElem?, Array.getElem?_eq_getElem (by omega)] at hu ⊢
      exact hu
    obtain ⟨f1, f2, f3⟩ := regFits_at hfit ho
    unfold wpOp
    rw [ho]
    simp only
    rw [if_pos (wanted_free f1 [] _)]
    refine .inl (Oper.wp_mono ?_ (hs i o ho (fun i => listed.getD i false) b v hu' (fun e he2 hb => by
      have := Array.all_eq_true'.1 hdep e he2
      rw [hb] at this
      simpa using this) hcl hf hn hg ht))
    rintro b' v' ⟨u, rfl, hg', hti, hst⟩
    have hL : (fun j => (listed.setIfInBounds i true).getD j false) = upd (fun j => listed.getD j false) i := by
      funext j
      unfold upd
      by_cases hj : j = i
      · subst hj
        rw [if_pos rfl, Array.getD_eq_getD_getElem?, Array.getElem?_setIfInBounds_self_of_lt (by omega)]; rfl
      · rw [if_neg hj, Array.getD_eq_getD_getElem?, Array.getElem?_setIfInBounds_ne (fun e => hj e.symm), ← Array.getD_eq_getD_getElem?]
    have hL2 : ∀ j, (listed.setIfInBounds i true).getD j false = upd (fun j => listed.getD j false) i j := fun j => congrFun hL j
    refine ih _ _ _ (by simpa using hsz) (fun k ok hk hlk e he2 hb => ?_) (by have := unlisted_set hu; omega) ?_ (hf.put o.dst (fun d hd => (f2 d hd).1) u) (fun j oj d hj hd hl => ?_) (by rw [hL]; exact hg') ?_
    · rw [hL2] at hlk ⊢
      unfold upd at hlk ⊢
      by_cases hki : k = i
      · subst hki
        rw [ho] at hk
        injection hk with hk
        subst hk
        have h5 := Array.all_eq_true'.1 hdep e he2
        rw [hb] at h5
        have h6 : listed.getD e.on false = true := by simpa using h5
        split
        · rfl
        · exact h6
      · rw [if_neg hki] at hlk
        split
        · rfl
        · exact hcl k ok hk hlk e he2 hb
    · intro t ht2
      refine hD t ?_
      cases hdst : o.dst with
      | none => rw [hdst] at ht2; exact ht2
      | some d => rw [hdst] at ht2; simpa [Act.put] using ht2
    · rw [hL2] at hl
      have hji : j ≠ i := fun e => by rw [e] at hl; unfold upd at hl; rw [if_pos rfl] at hl; cases hl
      have hl3 : listed.getD j false = false := by unfold upd at hl; rw [if_neg hji] at hl; exact hl
      rw [← hn j oj d hj hd hl3]
      have hne : o.dst ≠ some d := fun e => hji ((f2 d e).2 j oj hj hd)
      cases hdst : o.dst with
      | none => rfl
      | some d2 =>
        have hd2 : d2 ≠ d := fun e => hne (by rw [hdst, e])
        simp [Act.put, hd2]
    · intro j oj d hj hd hl
      have hl' : (listed.setIfInBounds i true).getD j false = upd (fun j => listed.getD j false) i j := congrFun hL j
      rw [hl'] at hl
      rw [hL]
      by_cases hji : j = i
      · subst hji
        rw [ho] at hj
        injection hj with hj
        subst hj
        have hdD := (f2 d hd).1
        have hds : d < b.tmps.size := by
          rcases Nat.lt_or_ge d b.tmps.size with h | h
          · exact h
          · exact absurd hdD (hD d h)
        have : (b.put o.dst u).eval (.tmp d) = u := by
          rw [hd]
          simp [Act.put, Act.eval, Array.getD_eq_getD_getElem?, hds]
        rw [this]
        exact hti
      · unfold upd at hl
        rw [if_neg hji] at hl
        have hne : o.dst ≠ some d := fun e => hji ((f2 d e).2 j oj hj hd)
        have : (b.put o.dst u).eval (.tmp d) = b.eval (.tmp d) := by
          cases hdst : o.dst with
          | none => rfl
          | some d2 =>
            have hd2 : d2 ≠ d := fun e => hne (by rw [hdst, e])
            simp [Act.put, Act.eval, Array.getD_eq_getD_getElem?, hd2]
        rw [this]
        exact hst j oj d hj hd hji hl (ht j oj d hj hd hl)
/-- A drawn region, by what each operation asks and leaves. -/
theorem region_steps {id : Nat} {a : Act} {w : World} (hm : P.follows .mixedOrders = true) (D : List Nat) (G : (Nat → Bool) → World → Prop) (T : (Nat → Bool) → Nat → Value → World → Prop) (hfit : regFits ops D = true) (hD : ∀ t, a.tmps.size ≤ t → t ∉ D)
    (h0 : G (fun _ => false) w.drew)
    (hs : ∀ i o, ops[i]? = some o → ∀ (L : Nat → Bool) b v, L i = false → (∀ e ∈ o.after, Region.binds .any e = true → L e.on = true) → (∀ k ok, ops[k]? = some ok → L k = true → ∀ e ∈ ok.after, Region.binds .any e = true → L e.on = true) → FrameOnly D a b → (∀ j oj d, ops[j]? = some oj → oj.dst = some d → L j = false → b.tmps[d]? = a.tmps[d]?) → G L v → (∀ j oj d, ops[j]? = some oj → oj.dst = some d → L j = true → T L j (b.eval (.tmp d)) v) →
      o.wp P b v (fun b' v' => ∃ u, b' = b.put o.dst u ∧ G (upd L i) v' ∧ T (upd L i) i u v' ∧ ∀ j oj d, ops[j]? = some oj → oj.dst = some d → j ≠ i → L j = true → T L j (b.eval (.tmp d)) v → T (upd L i) j (b.eval (.tmp d)) v') Q)
    (he : ∀ b v, FrameOnly D a b → G (fun i => decide (i < ops.size)) v → (∀ j oj d, ops[j]? = some oj → oj.dst = some d → T (fun i => decide (i < ops.size)) j (b.eval (.tmp d)) v) → Q .normal b v) : (Code.region id ops true).wp P Q a w := by
  refine wp_region_any hm (wpAny_steps G T hfit hs he ops.size (Array.replicate ops.size false) a w.drew (by simp) (fun k ok _ hl => ?_) (by simp) hD (FrameOnly.refl D a) (fun _ _ _ _ _ _ => rfl) ?_ ?_)
  · rw [Array.getD_eq_getD_getElem?, Array.getElem?_replicate] at hl
    split at hl <;> cases hl
  · have : (fun i => (Array.replicate ops.size false).getD i false) = fun _ => false := by
      funext i
      rw [Array.getD_eq_getD_getElem?, Array.getElem?_replicate]
      split <;> rfl
    rw [this]
    exact h0
  · intro j oj d hj hd hl
    rw [Array.getD_eq_getD_getElem?, Array.getElem?_replicate] at hl
    split at hl <;> cases hl
/-- What one operation owes. -/
def StepOk (P : Program) (ops : Array Oper) (Q : Exit → Act → World → Prop) (D : List Nat) (a : Act) (G : (Nat → Bool) → World → Prop) (T : (Nat → Bool) → Nat → Value → World → Prop) (i : Nat) (o : Oper) : Prop :=
  ∀ (L : Nat → Bool) b v, L i = false → (∀ k, k ∈ (o.after.toList.filter fun e => Region.binds .any e).map (·.on) → L k = true) → (∀ j oj k, ops[j]? = some oj → L j = true → k ∈ (oj.after.toList.filter fun e => Region.binds .any e).map (·.on) → L k = true) → FrameOnly D a b → G L v → (∀ j oj d, ops[j]? = some oj → oj.dst = some d → L j = true → T L j (b.eval (.tmp d)) v) →
      o.wp P b v (fun b' v' => ∃ u, b' = b.put o.dst u ∧ G (upd L i) v' ∧ T (upd L i) i u v' ∧ ∀ j oj d, ops[j]? = some oj → oj.dst = some d → j ≠ i → L j = true → T L j (b.eval (.tmp d)) v → T (upd L i) j (b.eval (.tmp d)) v') Q
def AllOps (F : Nat → Oper → Prop) : Nat → List Oper → Prop
  | _, [] => True
  | k, o :: l => F k o ∧ AllOps F (k + 1) l
theorem allOps_at {F : Nat → Oper → Prop} : ∀ (l : List Oper) (k : Nat), AllOps F k l → ∀ i o, l[i]? = some o → F (k + i) o
  | [], _, _, i, o, h => by simp at h
  | x :: l, k, ha, 0, o, h => by
    simp at h
    subst h
    exact ha.1
  | x :: l, k, ha, i + 1, o, h => by
    have := allOps_at l (k + 1) ha.2 i o (by simpa using h)
    rwa [show k + (i + 1) = k + 1 + i by omega]
/-- A drawn region, its operations listed. -/
theorem region_ops {id : Nat} {l : List Oper} {a : Act} {w : World} (hm : P.follows .mixedOrders = true) (D : List Nat) (G : (Nat → Bool) → World → Prop) (T : (Nat → Bool) → Nat → Value → World → Prop) (hfit : regFits l.toArray D = true) (hD : ∀ t, a.tmps.size ≤ t → t ∉ D)
    (h0 : G (fun _ => false) w.drew) (hs : AllOps (StepOk P l.toArray Q D a G T) 0 l)
    (he : ∀ b v, FrameOnly D a b → G (fun i => decide (i < l.toArray.size)) v → (∀ j oj d, l.toArray[j]? = some oj → oj.dst = some d → T (fun i => decide (i < l.toArray.size)) j (b.eval (.tmp d)) v) → Q .normal b v) : (Code.region id l.toArray true).wp P Q a w :=
  region_steps hm D G T hfit hD h0 (fun i o ho L b v hi hdep hcl hf hn hg ht => by
    have := allOps_at l 0 hs i o (by simpa using ho)
    rw [Nat.zero_add] at this
    refine this L b v hi (fun k hk => ?_) (fun j oj k hj hl hk => ?_) hf hg ht
    · obtain ⟨e, he2, rfl⟩ := List.mem_map.1 hk
      obtain ⟨h1, h2⟩ := List.mem_filter.1 he2
      exact hdep e (by simpa using h1) h2
    · obtain ⟨e, he2, rfl⟩ := List.mem_map.1 hk
      obtain ⟨h1, h2⟩ := List.mem_filter.1 he2
      exact hcl j oj hj hl e (by simpa using h1) h2) he
/-- What one operation owes; slots of operations to come are as they were. -/
def StepOkN (P : Program) (ops : Array Oper) (Q : Exit → Act → World → Prop) (D : List Nat) (a : Act) (G : (Nat → Bool) → World → Prop) (T : (Nat → Bool) → Nat → Value → World → Prop) (i : Nat) (o : Oper) : Prop :=
  ∀ (L : Nat → Bool) b v, L i = false → (∀ k, k ∈ (o.after.toList.filter fun e => Region.binds .any e).map (·.on) → L k = true) → (∀ j oj k, ops[j]? = some oj → L j = true → k ∈ (oj.after.toList.filter fun e => Region.binds .any e).map (·.on) → L k = true) → FrameOnly D a b → (∀ j oj d, ops[j]? = some oj → oj.dst = some d → L j = false → b.eval (.tmp d) = a.eval (.tmp d)) → G L v → (∀ j oj d, ops[j]? = some oj → oj.dst = some d → L j = true → T L j (b.eval (.tmp d)) v) →
      o.wp P b v (fun b' v' => ∃ u, b' = b.put o.dst u ∧ G (upd L i) v' ∧ T (upd L i) i u v' ∧ ∀ j oj d, ops[j]? = some oj → oj.dst = some d → j ≠ i → L j = true → T L j (b.eval (.tmp d)) v → T (upd L i) j (b.eval (.tmp d)) v') Q
/-- A drawn region, its operations listed. -/
theorem region_opsN {id : Nat} {l : List Oper} {a : Act} {w : World} (hm : P.follows .mixedOrders = true) (D : List Nat) (G : (Nat → Bool) → World → Prop) (T : (Nat → Bool) → Nat → Value → World → Prop) (hfit : regFits l.toArray D = true) (hD : ∀ t, a.tmps.size ≤ t → t ∉ D)
    (h0 : G (fun _ => false) w.drew) (hs : AllOps (StepOkN P l.toArray Q D a G T) 0 l)
    (he : ∀ b v, FrameOnly D a b → G (fun i => decide (i < l.toArray.size)) v → (∀ j oj d, l.toArray[j]? = some oj → oj.dst = some d → T (fun i => decide (i < l.toArray.size)) j (b.eval (.tmp d)) v) → Q .normal b v) : (Code.region id l.toArray true).wp P Q a w :=
  region_steps hm D G T hfit hD h0 (fun i o ho L b v hi hdep hcl hf hn hg ht => by
    have := allOps_at l 0 hs i o (by simpa using ho)
    rw [Nat.zero_add] at this
    refine this L b v hi (fun k hk => ?_) (fun j oj k hj hl hk => ?_) hf (fun j oj d hj hd hl => by simp only [Act.eval, Array.getD_eq_getD_getElem?, hn j oj d hj hd hl]) hg ht
    · obtain ⟨e, he2, rfl⟩ := List.mem_map.1 hk
      obtain ⟨h1, h2⟩ := List.mem_filter.1 he2
      exact hdep e (by simpa using h1) h2
    · obtain ⟨e, he2, rfl⟩ := List.mem_map.1 hk
      obtain ⟨h1, h2⟩ := List.mem_filter.1 he2
      exact hcl j oj hj hl e (by simpa using h1) h2) he
/-- The frame and what follows as letters. -/
theorem region_letters {id : Nat} {l : Array Oper} {a : Act} {w : World} (h : ∀ (a' : Act) (Q' : Exit → Act → World → Prop), a' = a → (∀ b v, Q .normal b v → Q' .normal b v) → (Code.region id l true).wp P Q' a' w) : (Code.region id l true).wp P Q a w := h a Q rfl fun _ _ h => h
theorem dst_at {j : Nat} {oj : Oper} {d : Nat} {k : Option Nat} (h : ops[j]? = some oj) (hd : oj.dst = some d) (hk : (ops[j]?).bind (·.dst) = k) : k = some d := by
  rw [← hk, h]
  exact hd
theorem upd_false {L : Nat → Bool} {i k : Nat} (h : upd L i k = false) : L k = false := by
  unfold upd at h
  split at h
  · cases h
  · exact h
theorem upd_true {L : Nat → Bool} {i k : Nat} (h : L k = true) : upd L i k = true := by
  unfold upd
  split
  · rfl
  · exact h
theorem upd_self (L : Nat → Bool) (i : Nat) : upd L i i = true := by unfold upd; rw [if_pos rfl]
theorem upd_other {L : Nat → Bool} {i k : Nat} (h : k ≠ i) : upd L i k = L k := by unfold upd; rw [if_neg h]
theorem exec_row {ev : Operand → Value} {o : Oper} {v : World} (ty : TypeId) (x : Operand) (ho : o.op = .load ty x) (g : Nat) (hx : ev x = .pointer (some ⟨g, 0, none⟩)) (t : TypeId) (cs : Array Value) (fr : Nat × Nat) (d : TypeDesc) (hg : v.heap[g]? = some (.cells cs t fr))
    (hu : P.underlying ty = some d) (hd : (match d with | .struct _ | .array _ _ => true | _ => false) = true) (hi : (P.info? ty).map (·.size) = some cs.size) : (execOp ev o).run P v = .ok (.value (.agg cs)) v := by
  unfold execOp
  simp only [ho, hx, Instr.loadAt, Instr.sureAddr, Sem.run_bind, Sem.run_pure, Result.andThen_ok, run_loadVar_row v g t ty cs fr d hg hu hd hi]
theorem exec_move {ev : Operand → Value} {o : Oper} {v : World} (x : Operand) (ho : o.op = .move x) : (execOp ev o).run P v = .ok (.value (ev x)) v := by
  unfold execOp; simp only [ho]; rfl
theorem exec_assign {ev : Operand → Value} {o : Oper} {v : World} (x : Operand) (ho : o.op = .assign x) : (execOp ev o).run P v = .ok (.value (ev x)) v := by
  unfold execOp; simp only [ho]; rfl
theorem exec_extract {ev : Operand → Value} {o : Oper} {v : World} (x : Operand) (i : Nat) (ho : o.op = .extract x i) (vs : Array Value) (u : Value) (hx : ev x = .tuple vs) (hu : vs[i]? = some u) : (execOp ev o).run P v = .ok (.value u) v := by
  unfold execOp; simp only [ho, hx]; simp [go_sem, hu]
theorem exec_alloc {ev : Operand → Value} {o : Oper} {v : World} (T : TypeId) (ho : o.op = .alloc T) (cs : Array Value) (hz : (zeroValue T).run P v = .ok (.agg cs) v) : (execOp ev o).run P v = .ok (.value (.pointer (some ⟨v.heap.size, 0, none⟩))) (v.alloc (.cells cs T)) := by
  unfold execOp
  simp only [ho]
  go_simp
theorem exec_store_row {ev : Operand → Value} {o : Oper} {v : World} (ty : TypeId) (x y : Operand) (ho : o.op = .store ty x y) (g : Nat) (cells : Array Value) (hx : ev x = .pointer (some ⟨g, 0, none⟩)) (hy : ev y = .agg cells)
    (t : TypeId) (old : Array Value) (hg : v.heap[g]? = some (.cells old t (0, 0))) (hi : (P.info? ty).map (·.size) = some cells.size) (hold : old.size = cells.size) (h1 : cells.all (·.oneCell') = true) : (execOp ev o).run P v = .ok .skip (v.setRow g cells) := by
  unfold execOp
  simp only [ho, hx, hy, Instr.storeAt, Instr.sureAddr, Sem.run_bind, Sem.run_pure, Result.andThen_ok, run_storeVar_row v g t ty old cells hg hi hold h1]
variable {D : List Nat} {a : Act} {G : (Nat → Bool) → World → Prop} {T : (Nat → Bool) → Nat → Value → World → Prop}
/-- An operation that leaves memory as it is. -/
theorem still_ok {b : Act} {v : World} {L : Nat → Bool} {i : Nat} {o : Oper} (u : Value) (hr : (execOp b.eval o).run P v = .ok (.value u) v) (hg : G (upd L i) v) (ht : T (upd L i) i u v) (hst : ∀ j oj d, ops[j]? = some oj → oj.dst = some d → j ≠ i → L j = true → T L j (b.eval (.tmp d)) v → T (upd L i) j (b.eval (.tmp d)) v) :
    o.wp P b v (fun b' v' => ∃ u, b' = b.put o.dst u ∧ G (upd L i) v' ∧ T (upd L i) i u v' ∧ ∀ j oj d, ops[j]? = some oj → oj.dst = some d → j ≠ i → L j = true → T L j (b.eval (.tmp d)) v → T (upd L i) j (b.eval (.tmp d)) v') Q := by
  unfold Oper.wp
  rw [hr, Oper.upon_value]
  exact ⟨u, rfl, hg, ht, hst⟩
/-- A store. -/
theorem skip_ok {b : Act} {v v2 : World} {L : Nat → Bool} {i : Nat} {o : Oper} (hr : (execOp b.eval o).run P v = .ok .skip v2) (hg : G (upd L i) v2) (ht : T (upd L i) i undef v2) (hst : ∀ j oj d, ops[j]? = some oj → oj.dst = some d → j ≠ i → L j = true → T L j (b.eval (.tmp d)) v → T (upd L i) j (b.eval (.tmp d)) v2) :
    o.wp P b v (fun b' v' => ∃ u, b' = b.put o.dst u ∧ G (upd L i) v' ∧ T (upd L i) i u v' ∧ ∀ j oj d, ops[j]? = some oj → oj.dst = some d → j ≠ i → L j = true → T L j (b.eval (.tmp d)) v → T (upd L i) j (b.eval (.tmp d)) v') Q := by
  unfold Oper.wp
  rw [hr, Oper.upon_skip]
  exact ⟨undef, rfl, hg, ht, hst⟩
/-- An operation that leaves another memory. -/
theorem makes_ok {b : Act} {v v2 : World} {L : Nat → Bool} {i : Nat} {o : Oper} (u : Value) (hr : (execOp b.eval o).run P v = .ok (.value u) v2) (hg : G (upd L i) v2) (ht : T (upd L i) i u v2) (hst : ∀ j oj d, ops[j]? = some oj → oj.dst = some d → j ≠ i → L j = true → T L j (b.eval (.tmp d)) v → T (upd L i) j (b.eval (.tmp d)) v2) :
    o.wp P b v (fun b' v' => ∃ u, b' = b.put o.dst u ∧ G (upd L i) v' ∧ T (upd L i) i u v' ∧ ∀ j oj d, ops[j]? = some oj → oj.dst = some d → j ≠ i → L j = true → T L j (b.eval (.tmp d)) v → T (upd L i) j (b.eval (.tmp d)) v') Q := by
  unfold Oper.wp
  rw [hr, Oper.upon_value]
  exact ⟨u, rfl, hg, ht, hst⟩
/-- A call. -/
theorem call_ok {b : Act} {v : World} {L : Nat → Bool} {i : Nat} {o : Oper} (f : FuncId) (xs : Array Operand) (ts : Array TypeId) (ho : o.op = .call { callee := .value (.func f), args := xs, argTypes := ts }) (vs : Array Value) (hx : xs.map b.eval = vs)
    (ent : ∀ args w, (callFunc f args).run P w = .ok (.enter f args) w)
    (hc : Calls P f vs v fun e v' => ∃ u, e = .returned u ∧ G (upd L i) v' ∧ T (upd L i) i u v' ∧ ∀ j oj d, ops[j]? = some oj → oj.dst = some d → j ≠ i → L j = true → T L j (b.eval (.tmp d)) v → T (upd L i) j (b.eval (.tmp d)) v') :
    o.wp P b v (fun b' v' => ∃ u, b' = b.put o.dst u ∧ G (upd L i) v' ∧ T (upd L i) i u v' ∧ ∀ j oj d, ops[j]? = some oj → oj.dst = some d → j ≠ i → L j = true → T L j (b.eval (.tmp d)) v → T (upd L i) j (b.eval (.tmp d)) v') Q := by
  unfold Oper.wp execOp
  simp only [ho, resolve, Deferred.ofValue, Act.eval, invoke, Sem.run_bind, Sem.run_pure, Result.andThen_ok, Array.append_empty]
  rw [show (Array.map b.eval xs) = vs from hx]
  rw [ent, Oper.upon_enter, Array.empty_append]
  refine hc.mono ?_
  rintro e v' ⟨u, rfl, h⟩
  exact ⟨u, rfl, h⟩
end
end Go.Proofs.Ytpmbbhefcejjlaa
