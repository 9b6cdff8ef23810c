/-
  A region that draws its order, with guarded operations that are wanted. No statement is proved here.
-/
import Derived.Test.YtpmbbhefcejjlaaReg
namespace Go.Proofs.Ytpmbbhefcejjlaa
open Go.RowKit
set_option linter.unusedVariables false
section
variable {P : Program} {ops : Array Oper} {Q : Exit → Act → World → Prop}
/-- What is asked of a region's text. -/
def regFitsG (ops : Array Oper) (D : List Nat) : Bool :=
  (List.range ops.size).all fun i => match ops[i]? with
    | none => false
    | some o => (match o.dst with | none => true | some d => D.contains d && (List.range ops.size).all fun j => j == i || (match ops[j]? with | none => true | some oj => oj.dst != some d)) && o.after.all fun e => !Region.binds .any e || decide (e.on < i)
theorem regFits_atG {D : List Nat} (h : regFitsG ops D = true) {i : Nat} {o : Oper} (ho : ops[i]? = some o) :
    (∀ d, o.dst = some d → d ∈ D ∧ ∀ j oj, ops[j]? = some oj → oj.dst = some d → j = i) ∧ ∀ e ∈ o.after, Region.binds .any e = true → e.on < i := by
  have hlt : i < ops.size := (Array.getElem?_eq_some_iff.1 ho).1
  unfold regFitsG at h
  rw [List.all_eq_true] at h
  have hi := h i (List.mem_range.2 hlt)
  rw [ho] at hi
  simp only [Bool.and_eq_true] at hi
  obtain ⟨h2, h3⟩ := hi
  refine ⟨fun d hd => ?_, fun e he hb => ?_⟩
  · rw [hd] at h2
    simp only [Bool.and_eq_true] at h2
    refine ⟨by simpa using h2.1, fun j oj hj hdj => ?_⟩
    have h4 := List.all_eq_true.1 h2.2 j (List.mem_range.2 (Array.getElem?_eq_some_iff.1 hj).1)
    rw [hj] at h4
    simp only [hdj, bne_self_eq_false, Bool.or_false, beq_iff_eq] at h4
    exact h4
  · have h4 := Array.all_eq_true'.1 h3 e he
    rw [hb] at h4
    simpa using h4
theorem wpAny_stepsG {D : List Nat} {a : Act} (G : (Nat → Bool) → World → Prop) (T : (Nat → Bool) → Nat → Value → World → Prop) (hfit : regFitsG ops D = true)
    (hs : ∀ i o, ops[i]? = some o → ∀ (L : Nat → Bool) b v, L i = false → (∀ e ∈ o.after, Region.binds .any e = true → L e.on = true) → (∀ k ok, ops[k]? = some ok → L k = true → ∀ e ∈ ok.after, Region.binds .any e = true → L e.on = true) → FrameOnly D a b → (∀ j oj d, ops[j]? = some oj → oj.dst = some d → L j = false → b.tmps[d]? = a.tmps[d]?) → G L v → (∀ j oj d, ops[j]? = some oj → oj.dst = some d → L j = true → T L j (b.eval (.tmp d)) v) →
      Region.wanted o (yielded ops b.tmps) = true ∧ o.wp P b v (fun b' v' => ∃ u, b' = b.put o.dst u ∧ G (upd L i) v' ∧ T (upd L i) i u v' ∧ ∀ j oj d, ops[j]? = some oj → oj.dst = some d → j ≠ i → L j = true → T L j (b.eval (.tmp d)) v → T (upd L i) j (b.eval (.tmp d)) v') Q)
    (he : ∀ b v, FrameOnly D a b → G (fun i => decide (i < ops.size)) v → (∀ j oj d, ops[j]? = some oj → oj.dst = some d → T (fun i => decide (i < ops.size)) j (b.eval (.tmp d)) v) → Q .normal b v) :
    ∀ (fuel : Nat) (listed : Array Bool) b v, listed.size = ops.size → (∀ k ok, ops[k]? = some ok → listed.getD k false = true → ∀ e ∈ ok.after, Region.binds .any e = true → listed.getD e.on false = true) → listed.toList.count false ≤ fuel → (∀ t, b.tmps.size ≤ t → t ∉ D) → FrameOnly D a b → (∀ j oj d, ops[j]? = some oj → oj.dst = some d → listed.getD j false = false → b.tmps[d]? = a.tmps[d]?) → G (fun i => listed.getD i false) v → (∀ j oj d, ops[j]? = some oj → oj.dst = some d → listed.getD j false = true → T (fun i => listed.getD i false) j (b.eval (.tmp d)) v) →
      wpAny P .any ops Q fuel listed b v := by
  have hall : ∀ listed : Array Bool, listed.size = ops.size → Region.ready .any ops listed = [] → ∀ i, i < ops.size → listed.getD i false = true := by
    intro listed hsz hr i
    induction i using Nat.strongRecOn with
    | _ i ih =>
      intro hi
      cases hc : listed.getD i false with
      | true => rfl
      | false =>
        exfalso
        obtain ⟨o, ho⟩ : ∃ o, ops[i]? = some o := ⟨_, Array.getElem?_eq_getElem hi⟩
        have hmem : i ∈ Region.ready .any ops listed := by
          unfold Region.ready
          rw [List.mem_filter]
          refine ⟨List.mem_range.2 hi, ?_⟩
          have h1 : listed.getD i true = false := by
            rw [Array.getD_eq_getD_getElem?, Array.getElem?_eq_getElem (by omega)] at hc ⊢
            exact hc
          rw [h1, ho]
          simp only [Bool.not_false, Bool.true_and, Option.map_some, Option.getD_some]
          rw [Array.all_eq_true']
          intro e he2
          by_cases hb : Region.binds .any e = true
          · rw [ih e.on ((regFits_atG hfit ho).2 e he2 hb) (Nat.lt_trans ((regFits_atG hfit ho).2 e he2 hb) hi)]; simp
          · simp [hb]
        rw [hr] at hmem
        cases hmem
  have hend : ∀ listed : Array Bool, listed.size = ops.size → Region.ready .any ops listed = [] → ∀ b v, FrameOnly D a b → G (fun i => listed.getD i false) v → (∀ j oj d, ops[j]? = some oj → oj.dst = some d → listed.getD j false = true → T (fun i => listed.getD i false) j (b.eval (.tmp d)) v) → Q .normal b v := by
    intro listed hsz hr b v hf hg ht
    have h1 := hall listed hsz hr
    have h2 : (fun i => listed.getD i false) = fun i => decide (i < ops.size) := by
      funext i
      by_cases hi : i < ops.size
      · rw [h1 i hi]; simp [hi]
      · rw [Array.getD_eq_getD_getElem?, Array.getElem?_eq_none (by omega)]; simp [hi]
    rw [h2] at hg ht
    exact he b v hf hg fun j oj d hj hd => ht j oj d hj hd (h1 j (Array.getElem?_eq_some_iff.1 hj).1)
  intro fuel
  induction fuel with
  | zero =>
    intro listed b v hsz hcl hc hD hf hn hg ht
    have hr : Region.ready .any ops listed = [] := by
      unfold Region.ready
      rw [List.filter_eq_nil_iff]
      intro i hi hcon
      simp only [Bool.and_eq_true, Bool.not_eq_true'] at hcon
      have := unlisted_set hcon.1
      omega
    exact ⟨hr, hend listed hsz hr b v hf hg ht⟩
  | succ fuel ih =>
    intro listed b v hsz hcl hc hD hf hn hg ht
    refine ⟨fun hr => hend listed hsz hr b v hf hg ht, fun i hi => ?_⟩
    unfold Region.ready at hi
    rw [List.mem_filter] at hi
    obtain ⟨hi1, hi2⟩ := hi
    have hlt := List.mem_range.1 hi1
    obtain ⟨o, ho⟩ : ∃ o, ops[i]? = some o := ⟨_, Array.getElem?_eq_getElem hlt⟩
    rw [ho] at hi2
    simp only [Bool.and_eq_true, Bool.not_eq_true', Option.map_some, Option.getD_some] at hi2
    obtain ⟨hu, hdep⟩ := hi2
    have hu' : listed.getD i false = false := by
      rw [Array.getD_eq_getD_getElem?, Array.getElem?_eq_getElem (by omega)] at hu ⊢
      exact hu
    obtain ⟨f2, f3⟩ := regFits_atG hfit ho
    unfold wpOp
    rw [ho]
    simp only
    obtain ⟨hwt, hst0⟩ := hs i o ho (fun i => listed.getD i false) b v hu' (fun e he2 hb => by
      have := Array.all_eq_true'.1 hdep e he2
      rw [hb] at this
      simpa using this) hcl hf hn hg ht
    rw [if_pos hwt]
    refine .inl (Oper.wp_mono ?_ hst0)
    rintro b' v' ⟨u, rfl, hg', hti, hst⟩
    have hL : (fun j => (listed.setIfInBounds i true).getD j false) = upd (fun j => listed.getD j false) i := by
      funext j
      unfold upd
      by_cases hj : j = i
      · subst hj
        rw [if_pos rfl, Array.getD_eq_getD_getElem?, Array.getElem?_setIfInBounds_self_of_lt (by omega)]; rfl
      · rw [if_neg hj, Array.getD_eq_getD_getElem?, Array.getElem?_setIfInBounds_ne (fun e => hj e.symm), ← Array.getD_eq_getD_getElem?]
    have hL2 : ∀ j, (listed.setIfInBounds i true).getD j false = upd (fun j => listed.getD j false) i j := fun j => congrFun hL j
    refine ih _ _ _ (by simpa using hsz) (fun k ok hk hlk e he2 hb => ?_) (by have := unlisted_set hu; omega) ?_ (hf.put o.dst (fun d hd => (f2 d hd).1) u) (fun j oj d hj hd hl => ?_) (by rw [hL]; exact hg') ?_
    · rw [hL2] at hlk ⊢
      unfold upd at hlk ⊢
      by_cases hki : k = i
      · subst hki
        rw [ho] at hk
        injection hk with hk
        subst hk
        have h5 := Array.all_eq_true'.1 hdep e he2
        rw [hb] at h5
        have h6 : listed.getD e.on false = true := by simpa using h5
        split
        · rfl
        · exact h6
      · rw [if_neg hki] at hlk
        split
        · rfl
        · exact hcl k ok hk hlk e he2 hb
    · intro t ht2
      refine hD t ?_
      cases hdst : o.dst with
      | none => rw [hdst] at ht2; exact ht2
      | some d => rw [hdst] at ht2; simpa [Act.put] using ht2
    · rw [hL2] at hl
      have hji : j ≠ i := fun e => by rw [e] at hl; unfold upd at hl; rw [if_pos rfl] at hl; cases hl
      have hl3 : listed.getD j false = false := by unfold upd at hl; rw [if_neg hji] at hl; exact hl
      rw [← hn j oj d hj hd hl3]
      have hne : o.dst ≠ some d := fun e => hji ((f2 d e).2 j oj hj hd)
      cases hdst : o.dst with
      | none => rfl
      | some d2 =>
        have hd2 : d2 ≠ d := fun e => hne (by rw [hdst, e])
        simp [Act.put, hd2]
    · intro j oj d hj hd hl
      have hl' : (listed.setIfInBounds i true).getD j false = upd (fun j => listed.getD j false) i j := congrFun hL j
      rw [hl'] at hl
      rw [hL]
      by_cases hji : j = i
      · subst hji
        rw [ho] at hj
        injection hj with hj
        subst hj
        have hdD := (f2 d hd).1
        have hds : d < b.tmps.size := by
          rcases Nat.lt_or_ge d b.tmps.size with h | h
          · exact h
          · exact absurd hdD (hD d h)
        have : (b.put o.dst u).eval (.tmp d) = u := by
          rw [hd]
          simp [Act.put, Act.eval, Array.getD_eq_getD_getElem?, hds]
        rw [this]
        exact hti
      · unfold upd at hl
        rw [if_neg hji] at hl
        have hne : o.dst ≠ some d := fun e => hji ((f2 d e).2 j oj hj hd)
        have : (b.put o.dst u).eval (.tmp d) = b.eval (.tmp d) := by
          cases hdst : o.dst with
          | none => rfl
          | some d2 =>
            have hd2 : d2 ≠ d := fun e => hne (by rw [hdst, e])
            simp [Act.put, Act.eval, Array.getD_eq_getD_getElem?, hd2]
        rw [this]
        exact hst j oj d hj hd hji hl (ht j oj d hj hd hl)
/-- A drawn region, by what each operation asks and leaves. -/
theorem region_stepsG {id : Nat} {a : Act} {w : World} (hm : P.follows .mixedOrders = true) (D : List Nat) (G : (Nat → Bool) → World → Prop) (T : (Nat → Bool) → Nat → Value → World → Prop) (hfit : regFitsG ops D = true) (hD : ∀ t, a.tmps.size ≤ t → t ∉ D)
    (h0 : G (fun _ => false) w.drew)
    (hs : ∀ i o, ops[i]? = some o → ∀ (L : Nat → Bool) b v, L i = false → (∀ e ∈ o.after, Region.binds .any e = true → L e.on = true) → (∀ k ok, ops[k]? = some ok → L k = true → ∀ e ∈ ok.after, Region.binds .any e = true → L e.on = true) → FrameOnly D a b → (∀ j oj d, ops[j]? = some oj → oj.dst = some d → L j = false → b.tmps[d]? = a.tmps[d]?) → G L v → (∀ j oj d, ops[j]? = some oj → oj.dst = some d → L j = true → T L j (b.eval (.tmp d)) v) →
      Region.wanted o (yielded ops b.tmps) = true ∧ o.wp P b v (fun b' v' => ∃ u, b' = b.put o.dst u ∧ G (upd L i) v' ∧ T (upd L i) i u v' ∧ ∀ j oj d, ops[j]? = some oj → oj.dst = some d → j ≠ i → L j = true → T L j (b.eval (.tmp d)) v → T (upd L i) j (b.eval (.tmp d)) v') Q)
    (he : ∀ b v, FrameOnly D a b → G (fun i => decide (i < ops.size)) v → (∀ j oj d, ops[j]? = some oj → oj.dst = some d → T (fun i => decide (i < ops.size)) j (b.eval (.tmp d)) v) → Q .normal b v) : (Code.region id ops true).wp P Q a w := by
  refine wp_region_any hm (wpAny_stepsG G T hfit hs he ops.size (Array.replicate ops.size false) a w.drew (by simp) (fun k ok _ hl => ?_) (by simp) hD (FrameOnly.refl D a) (fun _ _ _ _ _ _ => rfl) ?_ ?_)
  · rw [Array.getD_eq_getD_getElem?, Array.getElem?_replicate] at hl
    split at hl <;> cases hl
  · have : (fun i => (Array.replicate ops.size false).getD i false) = fun _ => false := by
      funext i
      rw [Array.getD_eq_getD_getElem?, Array.getElem?_replicate]
      split <;> rfl
    rw [this]
    exact h0
  · intro j oj d hj hd hl
    rw [Array.getD_eq_getD_getElem?, Array.getElem?_replicate] at hl
    split at hl <;> cases hl
/-- What one operation owes; slots of operations to come are as they were. -/
def StepOkG (P : Program) (ops : Array Oper) (Q : Exit → Act → World → Prop) (D : List Nat) (a : Act) (G : (Nat → Bool) → World → Prop) (T : (Nat → Bool) → Nat → Value → World → Prop) (i : Nat) (o : Oper) : Prop :=
  ∀ (L : Nat → Bool) b v, L i = false → (∀ k, k ∈ (o.after.toList.filter fun e => Region.binds .any e).map (·.on) → L k = true) → (∀ j oj k, ops[j]? = some oj → L j = true → k ∈ (oj.after.toList.filter fun e => Region.binds .any e).map (·.on) → L k = true) → FrameOnly D a b → (∀ j oj d, ops[j]? = some oj → oj.dst = some d → L j = false → b.eval (.tmp d) = a.eval (.tmp d)) → G L v → (∀ j oj d, ops[j]? = some oj → oj.dst = some d → L j = true → T L j (b.eval (.tmp d)) v) →
      Region.wanted o (yielded ops b.tmps) = true ∧ o.wp P b v (fun b' v' => ∃ u, b' = b.put o.dst u ∧ G (upd L i) v' ∧ T (upd L i) i u v' ∧ ∀ j oj d, ops[j]? = some oj → oj.dst = some d → j ≠ i → L j = true → T L j (b.eval (.tmp d)) v → T (upd L i) j (b.eval (.tmp d)) v') Q
/-- A drawn region, its operations listed. -/
theorem region_opsG {id : Nat} {l : List Oper} {a : Act} {w : World} (hm : P.follows .mixedOrders = true) (D : List Nat) (G : (Nat → Bool) → World → Prop) (T : (Nat → Bool) → Nat → Value → World → Prop) (hfit : regFitsG l.toArray D = true) (hD : ∀ t, a.tmps.size ≤ t → t ∉ D)
    (h0 : G (fun _ => false) w.drew) (hs : AllOps (StepOkG P l.toArray Q D a G T) 0 l)
    (he : ∀ b v, FrameOnly D a b → G (fun i => decide (i < l.toArray.size)) v → (∀ j oj d, l.toArray[j]? = some oj → oj.dst = some d → T (fun i => decide (i < l.toArray.size)) j (b.eval (.tmp d)) v) → Q .normal b v) : (Code.region id l.toArray true).wp P Q a w :=
  region_stepsG hm D G T hfit hD h0 (fun i o ho L b v hi hdep hcl hf hn hg ht => by
    have := allOps_at l 0 hs i o (by simpa using ho)
    rw [Nat.zero_add] at this
    refine this L b v hi (fun k hk => ?_) (fun j oj k hj hl hk => ?_) hf (fun j oj d hj hd hl => by simp only [Act.eval, Array.getD_eq_getD_getElem?, hn j oj d hj hd hl]) hg ht
    · obtain ⟨e, he2, rfl⟩ := List.mem_map.1 hk
      obtain ⟨h1, h2⟩ := List.mem_filter.1 he2
      exact hdep e (by simpa using h1) h2
    · obtain ⟨e, he2, rfl⟩ := List.mem_map.1 hk
      obtain ⟨h1, h2⟩ := List.mem_filter.1 he2
      exact hcl j oj hj hl e (by simpa using h1) h2) he
theorem wanted_at {b : Act} {o : Oper} {k d : Nat} {w : Bool} (hg : o.guard = some (k, w)) (hd : (ops[k]?).bind (·.dst) = some d) (hb : b.eval (.tmp d) = .bool w) : Region.wanted o (yielded ops b.tmps) = true := by
  unfold Region.wanted yielded
  rw [hg]
  simp only [hd, Option.bind_some]
  unfold Act.eval at hb
  simp only [Array.getD_eq_getD_getElem?] at hb
  cases h : b.tmps[d]? with
  | none => rw [h] at hb; cases hb
  | some x =>
    rw [h] at hb
    simp only [Option.getD_some] at hb
    rw [hb]
    simp
end
end Go.Proofs.Ytpmbbhefcejjlaa
