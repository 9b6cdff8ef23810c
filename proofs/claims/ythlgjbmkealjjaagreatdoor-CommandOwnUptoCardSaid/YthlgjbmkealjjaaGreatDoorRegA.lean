/-
  Joined texts: Struct Reg RegX RowT MapG. No statement is proved here.
-/
import Derived.Great.BuildSlice
import Derived.Deep.WholeRow
import Derived.Deep.Cut
import Derived.Deep.DeepCutAuto
import Derived.Test.YthlgjbmkealjjaaGreatDoorLib
import Derived.Orders
import Derived.Laws.Tables
import Derived.Deep.MidRow
import Derived.MapKept
import Derived.WalkKit
import Derived.WalkLawsBesides
import Derived.WalkSpells
namespace Go.Proofs.YthlgjbmkealjjaaGreatDoor
open Go.RowKit
set_option linter.unusedVariables false
section
variable {P : Program}

/-- An operation that yields a value by a run that is known. -/
theorem run_to {ops : Array Oper} {rest : List Oper} {o : Oper} {a : Act} {w : World} {Q : Exit → Act → World → Prop} (hg : o.guard = none) (dst : Option Tmp) (hdst : o.dst = dst)
    (v : Value) (w' : World) (hrun : (execOp a.eval o).run P w = .ok (.value v) w')
    (h : wpList P ops Q rest (a.put dst v) w') : wpList P ops Q (o :: rest) a w := by
  subst hdst
  refine wpList_plain hg fun K hK => ?_
  unfold Oper.wp
  rw [hrun, Oper.upon_value]
  exact hK _ _ h
/-- A variable is made, and a whole value laid into it. -/
theorem alloc_store {ops : Array Oper} {rest : List Oper} {o1 o2 : Oper} {a : Act} {w : World} {Q : Exit → Act → World → Prop} (hg1 : o1.guard = none) (hg2 : o2.guard = none)
    (t : TypeId) (d : Tmp) (y : Operand) (ho1 : o1.op = .alloc t) (hd1 : o1.dst = some d) (ho2 : o2.op = .store t (.tmp d) y) (hd2 : o2.dst = none) (cells : Array Value)
    (hx : (a.put (some d) (.pointer (some ⟨w.heap.size, 0, none⟩))).eval (.tmp d) = .pointer (some ⟨w.heap.size, 0, none⟩)) (hy : (a.put (some d) (.pointer (some ⟨w.heap.size, 0, none⟩))).eval y = .agg cells)
    (hz : ((P.info? t).bind (·.zero)).map (·.cells.size) = some cells.size) (hi : (P.info? t).map (·.size) = some cells.size) (h1 : cells.all (·.oneCell') = true)
    (h : wpList P ops Q rest (a.put (some d) (.pointer (some ⟨w.heap.size, 0, none⟩))) (w.alloc (.cells cells t))) : wpList P ops Q (o1 :: o2 :: rest) a w := by
  cases hq : P.info? t with
  | none => rw [hq] at hz; simp at hz
  | some it =>
    rw [hq] at hz
    cases hzz : it.zero with
    | none => simp [hzz] at hz
    | some z =>
      simp only [Option.bind_some, hzz, Option.map_some, Option.some.injEq] at hz
      refine run_to hg1 (some d) hd1 (.pointer (some ⟨w.heap.size, 0, none⟩)) (w.alloc (.cells z.cells t)) ?_ ?_
      · simp [execOp, ho1, Instr.alloc, zeroValue, typeInfo, hq, hzz, newVar, newRow]
      · refine wpList_store_rowTo hg2 t (.tmp d) y ho2 hd2 w.heap.size cells hx hy t z.cells (heap_alloc_last _ _) (by rw [hq] at hi ⊢; exact hi) hz h1 ?_
        rw [World.setRow_alloc_new]
        exact h
/-- A part of a whole value by its index. -/
theorem index_to {ops : Array Oper} {rest : List Oper} {o : Oper} {a : Act} {w : World} {Q : Exit → Act → World → Prop} (hg : o.guard = none) (dst : Option Tmp) (hdst : o.dst = dst)
    (ty : TypeId) (x i : Operand) (ho : o.op = .index ty x i) (X I v : Value) (hx : a.eval x = X) (hi : a.eval i = I) (hrun : (Instr.index ty X I).run P w = .ok v w)
    (h : wpList P ops Q rest (a.put dst v) w) : wpList P ops Q (o :: rest) a w :=
  run_to hg dst hdst v w (by simp [execOp, ho, hx, hi, hrun]) h
end
end Go.Proofs.YthlgjbmkealjjaaGreatDoor

namespace Go.Proofs.YthlgjbmkealjjaaGreatDoor
open Go.RowKit
set_option linter.unusedVariables false
section
variable {P : Program} {ops : Array Oper} {Q : Exit → Act → World → Prop}
/-- Frames that differ in some slots alone. -/
structure FrameOnly (D : List Nat) (a b : Act) : Prop where
  size : b.tmps.size = a.tmps.size
  defers : b.defers = a.defers
  same : ∀ t, t ∉ D → b.tmps[t]? = a.tmps[t]?
theorem FrameOnly.refl (D : List Nat) (a : Act) : FrameOnly D a a := ⟨rfl, rfl, fun _ _ => rfl⟩
theorem FrameOnly.put {D : List Nat} {a b : Act} (h : FrameOnly D a b) (x : Option Nat) (hx : ∀ d, x = some d → d ∈ D) (v : Value) : FrameOnly D a (b.put x v) := by
  cases x with
  | none => exact h
  | some d =>
    refine ⟨by simp [Act.put, h.size], h.defers, fun t ht => ?_⟩
    have : d ≠ t := fun e => ht (e ▸ hx d rfl)
    simp only [Act.put]
    rw [Array.getElem?_setIfInBounds_ne this]
    exact h.same t ht
theorem FrameOnly.eval {D : List Nat} {a b : Act} (h : FrameOnly D a b) {t : Nat} (ht : t ∉ D) : b.eval (.tmp t) = a.eval (.tmp t) := by
  simp only [Act.eval, Array.getD_eq_getD_getElem?, h.same t ht]
theorem puts_get (b : Act) (D : List Nat) : ∀ (a : Act) (t : Nat), (D.foldl (fun x d => x.put (some d) (b.eval (.tmp d))) a).tmps[t]? = if t ∈ D ∧ t < a.tmps.size then some (b.eval (.tmp t)) else a.tmps[t]? := by
  induction D with
  | nil => intro a t; simp
  | cons d D ih =>
    intro a t
    rw [List.foldl_cons, ih]
    simp only [Act.put, Array.size_setIfInBounds, List.mem_cons]
    by_cases h1 : t ∈ D ∧ t < a.tmps.size
    · rw [if_pos h1, if_pos ⟨.inr h1.1, h1.2⟩]
    · rw [if_neg h1]
      by_cases h2 : t = d
      · subst h2
        by_cases h3 : t < a.tmps.size
        · rw [if_pos ⟨.inl rfl, h3⟩, Array.getElem?_setIfInBounds_self_of_lt h3]
        · rw [if_neg (fun h => h3 h.2), Array.getElem?_eq_none (by simpa using h3), Array.getElem?_eq_none (by simpa using h3)]
      · rw [if_neg (fun h => h.1.elim h2 fun h4 => h1 ⟨h4, h.2⟩), Array.getElem?_setIfInBounds_ne (fun e => h2 e.symm)]
theorem puts_def (b : Act) (D : List Nat) : ∀ a : Act, (D.foldl (fun x d => x.put (some d) (b.eval (.tmp d))) a).defers = a.defers := by
  induction D with
  | nil => intro a; rfl
  | cons d D ih => intro a; rw [List.foldl_cons, ih]; rfl
/-- The frame behind, written out. -/
theorem FrameOnly.out {D : List Nat} {a b : Act} (h : FrameOnly D a b) : b = D.foldl (fun x d => x.put (some d) (b.eval (.tmp d))) a := by
  have h1 : b.tmps = (D.foldl (fun x d => x.put (some d) (b.eval (.tmp d))) a).tmps := by
    apply Array.ext_getElem?
    intro t
    rw [puts_get]
    by_cases ht : t ∈ D ∧ t < a.tmps.size
    · rw [if_pos ht]
      simp only [Act.eval, Array.getD_eq_getD_getElem?]
      rw [Array.getElem?_eq_getElem (by rw [h.size]; exact ht.2)]
      rfl
    · rw [if_neg ht]
      by_cases h2 : t ∈ D
      · have h3 : ¬ t < a.tmps.size := fun h3 => ht ⟨h2, h3⟩
        rw [Array.getElem?_eq_none (by rw [h.size]; omega), Array.getElem?_eq_none (by omega)]
      · exact h.same t h2
  have h2 := puts_def b D a
  rw [← h.defers] at h2
  generalize D.foldl (fun x d => x.put (some d) (b.eval (.tmp d))) a = c at *
  cases b; cases c
  simp_all
/-- i is done, too. -/
def upd (L : Nat → Bool) (i : Nat) : Nat → Bool := fun j => if j = i then true else L j
theorem wanted_free {o : Oper} (h : o.guard = none) (l : List Nat) (t : Array Value) : Region.wanted o (yielded ops t) = true := by simp [Region.wanted, h]
theorem unlisted_set {L : Array Bool} {i : Nat} (hi : L.getD i true = false) : (L.setIfInBounds i true).toList.count false + 1 = L.toList.count false := by
  have hlt : i < L.size := by
    rcases Nat.lt_or_ge i L.size with h | h
    · exact h
    · rw [Array.getD_eq_getD_getElem?, Array.getElem?_eq_none h] at hi; cases hi
  rw [Array.getD_eq_getD_getElem?, Array.getElem?_eq_getElem hlt] at hi
  simp only [Option.getD_some] at hi
  rw [Array.toList_setIfInBounds]
  have hlt' : i < L.toList.length := by simpa using hlt
  have hd : L.toList = L.toList.take i ++ false :: L.toList.drop (i + 1) := by
    conv => lhs; rw [← List.take_append_drop i L.toList, List.drop_eq_getElem_cons hlt']
    rw [show L.toList[i] = false by simpa using hi]
  rw [List.set_eq_take_append_cons_drop, if_pos hlt']
  conv => rhs; rw [hd]
  simp only [List.count_append, List.count_cons]
  simp
  omega
/-- What is asked of a region's text. -/
def regFits (ops : Array Oper) (D : List Nat) : Bool :=
  (List.range ops.size).all fun i => match ops[i]? with
    | none => false
    | some o => o.guard.isNone && (match o.dst with | none => true | some d => D.contains d && (List.range ops.size).all fun j => j == i || (match ops[j]? with | none => true | some oj => oj.dst != some d)) && o.after.all fun e => !Region.binds .any e || decide (e.on < i)
theorem regFits_at {D : List Nat} (h : regFits ops D = true) {i : Nat} {o : Oper} (ho : ops[i]? = some o) :
    o.guard = none ∧ (∀ d, o.dst = some d → d ∈ D ∧ ∀ j oj, ops[j]? = some oj → oj.dst = some d → j = i) ∧ ∀ e ∈ o.after, Region.binds .any e = true → e.on < i := by
  have hlt : i < ops.size := (Array.getElem?_eq_some_iff.1 ho).1
  unfold regFits at h
  rw [List.all_eq_true] at h
  have hi := h i (List.mem_range.2 hlt)
  rw [ho] at hi
  simp only [Bool.and_eq_true] at hi
  obtain ⟨⟨h1, h2⟩, h3⟩ := hi
  refine ⟨by simpa using h1, fun d hd => ?_, fun e he hb => ?_⟩
  · rw [hd] at h2
    simp only [Bool.and_eq_true] at h2
    refine ⟨by simpa using h2.1, fun j oj hj hdj => ?_⟩
    have h4 := List.all_eq_true.1 h2.2 j (List.mem_range.2 (Array.getElem?_eq_some_iff.1 hj).1)
    rw [hj] at h4
    simp only [hdj, bne_self_eq_false, Bool.or_false, beq_iff_eq] at h4
    exact h4
  · have h4 := Array.all_eq_true'.1 h3 e he
    rw [hb] at h4
    simpa using h4
theorem wpAny_steps {D : List Nat} {a : Act} (G : (Nat → Bool) → World → Prop) (T : (Nat → Bool) → Nat → Value → World → Prop) (hfit : regFits ops D = true)
    (hs : ∀ i o, ops[i]? = some o → ∀ (L : Nat → Bool) b v, L i = false → (∀ e ∈ o.after, Region.binds .any e = true → L e.on = true) → (∀ k ok, ops[k]? = some ok → L k = true → ∀ e ∈ ok.after, Region.binds .any e = true → L e.on = true) → FrameOnly D a b → (∀ j oj d, ops[j]? = some oj → oj.dst = some d → L j = false → b.tmps[d]? = a.tmps[d]?) → G L v → (∀ j oj d, ops[j]? = some oj → oj.dst = some d → L j = true → T L j (b.eval (.tmp d)) v) →
      o.wp P b v (fun b' v' => ∃ u, b' = b.put o.dst u ∧ G (upd L i) v' ∧ T (upd L i) i u v' ∧ ∀ j oj d, ops[j]? = some oj → oj.dst = some d → j ≠ i → L j = true → T L j (b.eval (.tmp d)) v → T (upd L i) j (b.eval (.tmp d)) v') Q)
    (he : ∀ b v, FrameOnly D a b → G (fun i => decide (i < ops.size)) v → (∀ j oj d, ops[j]? = some oj → oj.dst = some d → T (fun i => decide (i < ops.size)) j (b.eval (.tmp d)) v) → Q .normal b v) :
    ∀ (fuel : Nat) (listed : Array Bool) b v, listed.size = ops.size → (∀ k ok, ops[k]? = some ok → listed.getD k false = true → ∀ e ∈ ok.after, Region.binds .any e = true → listed.getD e.on false = true) → listed.toList.count false ≤ fuel → (∀ t, b.tmps.size ≤ t → t ∉ D) → FrameOnly D a b → (∀ j oj d, ops[j]? = some oj → oj.dst = some d → listed.getD j false = false → b.tmps[d]? = a.tmps[d]?) → G (fun i => listed.getD i false) v → (∀ j oj d, ops[j]? = some oj → oj.dst = some d → listed.getD j false = true → T (fun i => listed.getD i false) j (b.eval (.tmp d)) v) →
      wpAny P .any ops Q fuel listed b v := by
  have hall : ∀ listed : Array Bool, listed.size = ops.size → Region.ready .any ops listed = [] → ∀ i, i < ops.size → listed.getD i false = true := by
    intro listed hsz hr i
    induction i using Nat.strongRecOn with
    | _ i ih =>
      intro hi
      cases hc : listed.getD i false with
      | true => rfl
      | false =>
        exfalso
        obtain ⟨o, ho⟩ : ∃ o, ops[i]? = some o := ⟨_, Array.getElem?_eq_getElem hi⟩
        have hmem : i ∈ Region.ready .any ops listed := by
          unfold Region.ready
          rw [List.mem_filter]
          refine ⟨List.mem_range.2 hi, ?_⟩
          have h1 : listed.getD i true = false := by
            rw [Array.getD_eq_getD_getElem?, Array.getElem?_eq_getElem (by omega)] at hc ⊢
            exact hc
          rw [h1, ho]
          simp only [Bool.not_false, Bool.true_and, Option.map_some, Option.getD_some]
          rw [Array.all_eq_true']
          intro e he2
          by_cases hb : Region.binds .any e = true
          · rw [ih e.on ((regFits_at hfit ho).2.2 e he2 hb) (Nat.lt_trans ((regFits_at hfit ho).2.2 e he2 hb) hi)]; simp
          · simp [hb]
        rw [hr] at hmem
        cases hmem
  have hend : ∀ listed : Array Bool, listed.size = ops.size → Region.ready .any ops listed = [] → ∀ b v, FrameOnly D a b → G (fun i => listed.getD i false) v → (∀ j oj d, ops[j]? = some oj → oj.dst = some d → listed.getD j false = true → T (fun i => listed.getD i false) j (b.eval (.tmp d)) v) → Q .normal b v := by
    intro listed hsz hr b v hf hg ht
    have h1 := hall listed hsz hr
    have h2 : (fun i => listed.getD i false) = fun i => decide (i < ops.size) := by
      funext i
      by_cases hi : i < ops.size
      · rw [h1 i hi]; simp [hi]
      · rw [Array.getD_eq_getD_getElem?, Array.getElem?_eq_none (by omega)]; simp [hi]
    rw [h2] at hg ht
    exact he b v hf hg fun j oj d hj hd => ht j oj d hj hd (h1 j (Array.getElem?_eq_some_iff.1 hj).1)
  intro fuel
  induction fuel with
  | zero =>
    intro listed b v hsz hcl hc hD hf hn hg ht
    have hr : Region.ready .any ops listed = [] := by
      unfold Region.ready
      rw [List.filter_eq_nil_iff]
      intro i hi hcon
      simp only [Bool.and_eq_true, Bool.not_eq_true'] at hcon
      have := unlisted_set hcon.1
      omega
    exact ⟨hr, hend listed hsz hr b v hf hg ht⟩
  | succ fuel ih =>
    intro listed b v hsz hcl hc hD hf hn hg ht
    refine ⟨fun hr => hend listed hsz hr b v hf hg ht, fun i hi => ?_⟩
    unfold Region.ready at hi
    rw [List.mem_filter] at hi
    obtain ⟨hi1, hi2⟩ := hi
    have hlt := List.mem_range.1 hi1
    obtain ⟨o, ho⟩ : ∃ o, ops[i]? = some o := ⟨_, Array.getElem?_eq_getElem hlt⟩
    rw [ho] at hi2
    simp only [Bool.and_eq_true, Bool.not_eq_true', Option.map_some, Option.getD_some] at hi2
    obtain ⟨hu, hdep⟩ := hi2
    have hu' : listed.getD i false = false := by
      rw [Array.getD_eq_getD_getElem?, Array.getElem?_eq_getElem (by omega)] at hu ⊢
      exact hu
    obtain ⟨f1, f2, f3⟩ := regFits_at hfit ho
    unfold wpOp
    rw [ho]
    simp only
    rw [if_pos (wanted_free f1 [] _)]
    refine .inl (Oper.wp_mono ?_ (hs i o ho (fun i => listed.getD i false) b v hu' (fun e he2 hb => by
      have := Array.all_eq_true'.1 hdep e he2
      rw [hb] at this
      simpa using this) hcl hf hn hg ht))
    rintro b' v' ⟨u, rfl, hg', hti, hst⟩
    have hL : (fun j => (listed.setIfInBounds i true).getD j false) = upd (fun j => listed.getD j false) i := by
      funext j
      unfold upd
      by_cases hj : j = i
      · subst hj
        rw [if_pos rfl, Array.getD_eq_getD_getElem?, Array.getElem?_setIfInBounds_self_of_lt (by omega)]; rfl
      · rw [if_neg hj, Array.getD_eq_getD_getElem?, Array.getElem?_setIfInBounds_ne (fun e => hj e.symm), ← Array.getD_eq_getD_getElem?]
    have hL2 : ∀ j, (listed.setIfInBounds i true).getD j false = upd (fun j => listed.getD j false) i j := fun j => congrFun hL j
    refine ih _ _ _ (by simpa using hsz) (fun k ok hk hlk e he2 hb => ?_) (by have := unlisted_set hu; omega) ?_ (hf.put o.dst (fun d hd => (f2 d hd).1) u) (fun j oj d hj hd hl => ?_) (by rw [hL]; exact hg') ?_
    · rw [hL2] at hlk ⊢
      unfold upd at hlk ⊢
      by_cases hki : k = i
      · subst hki
        rw [ho] at hk
        injection hk with hk
        subst hk
        have h5 := Array.all_eq_true'.1 hdep e he2
        rw [hb] at h5
        have h6 : listed.getD e.on false = true := by simpa using h5
        split
        · rfl
        · exact h6
      · rw [if_neg hki] at hlk
        split
        · rfl
        · exact hcl k ok hk hlk e he2 hb
    · intro t ht2
      refine hD t ?_
      cases hdst : o.dst with
      | none => rw [hdst] at ht2; exact ht2
      | some d => rw [hdst] at ht2; simpa [Act.put] using ht2
    · rw [hL2] at hl
      have hji : j ≠ i := fun e => by rw [e] at hl; unfold upd at hl; rw [if_pos rfl] at hl; cases hl
      have hl3 : listed.getD j false = false := by unfold upd at hl; rw [if_neg hji] at hl; exact hl
      rw [← hn j oj d hj hd hl3]
      have hne : o.dst ≠ some d := fun e => hji ((f2 d e).2 j oj hj hd)
      cases hdst : o.dst with
      | none => rfl
      | some d2 =>
        have hd2 : d2 ≠ d := fun e => hne (by rw [hdst, e])
        simp [Act.put, hd2]
    · intro j oj d hj hd hl
      have hl' : (listed.setIfInBounds i true).getD j false = upd (fun j => listed.getD j false) i j := congrFun hL j
      rw [hl'] at hl
      rw [hL]
      by_cases hji : j = i
      · subst hji
        rw [ho] at hj
        injection hj with hj
        subst hj
        have hdD := (f2 d hd).1
        have hds : d < b.tmps.size := by
          rcases Nat.lt_or_ge d b.tmps.size with h | h
          · exact h
          · exact absurd hdD (hD d h)
        have : (b.put o.dst u).eval (.tmp d) = u := by
          rw [hd]
          simp [Act.put, Act.eval, Array.getD_eq_getD_getElem?, hds]
        rw [this]
        exact hti
      · unfold upd at hl
        rw [if_neg hji] at hl
        have hne : o.dst ≠ some d := fun e => hji ((f2 d e).2 j oj hj hd)
        have : (b.put o.dst u).eval (.tmp d) = b.eval (.tmp d) := by
          cases hdst : o.dst with
          | none => rfl
          | some d2 =>
            have hd2 : d2 ≠ d := fun e => hne (by rw [hdst, e])
            simp [Act.put, Act.eval, Array.getD_eq_getD_getElem?, hd2]
        rw [this]
        exact hst j oj d hj hd hji hl (ht j oj d hj hd hl)
/-- A drawn region, by what each operation asks and leaves. -/
theorem region_steps {id : Nat} {a : Act} {w : World} (hm : P.follows .mixedOrders = true) (D : List Nat) (G : (Nat → Bool) → World → Prop) (T : (Nat → Bool) → Nat → Value → World → Prop) (hfit : regFits ops D = true) (hD : ∀ t, a.tmps.size ≤ t → t ∉ D)
    (h0 : G (fun _ => false) w.drew)
    (hs : ∀ i o, ops[i]? = some o → ∀ (L : Nat → Bool) b v, L i = false → (∀ e ∈ o.after, Region.binds .any e = true → L e.on = true) → (∀ k ok, ops[k]? = some ok → L k = true → ∀ e ∈ ok.after, Region.binds .any e = true → L e.on = true) → FrameOnly D a b → (∀ j oj d, ops[j]? = some oj → oj.dst = some d → L j = false → b.tmps[d]? = a.tmps[d]?) → G L v → (∀ j oj d, ops[j]? = some oj → oj.dst = some d → L j = true → T L j (b.eval (.tmp d)) v) →
      o.wp P b v (fun b' v' => ∃ u, b' = b.put o.dst u ∧ G (upd L i) v' ∧ T (upd L i) i u v' ∧ ∀ j oj d, ops[j]? = some oj → oj.dst = some d → j ≠ i → L j = true → T L j (b.eval (.tmp d)) v → T (upd L i) j (b.eval (.tmp d)) v') Q)
    (he : ∀ b v, FrameOnly D a b → G (fun i => decide (i < ops.size)) v → (∀ j oj d, ops[j]? = some oj → oj.dst = some d → T (fun i => decide (i < ops.size)) j (b.eval (.tmp d)) v) → Q .normal b v) : (Code.region id ops true).wp P Q a w := by
  refine wp_region_any hm (wpAny_steps G T hfit hs he ops.size (Array.replicate ops.size false) a w.drew (by simp) (fun k ok _ hl => ?_) (by simp) hD (FrameOnly.refl D a) (fun _ _ _ _ _ _ => rfl) ?_ ?_)
  · rw [Array.getD_eq_getD_getElem?, Array.getElem?_replicate] at hl
    split at hl <;> cases hl
  · have : (fun i => (Array.replicate ops.size false).getD i false) = fun _ => false := by
      funext i
      rw [Array.getD_eq_getD_getElem?, Array.getElem?_replicate]
      split <;> rfl
    rw [this]
    exact h0
  · intro j oj d hj hd hl
    rw [Array.getD_eq_getD_getElem?, Array.getElem?_replicate] at hl
    split at hl <;> cases hl
/-- What one operation owes. -/
def StepOk (P : Program) (ops : Array Oper) (Q : Exit → Act → World → Prop) (D : List Nat) (a : Act) (G : (Nat → Bool) → World → Prop) (T : (Nat → Bool) → Nat → Value → World → Prop) (i : Nat) (o : Oper) : Prop :=
  ∀ (L : Nat → Bool) b v, L i = false → (∀ k, k ∈ (o.after.toList.filter fun e => Region.binds .any e).map (·.on) → L k = true) → (∀ j oj k, ops[j]? = some oj → L j = true → k ∈ (oj.after.toList.filter fun e => Region.binds .any e).map (·.on) → L k = true) → FrameOnly D a b → G L v → (∀ j oj d, ops[j]? = some oj → oj.dst = some d → L j = true → T L j (b.eval (.tmp d)) v) →
      o.wp P b v (fun b' v' => ∃ u, b' = b.put o.dst u ∧ G (upd L i) v' ∧ T (upd L i) i u v' ∧ ∀ j oj d, ops[j]? = some oj → oj.dst = some d → j ≠ i → L j = true → T L j (b.eval (.tmp d)) v → T (upd L i) j (b.eval (.tmp d)) v') Q
def AllOps (F : Nat → Oper → Prop) : Nat → List Oper → Prop
  | _, [] => True
  | k, o :: l => F k o ∧ AllOps F (k + 1) l
theorem allOps_at {F : Nat → Oper → Prop} : ∀ (l : List Oper) (k : Nat), AllOps F k l → ∀ i o, l[i]? = some o → F (k + i) o
  | [], _, _, i, o, h => by simp at h
  | x :: l, k, ha, 0, o, h => by
    simp at h
    subst h
    exact ha.1
  | x :: l, k, ha, i + 1, o, h => by
    have := allOps_at l (k + 1) ha.2 i o (by simpa using h)
    rwa [show k + (i + 1) = k + 1 + i by omega]
/-- A drawn region, its operations listed. -/
theorem region_ops {id : Nat} {l : List Oper} {a : Act} {w : World} (hm : P.follows .mixedOrders = true) (D : List Nat) (G : (Nat → Bool) → World → Prop) (T : (Nat → Bool) → Nat → Value → World → Prop) (hfit : regFits l.toArray D = true) (hD : ∀ t, a.tmps.size ≤ t → t ∉ D)
    (h0 : G (fun _ => false) w.drew) (hs : AllOps (StepOk P l.toArray Q D a G T) 0 l)
    (he : ∀ b v, FrameOnly D a b → G (fun i => decide (i < l.toArray.size)) v → (∀ j oj d, l.toArray[j]? = some oj → oj.dst = some d → T (fun i => decide (i < l.toArray.size)) j (b.eval (.tmp d)) v) → Q .normal b v) : (Code.region id l.toArray true).wp P Q a w :=
  region_steps hm D G T hfit hD h0 (fun i o ho L b v hi hdep hcl hf hn hg ht => by
    have := allOps_at l 0 hs i o (by simpa using ho)
    rw [Nat.zero_add] at this
    refine this L b v hi (fun k hk => ?_) (fun j oj k hj hl hk => ?_) hf hg ht
    · obtain ⟨e, he2, rfl⟩ := List.mem_map.1 hk
      obtain ⟨h1, h2⟩ := List.mem_filter.1 he2
      exact hdep e (by simpa using h1) h2
    · obtain ⟨e, he2, rfl⟩ := List.mem_map.1 hk
      obtain ⟨h1, h2⟩ := List.mem_filter.1 he2
      exact hcl j oj hj hl e (by simpa using h1) h2) he
/-- What one operation owes; slots of operations to come are as they were. -/
def StepOkN (P : Program) (ops : Array Oper) (Q : Exit → Act → World → Prop) (D : List Nat) (a : Act) (G : (Nat → Bool) → World → Prop) (T : (Nat → Bool) → Nat → Value → World → Prop) (i : Nat) (o : Oper) : Prop :=
  ∀ (L : Nat → Bool) b v, L i = false → (∀ k, k ∈ (o.after.toList.filter fun e => Region.binds .any e).map (·.on) → L k = true) → (∀ j oj k, ops[j]? = some oj → L j = true → k ∈ (oj.after.toList.filter fun e => Region.binds .any e).map (·.on) → L k = true) → FrameOnly D a b → (∀ j oj d, ops[j]? = some oj → oj.dst = some d → L j = false → b.eval (.tmp d) = a.eval (.tmp d)) → G L v → (∀ j oj d, ops[j]? = some oj → oj.dst = some d → L j = true → T L j (b.eval (.tmp d)) v) →
      o.wp P b v (fun b' v' => ∃ u, b' = b.put o.dst u ∧ G (upd L i) v' ∧ T (upd L i) i u v' ∧ ∀ j oj d, ops[j]? = some oj → oj.dst = some d → j ≠ i → L j = true → T L j (b.eval (.tmp d)) v → T (upd L i) j (b.eval (.tmp d)) v') Q
/-- A drawn region, its operations listed. -/
theorem region_opsN {id : Nat} {l : List Oper} {a : Act} {w : World} (hm : P.follows .mixedOrders = true) (D : List Nat) (G : (Nat → Bool) → World → Prop) (T : (Nat → Bool) → Nat → Value → World → Prop) (hfit : regFits l.toArray D = true) (hD : ∀ t, a.tmps.size ≤ t → t ∉ D)
    (h0 : G (fun _ => false) w.drew) (hs : AllOps (StepOkN P l.toArray Q D a G T) 0 l)
    (he : ∀ b v, FrameOnly D a b → G (fun i => decide (i < l.toArray.size)) v → (∀ j oj d, l.toArray[j]? = some oj → oj.dst = some d → T (fun i => decide (i < l.toArray.size)) j (b.eval (.tmp d)) v) → Q .normal b v) : (Code.region id l.toArray true).wp P Q a w :=
  region_steps hm D G T hfit hD h0 (fun i o ho L b v hi hdep hcl hf hn hg ht => by
    have := allOps_at l 0 hs i o (by simpa using ho)
    rw [Nat.zero_add] at this
    refine this L b v hi (fun k hk => ?_) (fun j oj k hj hl hk => ?_) hf (fun j oj d hj hd hl => by simp only [Act.eval, Array.getD_eq_getD_getElem?, hn j oj d hj hd hl]) hg ht
    · obtain ⟨e, he2, rfl⟩ := List.mem_map.1 hk
      obtain ⟨h1, h2⟩ := List.mem_filter.1 he2
      exact hdep e (by simpa using h1) h2
    · obtain ⟨e, he2, rfl⟩ := List.mem_map.1 hk
      obtain ⟨h1, h2⟩ := List.mem_filter.1 he2
      exact hcl j oj hj hl e (by simpa using h1) h2) he
/-- The frame and what follows as letters. -/
theorem region_letters {id : Nat} {l : Array Oper} {a : Act} {w : World} (h : ∀ (a' : Act) (Q' : Exit → Act → World → Prop), a' = a → (∀ b v, Q .normal b v → Q' .normal b v) → (Code.region id l true).wp P Q' a' w) : (Code.region id l true).wp P Q a w := h a Q rfl fun _ _ h => h
theorem dst_at {j : Nat} {oj : Oper} {d : Nat} {k : Option Nat} (h : ops[j]? = some oj) (hd : oj.dst = some d) (hk : (ops[j]?).bind (·.dst) = k) : k = some d := by
  rw [← hk, h]
  exact hd
theorem upd_false {L : Nat → Bool} {i k : Nat} (h : upd L i k = false) : L k = false := by
  unfold upd at h
  split at h
  · cases h
  · exact h
theorem upd_true {L : Nat → Bool} {i k : Nat} (h : L k = true) : upd L i k = true := by
  unfold upd
  split
  · rfl
  · exact h
theorem upd_self (L : Nat → Bool) (i : Nat) : upd L i i = true := by unfold upd; rw [if_pos rfl]
theorem upd_other {L : Nat → Bool} {i k : Nat} (h : k ≠ i) : upd L i k = L k := by unfold upd; rw [if_neg h]
theorem exec_row {ev : Operand → Value} {o : Oper} {v : World} (ty : TypeId) (x : Operand) (ho : o.op = .load ty x) (g : Nat) (hx : ev x = .pointer (some ⟨g, 0, none⟩)) (t : TypeId) (cs : Array Value) (fr : Nat × Nat) (d : TypeDesc) (hg : v.heap[g]? = some (.cells cs t fr))
    (hu : P.underlying ty = some d) (hd : (match d with | .struct _ | .array _ _ => true | _ => false) = true) (hi : (P.info? ty).map (·.size) = some cs.size) : (execOp ev o).run P v = .ok (.value (.agg cs)) v := by
  unfold execOp
  simp only [ho, hx, Instr.loadAt, Instr.sureAddr, Sem.run_bind, Sem.run_pure, Result.andThen_ok, run_loadVar_row v g t ty cs fr d hg hu hd hi]
theorem exec_move {ev : Operand → Value} {o : Oper} {v : World} (x : Operand) (ho : o.op = .move x) : (execOp ev o).run P v = .ok (.value (ev x)) v := by
  unfold execOp; simp only [ho]; rfl
theorem exec_assign {ev : Operand → Value} {o : Oper} {v : World} (x : Operand) (ho : o.op = .assign x) : (execOp ev o).run P v = .ok (.value (ev x)) v := by
  unfold execOp; simp only [ho]; rfl
theorem exec_extract {ev : Operand → Value} {o : Oper} {v : World} (x : Operand) (i : Nat) (ho : o.op = .extract x i) (vs : Array Value) (u : Value) (hx : ev x = .tuple vs) (hu : vs[i]? = some u) : (execOp ev o).run P v = .ok (.value u) v := by
  unfold execOp; simp only [ho, hx]; simp [go_sem, hu]
theorem exec_alloc {ev : Operand → Value} {o : Oper} {v : World} (T : TypeId) (ho : o.op = .alloc T) (cs : Array Value) (hz : (zeroValue T).run P v = .ok (.agg cs) v) : (execOp ev o).run P v = .ok (.value (.pointer (some ⟨v.heap.size, 0, none⟩))) (v.alloc (.cells cs T)) := by
  unfold execOp
  simp only [ho]
  go_simp
theorem exec_store_row {ev : Operand → Value} {o : Oper} {v : World} (ty : TypeId) (x y : Operand) (ho : o.op = .store ty x y) (g : Nat) (cells : Array Value) (hx : ev x = .pointer (some ⟨g, 0, none⟩)) (hy : ev y = .agg cells)
    (t : TypeId) (old : Array Value) (hg : v.heap[g]? = some (.cells old t (0, 0))) (hi : (P.info? ty).map (·.size) = some cells.size) (hold : old.size = cells.size) (h1 : cells.all (·.oneCell') = true) : (execOp ev o).run P v = .ok .skip (v.setRow g cells) := by
  unfold execOp
  simp only [ho, hx, hy, Instr.storeAt, Instr.sureAddr, Sem.run_bind, Sem.run_pure, Result.andThen_ok, run_storeVar_row v g t ty old cells hg hi hold h1]
variable {D : List Nat} {a : Act} {G : (Nat → Bool) → World → Prop} {T : (Nat → Bool) → Nat → Value → World → Prop}
/-- An operation that leaves memory as it is. -/
theorem still_ok {b : Act} {v : World} {L : Nat → Bool} {i : Nat} {o : Oper} (u : Value) (hr : (execOp b.eval o).run P v = .ok (.value u) v) (hg : G (upd L i) v) (ht : T (upd L i) i u v) (hst : ∀ j oj d, ops[j]? = some oj → oj.dst = some d → j ≠ i → L j = true → T L j (b.eval (.tmp d)) v → T (upd L i) j (b.eval (.tmp d)) v) :
    o.wp P b v (fun b' v' => ∃ u, b' = b.put o.dst u ∧ G (upd L i) v' ∧ T (upd L i) i u v' ∧ ∀ j oj d, ops[j]? = some oj → oj.dst = some d → j ≠ i → L j = true → T L j (b.eval (.tmp d)) v → T (upd L i) j (b.eval (.tmp d)) v') Q := by
  unfold Oper.wp
  rw [hr, Oper.upon_value]
  exact ⟨u, rfl, hg, ht, hst⟩
/-- A store. -/
theorem skip_ok {b : Act} {v v2 : World} {L : Nat → Bool} {i : Nat} {o : Oper} (hr : (execOp b.eval o).run P v = .ok .skip v2) (hg : G (upd L i) v2) (ht : T (upd L i) i undef v2) (hst : ∀ j oj d, ops[j]? = some oj → oj.dst = some d → j ≠ i → L j = true → T L j (b.eval (.tmp d)) v → T (upd L i) j (b.eval (.tmp d)) v2) :
    o.wp P b v (fun b' v' => ∃ u, b' = b.put o.dst u ∧ G (upd L i) v' ∧ T (upd L i) i u v' ∧ ∀ j oj d, ops[j]? = some oj → oj.dst = some d → j ≠ i → L j = true → T L j (b.eval (.tmp d)) v → T (upd L i) j (b.eval (.tmp d)) v') Q := by
  unfold Oper.wp
  rw [hr, Oper.upon_skip]
  exact ⟨undef, rfl, hg, ht, hst⟩
/-- An operation that leaves another memory. -/
theorem makes_ok {b : Act} {v v2 : World} {L : Nat → Bool} {i : Nat} {o : Oper} (u : Value) (hr : (execOp b.eval o).run P v = .ok (.value u) v2) (hg : G (upd L i) v2) (ht : T (upd L i) i u v2) (hst : ∀ j oj d, ops[j]? = some oj → oj.dst = some d → j ≠ i → L j = true → T L j (b.eval (.tmp d)) v → T (upd L i) j (b.eval (.tmp d)) v2) :
    o.wp P b v (fun b' v' => ∃ u, b' = b.put o.dst u ∧ G (upd L i) v' ∧ T (upd L i) i u v' ∧ ∀ j oj d, ops[j]? = some oj → oj.dst = some d → j ≠ i → L j = true → T L j (b.eval (.tmp d)) v → T (upd L i) j (b.eval (.tmp d)) v') Q := by
  unfold Oper.wp
  rw [hr, Oper.upon_value]
  exact ⟨u, rfl, hg, ht, hst⟩
/-- A call. -/
theorem call_ok {b : Act} {v : World} {L : Nat → Bool} {i : Nat} {o : Oper} (f : FuncId) (xs : Array Operand) (ts : Array TypeId) (ho : o.op = .call { callee := .value (.func f), args := xs, argTypes := ts }) (vs : Array Value) (hx : xs.map b.eval = vs)
    (ent : ∀ args w, (callFunc f args).run P w = .ok (.enter f args) w)
    (hc : Calls P f vs v fun e v' => ∃ u, e = .returned u ∧ G (upd L i) v' ∧ T (upd L i) i u v' ∧ ∀ j oj d, ops[j]? = some oj → oj.dst = some d → j ≠ i → L j = true → T L j (b.eval (.tmp d)) v → T (upd L i) j (b.eval (.tmp d)) v') :
    o.wp P b v (fun b' v' => ∃ u, b' = b.put o.dst u ∧ G (upd L i) v' ∧ T (upd L i) i u v' ∧ ∀ j oj d, ops[j]? = some oj → oj.dst = some d → j ≠ i → L j = true → T L j (b.eval (.tmp d)) v → T (upd L i) j (b.eval (.tmp d)) v') Q := by
  unfold Oper.wp execOp
  simp only [ho, resolve, Deferred.ofValue, Act.eval, invoke, Sem.run_bind, Sem.run_pure, Result.andThen_ok, Array.append_empty]
  rw [show (Array.map b.eval xs) = vs from hx]
  rw [ent, Oper.upon_enter, Array.empty_append]
  refine hc.mono ?_
  rintro e v' ⟨u, rfl, h⟩
  exact ⟨u, rfl, h⟩
end
end Go.Proofs.YthlgjbmkealjjaaGreatDoor

namespace Go.Proofs.YthlgjbmkealjjaaGreatDoor
open Go.RowKit
set_option linter.unusedVariables false
section
variable {P : Program}
theorem exec_append {ev : Operand → Value} {o : Oper} {v v2 : World} (s x : Operand) (t : TypeId) (ho : o.op = .call { callee := .builtin .append, args := #[s, x], argTypes := #[t, t] }) (vs vx u : Value) (hs : ev s = vs) (hx : ev x = vx)
    (hr : (Builtin.append_ #[t, t] o.type #[vs, vx]).run P v = .ok u v2) : (execOp ev o).run P v = .ok (.value u) v2 := by
  unfold execOp
  simp only [ho, resolve, invoke, builtin, Sem.run_bind, Sem.run_pure, Result.andThen_ok, List.map_toArray, List.map_cons, List.map_nil, hs, hx, hr]
theorem exec_lit1 {ev : Operand → Value} {o : Oper} {v v2 : World} (T : TypeId) (x : Operand) (ho : o.op = .buildSlice T 1 #[(0, x)]) (vx u : Value) (hx : ev x = vx) (hr : (Instr.buildSlice T 1 #[(0, vx)]).run P v = .ok u v2) : (execOp ev o).run P v = .ok (.value u) v2 := by
  unfold execOp
  simp only [ho, List.map_toArray, List.map_cons, List.map_nil, hx, Sem.run_bind, hr, Result.andThen_ok]
  rfl
theorem exec_build2 {ev : Operand → Value} {o : Oper} {v : World} (T : TypeId) (x y : Operand) (ho : o.op = .build T #[(0, x), (1, y)]) (vx vy : Value) (hx : ev x = vx) (hy : ev y = vy) (cs : Array Value) (hb : P.built T [(0, vx), (1, vy)] = some cs) : (execOp ev o).run P v = .ok (.value (.agg cs)) v := by
  unfold execOp
  simp only [ho, List.map_toArray, List.map_cons, List.map_nil, hx, hy, Sem.run_bind, run_build v T _ cs hb, Result.andThen_ok]
  rfl
theorem exec_lit0 {ev : Operand → Value} {o : Oper} {v v2 : World} (T : TypeId) (ho : o.op = .buildSlice T 0 #[]) (u : Value) (hr : (Instr.buildSlice T 0 #[]).run P v = .ok u v2) : (execOp ev o).run P v = .ok (.value u) v2 := by
  unfold execOp
  simp only [ho, List.map_toArray, List.map_nil, Sem.run_bind, hr, Result.andThen_ok]
  rfl
theorem exec_mid {ev : Operand → Value} {o : Oper} {w : World} (ty : TypeId) (x : Operand) (ho : o.op = .load ty x)
    (g off : Nat) (hx : ev x = .pointer (some ⟨g, off, none⟩)) (cs : Array Value) (d : TypeDesc) (hc : ∀ j u, cs.toList[j]? = some u → w.cell? ⟨g, off + j, none⟩ = some u)
    (hu : P.underlying ty = some d) (hd : (match d with | .struct _ | .array _ _ => true | _ => false) = true) (hi : (P.info? ty).map (·.size) = some cs.size) : (execOp ev o).run P w = .ok (.value (.agg cs)) w := by
  have hl : (loadCells ⟨g, off, none⟩ cs.toList.length).run P w = .ok cs.toList.toArray w :=
    run_loadCells_list (P := P) w ⟨g, off, none⟩ cs.toList (fun j v hv => by
      have hadd : (⟨g, off, none⟩ : Addr).add j = ⟨g, off + j, none⟩ := by unfold Addr.add; split <;> simp_all
      rw [hadd]
      exact hc j v hv)
  cases hq : P.info? ty with
  | none => simp [hq] at hi
  | some i =>
    have hs : i.size = cs.size := by simpa [hq] using hi
    have hagg : (isAgg ty).run P w = .ok true w := by
      unfold isAgg
      rw [Sem.run_bind, run_underlying hu w]
      cases d <;> simp_all
    simp only [Array.length_toList, Array.toArray_toList] at hl
    simp [execOp, ho, hx, Instr.loadAt, Instr.sureAddr, loadVar, Sem.run_bind, hagg, sizeOf, typeInfo, hq, hs, hl]
end
theorem ownE_block {w : World} {base e sz n : Nat} {v : Value} {xs : List Value} (h : w.ownsRow base e sz v n xs) {g : Nat} (hg : v.ownBlock = some g) : g < w.heap.size ∧ ∃ cs, w.heap[g]? = some (.cells cs e (0, 0)) := by
  rcases h.2 with ⟨rfl, _⟩ | ⟨g', cap, cur, rfl, hb, hc, _⟩
  · cases hg
  · injection hg with hg
    subst hg
    exact ⟨(Array.getElem?_eq_some_iff.1 hc).1, cur, hc⟩
theorem ownE_keep {w w' : World} {base e sz n : Nat} {v : Value} {xs : List Value} (h : w.ownsRow base e sz v n xs) (hk : ∀ g, v.ownBlock = some g → w'.heap[g]? = w.heap[g]?) : w'.ownsRow base e sz v n xs := by
  refine ⟨h.1, ?_⟩
  rcases h.2 with hn | ⟨g', cap, cur, rfl, hb, hc, hr⟩
  · exact .inl hn
  · exact .inr ⟨g', cap, cur, rfl, hb, (hk g' rfl).trans hc, hr⟩
theorem own_below' {w w' : World} {b sz n : Nat} {t : TypeId} {v : Value} {xs : List Value} (h : w.ownsRow b t sz v n xs) (hb : Below w.heap.size w w') : w'.ownsRow b t sz v n xs := ownE_keep h fun g hg => hb.block _ (ownE_block h hg).1
def LitW (t : TypeId) (cs : Array Value) (k base : Nat) (u : Value) (v : World) : Prop := ∃ g, u = .slice (some ⟨g, 0, none⟩) k k ∧ base ≤ g ∧ v.heap[g]? = some (.cells cs t (0, 0))
theorem LitW.below {t : TypeId} {cs : Array Value} {k base : Nat} {u : Value} {v v' : World} (h : LitW t cs k base u v) (hb : Below v.heap.size v v') : LitW t cs k base u v' := by
  obtain ⟨g, h1, h2, h3⟩ := h
  exact ⟨g, h1, h2, (hb.block _ (Array.getElem?_eq_some_iff.1 h3).1).trans h3⟩
theorem below_grown {B base sz n : Nat} {t : TypeId} {v : Value} {xs : List Value} {a b c : World} (h : Below B a b) (ho : b.ownsRow base t sz v n xs) (hB : B ≤ base) (hg : b.grownBy c v.ownBlock) (hs : B ≤ b.heap.size) : Below B a c :=
  ⟨hg.os.trans h.os, hg.tape.trans h.tape, hg.output.trans h.output, Nat.le_trans h.size hg.size, fun k hk => (hg.block k (by omega) (fun e => by
    rcases ho.2 with ⟨rfl, _⟩ | ⟨g', cap, cur, rfl, hb', _⟩
    · cases e
    · injection e with e
      have e2 : k = g' := e
      have h2 : base ≤ g' := hb'
      omega)).trans (h.block k hk)⟩
end Go.Proofs.YthlgjbmkealjjaaGreatDoor

namespace Go.Proofs.YthlgjbmkealjjaaGreatDoor
open Go.RowKit
set_option linter.unusedVariables false
theorem wp_at {P : Program} {c : Code} {Q : Exit → Act → World → Prop} {a : Act} {w : World} (R : World → Prop) (h : R w) (k : ∀ w', R w' → c.wp P Q a w') : c.wp P Q a w := k w h
theorem below_sets {B g : Nat} {a : World} : ∀ (vs : List Value) (o : Nat) {b : World}, B ≤ g → Below B a b → Below B a (b.setCells g o vs)
  | [], _, _, _, h => h
  | v :: vs, o, b, hg, h => below_sets vs (o + 1) hg (h.setCell (p := ⟨g, o, none⟩) hg v)
theorem heap_setCells_other {g : Nat} : ∀ (vs : List Value) (o : Nat) (w : World) {k : Nat}, k ≠ g → (w.setCells g o vs).heap[k]? = w.heap[k]?
  | [], _, _, _, _ => rfl
  | v :: vs, o, w, k, hk => (heap_setCells_other vs (o + 1) _ hk).trans (heap_setCell_other _ _ _ _ (by intro e; exact hk (by first | exact e | exact e.symm)))
theorem size_setCells {g : Nat} : ∀ (vs : List Value) (o : Nat) (w : World), (w.setCells g o vs).heap.size = w.heap.size
  | [], _, _ => rfl
  | v :: vs, o, w => (size_setCells vs (o + 1) _).trans (by simp [World.setCell])
/-- A row of cells stands there. -/
def RowT (W : World) (t : TypeId) (b k : Nat) : Prop := ∃ cur, W.heap[b]? = some (.cells cur t (0, 0)) ∧ k ≤ cur.size
theorem RowT.cell {W : World} {t : TypeId} {b k i : Nat} (h : RowT W t b k) (hi : i < k) : (∃ u, W.cell? ⟨b, i, none⟩ = some u) ∧ W.frozen? ⟨b, i, none⟩ = false := by
  obtain ⟨cur, h1, h2⟩ := h
  exact ⟨⟨_, by rw [cell_of_row _ _ _ _ _ _ h1]; exact Array.getElem?_eq_getElem (by omega)⟩, by simp [World.frozen?, h1]⟩
theorem RowT.set {W : World} {t : TypeId} {b k : Nat} (h : RowT W t b k) (i : Nat) (v : Value) : RowT (W.setCell ⟨b, i, none⟩ v) t b k := by
  obtain ⟨cur, h1, h2⟩ := h
  exact ⟨_, heap_setCell_same W b i _ _ v h1, by simpa using h2⟩
theorem RowT.sets {t : TypeId} {b k : Nat} : ∀ (vs : List Value) (o : Nat) {W : World}, RowT W t b k → RowT (W.setCells b o vs) t b k
  | [], _, _, h => h
  | v :: vs, o, W, h => RowT.sets vs (o + 1) (h.set o v)
theorem RowT.there {W : World} {t : TypeId} {b k o n : Nat} (h : RowT W t b k) (hn : o + n ≤ k) : W.there b o n := fun j hj => by
  obtain ⟨⟨u, h1⟩, h2⟩ := h.cell (i := o + j) (by omega)
  exact ⟨by rw [h1]; rfl, h2⟩
theorem RowT.same {W W' : World} {t : TypeId} {b k : Nat} (h : RowT W t b k) (hb : W'.heap[b]? = W.heap[b]?) : RowT W' t b k := by
  obtain ⟨cur, h1, h2⟩ := h
  exact ⟨cur, hb.trans h1, h2⟩
theorem RowT.lt {W : World} {t : TypeId} {b k : Nat} (h : RowT W t b k) : b < W.heap.size := by
  obtain ⟨cur, h1, h2⟩ := h
  exact (Array.getElem?_eq_some_iff.1 h1).1
theorem own_rowT {w : World} {base sz n c : Nat} {t : TypeId} {A : Option Addr} {xs : List Value} (h : w.ownsRow base t sz (.slice A n c) n xs) (hn : 0 < n) : ∃ g, A = some ⟨g, 0, none⟩ ∧ base ≤ g ∧ g < w.heap.size ∧ RowT w t g (n * sz) := by
  rcases h.2 with ⟨_, h0⟩ | ⟨g, cap, cur, e, h1, h2, h3, h4, h5, _⟩
  · omega
  · injection e with e1 e2 e3
    exact ⟨g, e1, h1, (Array.getElem?_eq_some_iff.1 h2).1, cur, h2, by rw [h5]; exact Nat.mul_le_mul_right _ h3⟩
section
variable {P : Program}
/-- 'clear(s)': cells are written, as many as s has. -/
theorem run_clear_rows (w : World) (t e ty : TypeId) (z : Value) (sz : Nat) (ht : P.underlying t = some (.slice e)) (hv : ∀ w, (zeroValue e).run P w = .ok z w) (hz : z.cells.size = sz) (h1 : ∀ v ∈ z.cells, v.oneCell' = true) (hsz : 0 < sz) (b o n c : Nat)
    (hc : w.there b o (n * sz)) :
    ∃ vs : List Value, vs.length = n * sz ∧ (Builtin.clear_ #[t] ty #[.slice (some ⟨b, o, none⟩) n c]).run P w = .ok (.tuple #[]) (w.setCells b o vs) := by
  rcases Nat.eq_zero_or_pos n with h0 | h0
  · subst h0
    exact ⟨[], by simp, by simp [Builtin.clear_, run_underlying ht]; rfl⟩
  · obtain ⟨m, rfl⟩ : ∃ m, n = m + 1 := ⟨n - 1, by omega⟩
    have hlen : (Builtin.zeroCells z.cells (m + 1)).toList.length = (m + 1) * sz := by simp [Builtin.zeroCells, hz]
    have hst := run_storeCells_cells (P := P) b o (Builtin.zeroCells z.cells (m + 1)).toList 0 w (fun j hj => by simpa using (hc j (by rw [← hlen]; exact hj)).1) (fun j hj => by simpa using (hc j (by rw [← hlen]; exact hj)).2) (fun v hv' => by
      have hv2 : v ∈ Builtin.zeroCells z.cells (m + 1) := by simpa using hv'
      unfold Builtin.zeroCells at hv2
      obtain ⟨i, hi, rfl⟩ := Array.mem_map.1 hv2
      have hlt : i % z.cells.size < z.cells.size := Nat.mod_lt _ (by omega)
      rw [getElem!_pos z.cells _ hlt]
      exact h1 _ (Array.getElem_mem hlt))
    simp only [Nat.add_zero] at hst
    exact ⟨_, hlen, by simp [Builtin.clear_, run_underlying ht, hv, hst]⟩
end
end Go.Proofs.YthlgjbmkealjjaaGreatDoor

namespace Go.Proofs.YthlgjbmkealjjaaGreatDoor
open Go.RowKit
set_option linter.unusedVariables false
set_option linter.unusedSimpArgs false
section
variable {κ ν : Type} [DecidableEq κ] (ke : κ → Value) (ve : ν → Value)
def mapG : List (κ × ν) → Nat → List MapEntry
  | [], _ => []
  | x :: l, i => ⟨ke x.1, ve x.2, i⟩ :: mapG l (i + 1)
def getG : List (κ × ν) → κ → Option ν
  | [], _ => none
  | x :: l, k => if k = x.1 then some x.2 else getG l k
def idxG : List (κ × ν) → κ → Nat → Option (Nat × ν)
  | [], _, _ => none
  | x :: l, k, i => if k = x.1 then some (i, x.2) else idxG l k (i + 1)
def setG : List (κ × ν) → κ → ν → List (κ × ν)
  | [], k, v => [(k, v)]
  | x :: l, k, v => if k = x.1 then (k, v) :: l else x :: setG l k v
theorem get_set (l : List (κ × ν)) (k k' : κ) (v : ν) : getG (setG l k v) k' = if k' = k then some v else getG l k' := by
  induction l with
  | nil => rfl
  | cons x l ih =>
    unfold setG
    by_cases h : k = x.1
    · rw [if_pos h]
      unfold getG
      by_cases h2 : k' = k
      · rw [if_pos h2, if_pos h2]
      · rw [if_neg h2, if_neg h2, if_neg (by rw [← h]; exact h2)]
    · rw [if_neg h]
      unfold getG
      by_cases h2 : k' = x.1
      · rw [if_pos h2, if_pos h2, if_neg (fun e => h (by rw [← e]; exact h2))]
      · rw [if_neg h2, if_neg h2, ih]
theorem idx_get (l : List (κ × ν)) (k : κ) (i : Nat) : (idxG l k i).map (·.2) = getG l k := by
  induction l generalizing i with
  | nil => rfl
  | cons x l ih =>
    unfold idxG getG
    by_cases h : k = x.1
    · rw [if_pos h, if_pos h]; rfl
    · rw [if_neg h, if_neg h, ih]
theorem set_none (l : List (κ × ν)) (k : κ) (v : ν) (i : Nat) (h : idxG l k i = none) : setG l k v = l ++ [(k, v)] ∧ mapG ke ve (setG l k v) i = mapG ke ve l i ++ [⟨ke k, ve v, i + l.length⟩] := by
  induction l generalizing i with
  | nil => exact ⟨rfl, rfl⟩
  | cons x l ih =>
    unfold idxG at h
    by_cases hx : k = x.1
    · rw [if_pos hx] at h; cases h
    · rw [if_neg hx] at h
      obtain ⟨h1, h2⟩ := ih (i + 1) h
      unfold setG
      rw [if_neg hx]
      refine ⟨by rw [h1]; rfl, ?_⟩
      simp only [mapG, h2, List.cons_append, List.length_cons]
      rw [show i + 1 + l.length = i + (l.length + 1) by omega]
theorem set_some (l : List (κ × ν)) (k : κ) (v u : ν) (i j : Nat) (h : idxG l k i = some (j, u)) : ∃ q, j = i + q ∧ (mapG ke ve l i)[q]? = some ⟨ke k, ve u, j⟩ ∧ (setG l k v).length = l.length ∧
    mapG ke ve (setG l k v) i = (mapG ke ve l i).modify q (fun e => { e with key := ke k, val := ve v }) := by
  induction l generalizing i with
  | nil => cases h
  | cons x l ih =>
    unfold idxG at h
    by_cases hx : k = x.1
    · rw [if_pos hx] at h
      injection h with h
      injection h with h1 h2
      subst h1 h2
      refine ⟨0, rfl, by simp [mapG, hx], by simp [setG, hx], ?_⟩
      unfold setG
      rw [if_pos hx]
      simp [mapG, hx]
    · rw [if_neg hx] at h
      obtain ⟨q, h1, h2, h3, h4⟩ := ih (i + 1) h
      refine ⟨q + 1, by omega, by simpa [mapG] using h2, by simp [setG, hx, h3], ?_⟩
      unfold setG
      rw [if_neg hx]
      simp only [mapG, h4, List.modify_succ_cons]
/-- What is asked of keys. -/
structure KeyOk (P : Program) (K : TypeId) : Prop where
  find : ∀ (l : List (κ × ν)) k w, (Instr.findKey K (ke k) (mapG ke ve l 0)).run P w = .ok ((idxG l k 0).map fun p => (p.1, ve p.2)) w
  check : ∀ e k w, (Instr.checkKey e 10000 K (ke k)).run P w = .ok () w
  stays : ∀ k w, (Instr.keyThatStays (ke k) (ke k)).run P w = .ok (ke k) w
structure MapG (g : Nat) (w w' : World) (l : List (κ × ν)) : Prop where
  os : w'.os = w.os
  tape : w'.tape = w.tape
  output : w'.output = w.output
  size : w'.heap.size = w.heap.size
  block : ∀ k, k ≠ g → w'.heap[k]? = w.heap[k]?
  here : w'.heap[g]? = some (.map (mapG ke ve l 0).toArray l.length)
variable {P : Program} {T K E : TypeId}
theorem look_two (hK : KeyOk ke ve P K) (hT : P.underlying T = some (.map K E)) (z : Value) (hz : ∀ w, (zeroValue E).run P w = .ok z w) (w : World) (g : Nat) (l : List (κ × ν)) (n : Nat) (k : κ) (hg : w.heap[g]? = some (.map (mapG ke ve l 0).toArray n)) :
    (Instr.lookup T (.map (some g)) (ke k) true).run P w = .ok (.tuple #[((getG l k).map ve).getD z, .bool (getG l k).isSome]) w := by
  have h1 : (getObj g).run P w = .ok (.map (mapG ke ve l 0).toArray n) w := by simp [getObj, Sem.run, hg]
  have h2 := fun e => hK.check e k w
  have h3 := hK.find l k w
  have h4 := hz w
  have h5 := run_underlying hT w
  have h6 := idx_get l k 0
  unfold Instr.lookup
  cases hp : idxG l k 0 with
  | none =>
    rw [hp] at h3 h6
    rw [← h6]
    simp [h1, h2, h3, h4, h5]
  | some p =>
    rw [hp] at h3 h6
    rw [← h6]
    simp [h1, h2, h3, h4, h5]
theorem look_one (hK : KeyOk ke ve P K) (hT : P.underlying T = some (.map K E)) (z : Value) (hz : ∀ w, (zeroValue E).run P w = .ok z w) (w : World) (g : Nat) (l : List (κ × ν)) (n : Nat) (k : κ) (hg : w.heap[g]? = some (.map (mapG ke ve l 0).toArray n)) :
    (Instr.lookup T (.map (some g)) (ke k) false).run P w = .ok (((getG l k).map ve).getD z) w := by
  have h1 : (getObj g).run P w = .ok (.map (mapG ke ve l 0).toArray n) w := by simp [getObj, Sem.run, hg]
  have h2 := fun e => hK.check e k w
  have h3 := hK.find l k w
  have h4 := hz w
  have h5 := run_underlying hT w
  have h6 := idx_get l k 0
  unfold Instr.lookup
  cases hp : idxG l k 0 with
  | none =>
    rw [hp] at h3 h6
    rw [← h6]
    simp [h1, h2, h3, h4, h5]
  | some p =>
    rw [hp] at h3 h6
    rw [← h6]
    simp [h1, h2, h3, h4, h5]
theorem upd_one (hK : KeyOk ke ve P K) (hT : P.underlying T = some (.map K E)) (w : World) (g : Nat) (l : List (κ × ν)) (k : κ) (v : ν) (hg : w.heap[g]? = some (.map (mapG ke ve l 0).toArray l.length)) :
    ∃ w', (Instr.mapUpdate T (.map (some g)) (ke k) (ve v)).run P w = .ok () w' ∧ MapG ke ve g w w' (setG l k v) := by
  have h2 := fun e => hK.check e k w
  have h3 := hK.find l k w
  have h5 := run_underlying hT w
  have h6 := hK.stays k w
  cases hp : idxG l k 0 with
  | none =>
    rw [hp] at h3
    obtain ⟨s1, s2⟩ := set_none ke ve l k v 0 hp
    refine ⟨{ w with heap := w.heap.setIfInBounds g (.map ((mapG ke ve l 0).toArray.push ⟨ke k, ve v, l.length⟩) (l.length + 1)) }, ?_, ?_⟩
    · unfold Instr.mapUpdate
      simp only [Sem.run_bind, h5, Result.andThen, MapKept.run_getObj_map hg, h2, h3, Option.map_none, MapKept.run_setObj_map _ hg, Sem.run_pure]
    · refine ⟨rfl, rfl, rfl, by simp, fun k hk => (MapKept.heap_set hg).2 k hk, ?_⟩
      rw [(MapKept.heap_set hg).1, s2, s1]
      simp
  | some p =>
    rw [hp] at h3
    obtain ⟨q, h1, hat, hlen, s2⟩ := set_some ke ve l k v p.2 0 p.1 hp
    have hq : p.1 = q := by omega
    rw [hq] at hat
    have hat' : (mapG ke ve l 0).toArray[q]? = some ⟨ke k, ve p.2, q⟩ := by simpa using hat
    refine ⟨{ w with heap := w.heap.setIfInBounds g (.map ((mapG ke ve l 0).toArray.modify q fun e => { e with key := ke k, val := ve v }) l.length) }, ?_, ?_⟩
    · unfold Instr.mapUpdate
      simp only [Sem.run_bind, h5, Result.andThen, MapKept.run_getObj_map hg, h2, h3, Option.map_some, hq, hat', Option.getD_some, h6, MapKept.run_setObj_map _ hg, Sem.run_pure]
    · refine ⟨rfl, rfl, rfl, by simp, fun k hk => (MapKept.heap_set hg).2 k hk, ?_⟩
      rw [(MapKept.heap_set hg).1, s2, hlen, List.modify_toArray]
end
theorem mapG_len {κ ν : Type} (ke : κ → Value) (ve : ν → Value) (l : List (κ × ν)) (i : Nat) : (mapG ke ve l i).length = l.length := by
  induction l generalizing i with
  | nil => rfl
  | cons x l ih => simp [mapG, ih]
theorem MapG.below {κ ν : Type} (ke : κ → Value) (ve : ν → Value) {g B : Nat} {w w' : World} {l : List (κ × ν)} (h : MapG ke ve g w w' l) (hg : B ≤ g) {a : World} (hb : Below B a w) : Below B a w' :=
  ⟨h.os.trans hb.os, h.tape.trans hb.tape, h.output.trans hb.output, by rw [h.size]; exact hb.size, fun k hk => (h.block k (by omega)).trans (hb.block k hk)⟩
/-! ### keys that are ints -/
def keI (a : Int) : Value := .int .i64 a
theorem findNow_int {ν : Type} (ve : ν → Value) (l : List (Int × ν)) (k : Int) (b i : Nat) : Instr.findNow (.int .i64) (keI k) (mapG keI ve l b) i = some ((idxG l k i).map fun p => (p.1, ve p.2)) := by
  induction l generalizing b i with
  | nil => rfl
  | cons x l ih =>
    unfold mapG idxG Instr.findNow
    by_cases h : k = x.1
    · rw [if_pos h]
      simp [Instr.sameNow, keI, h]
    · rw [if_neg h]
      have h2 : (k == x.1) = false := by rw [beq_eq_false_iff_ne]; exact h
      simp only [Instr.sameNow, keI, h2, if_true]
      exact ih (b + 1) (i + 1)
theorem keyOk_int {ν : Type} (ve : ν → Value) (P : Program) (K : TypeId) (hK : P.underlying K = some (.int .i64)) : KeyOk keI ve P K where
  find l k w := by
    unfold Instr.findKey
    simp [run_underlying hK w, findNow_int]
  check e k w := by
    unfold Instr.checkKey
    simp [run_underlying hK w, keI]
  stays k w := by simp [Instr.keyThatStays, Instr.sameBits, keI]
end Go.Proofs.YthlgjbmkealjjaaGreatDoor
