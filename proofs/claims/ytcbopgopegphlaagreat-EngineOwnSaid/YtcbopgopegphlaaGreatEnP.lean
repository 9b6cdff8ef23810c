/-
  What counts of a loan's events, as was known at a booking: the plain law. No statement is proved here.
-/
import Derived.Test.YtcbopgopegphlaaGreatAcA
import Derived.Test.YtcbopgopegphlaaGreatSoP
namespace Go.Proofs.YtcbopgopegphlaaGreat
open Go.Sort
set_option linter.unusedVariables false

/-- The order of events: by day, then by booking. -/
def evLt (a b : Ev) : Bool := decide (a.day < b.day ∨ a.day = b.day ∧ a.seq < b.seq)
theorem swo_evLt : SWO evLt where
  irrefl x := by simp [evLt]
  trans x y z h1 h2 := by simp only [evLt, decide_eq_true_eq] at *; omega
  ntrans x y z h1 h2 := by simp only [evLt, decide_eq_false_iff_not] at *; omega
/-- Is a booking taken back, as was known at b? -/
def goneB (l : List Ev) (b s : Int) : Bool := l.any fun e => decide (e.kind = 5 ∧ e.seq ≤ b ∧ e.ref = s)
def keptB (l : List Ev) (b : Int) (e : Ev) : Bool := decide (e.seq ≤ b) && (decide (e.kind ≠ 5) && !goneB l b e.seq)
def keptOf (l : List Ev) (b : Int) : List Ev := l.filter (keptB l b)
/-- An event is put ahead of the first that comes behind it. -/
def insE (e : Ev) : List Ev → List Ev
  | [] => [e]
  | x :: l => if evLt e x then e :: x :: l else x :: insE e l
def knownOf (l : List Ev) (b : Int) : List Ev := (keptOf l b).foldl (fun acc e => insE e acc) []
def Rising (l : List Ev) : Prop := l.Pairwise fun a b => a.seq < b.seq
def SortedE (l : List Ev) : Prop := l.Pairwise fun a b => evLt a b = true
theorem insE_perm (e : Ev) : ∀ l, (insE e l).Perm (e :: l)
  | [] => List.Perm.refl _
  | x :: l => by
    rw [insE]
    split
    · exact List.Perm.refl _
    · exact ((insE_perm e l).cons x).trans (List.Perm.swap e x l)
theorem insE_mem (e y : Ev) (l : List Ev) : y ∈ insE e l ↔ y = e ∨ y ∈ l := by
  rw [(insE_perm e l).mem_iff, List.mem_cons]
theorem evLt_total (a b : Ev) (h : a.seq ≠ b.seq) (hn : evLt a b = false) : evLt b a = true := by
  simp only [evLt, decide_eq_false_iff_not, decide_eq_true_eq] at *; omega
theorem insE_sorted (e : Ev) : ∀ l, SortedE l → (∀ x ∈ l, x.seq ≠ e.seq) → SortedE (insE e l)
  | [], _, _ => by simp [insE, SortedE]
  | x :: l, h, hn => by
    have h' := List.pairwise_cons.1 h
    rw [insE]
    split
    · rename_i hlt
      refine List.pairwise_cons.2 ⟨fun y hy => ?_, h⟩
      rcases List.mem_cons.1 hy with rfl | hy
      · exact hlt
      · exact swo_evLt.trans _ _ _ hlt (h'.1 y hy)
    · rename_i hlt
      refine List.pairwise_cons.2 ⟨fun y hy => ?_, insE_sorted e l h'.2 fun y hy => hn y (List.mem_cons_of_mem _ hy)⟩
      rcases (insE_mem e y l).1 hy with rfl | hy
      · exact evLt_total _ _ (fun h => hn x (List.mem_cons_self ..) h.symm) (by simpa using hlt)
      · exact h'.1 y hy
theorem foldl_ins (l : List Ev) : ∀ (acc : List Ev), SortedE acc → Rising l → (∀ x ∈ acc, ∀ y ∈ l, x.seq < y.seq) →
    SortedE (l.foldl (fun acc e => insE e acc) acc) ∧ (l.foldl (fun acc e => insE e acc) acc).Perm (acc ++ l) := by
  induction l with
  | nil => intro acc h _ _; simpa using h
  | cons e l ih =>
    intro acc h hr hx
    have hr' := List.pairwise_cons.1 hr
    rw [List.foldl_cons]
    obtain ⟨h1, h2⟩ := ih (insE e acc) (insE_sorted e acc h fun x hx1 => Int.ne_of_lt (hx x hx1 e (List.mem_cons_self ..))) hr'.2 fun x hx1 y hy => by
      rcases (insE_mem e x acc).1 hx1 with rfl | hx1
      · exact hr'.1 y hy
      · exact hx x hx1 y (List.mem_cons_of_mem _ hy)
    refine ⟨h1, h2.trans ?_⟩
    exact ((insE_perm e acc).append_right l).trans (by
      rw [List.cons_append]
      exact List.perm_middle.symm)
theorem rising_kept {l : List Ev} (h : Rising l) (b : Int) : Rising (keptOf l b) := h.sublist List.filter_sublist
theorem known_sorted {l : List Ev} (h : Rising l) (b : Int) : SortedE (knownOf l b) ∧ (knownOf l b).Perm (keptOf l b) := by
  have := foldl_ins (keptOf l b) [] List.Pairwise.nil (rising_kept h b) (fun x hx => by cases hx)
  simpa [knownOf] using this
/-- There is one order. -/
theorem sorted_unique : ∀ (a b : List Ev), SortedE a → SortedE b → a.Perm b → a = b
  | [], b, _, _, hp => (List.perm_nil.1 hp.symm).symm
  | x :: a, [], _, _, hp => by have := List.perm_nil.1 hp; cases this
  | x :: a, y :: b, ha, hb, hp => by
    have ha' := List.pairwise_cons.1 ha
    have hb' := List.pairwise_cons.1 hb
    have hxy : x = y := by
      apply Classical.byContradiction
      intro hne
      have hx : x ∈ b := by
        have := hp.mem_iff.1 (List.mem_cons_self (a := x) (l := a))
        rcases List.mem_cons.1 this with h | h
        · exact absurd h hne
        · exact h
      have hy : y ∈ a := by
        have := hp.mem_iff.2 (List.mem_cons_self (a := y) (l := b))
        rcases List.mem_cons.1 this with h | h
        · exact absurd h.symm hne
        · exact h
      have := swo_evLt.trans _ _ _ (ha'.1 y hy) (hb'.1 x hx)
      rw [swo_evLt.irrefl] at this
      cases this
    subst hxy
    rw [sorted_unique a b ha'.2 hb'.2 hp.cons_inv]
instance : Inhabited Ev := ⟨⟨0, ⟨#[]⟩, 0, 0, 0, 0⟩⟩
/-- What the library's stable sort makes of what is kept. -/
theorem stable_known {l : List Ev} (h : Rising l) (b : Int) : (stable evLt (keptOf l b).toArray).toList = knownOf l b := by
  obtain ⟨hP, hS⟩ := stable_law (lt := evLt) (T := evLt) swo_evLt (keptOf l b).toArray fun _ _ _ _ => rfl
  have hsz : (stable evLt (keptOf l b).toArray).size = (keptOf l b).length := by rw [hP.1]; simp
  have key : ∀ d : Array Ev, d.size = (keptOf l b).length → d.extract 0 (keptOf l b).length = d := fun d hd => by rw [← hd]; exact Array.extract_size
  have hp := hP.2.2
  rw [show (keptOf l b).toArray.size = (keptOf l b).length by simp, key _ hsz, key _ (by simp)] at hp
  refine sorted_unique _ _ ?_ (known_sorted h b).1 (hp.trans (known_sorted h b).2.symm)
  have hr := rising_kept h b
  have hnd : ∀ i j, i < j → j < (keptOf l b).length → ((stable evLt (keptOf l b).toArray)[i]!).seq ≠ ((stable evLt (keptOf l b).toArray)[j]!).seq := by
    have hnodup : ((stable evLt (keptOf l b).toArray).toList.map (·.seq)).Nodup := by
      refine (hp.map (·.seq)).nodup_iff.2 ?_
      rw [List.nodup_iff_pairwise_ne]
      exact (List.pairwise_map.2 (hr.imp fun h => Int.ne_of_lt h))
    intro i j hij hj he
    rw [List.nodup_iff_pairwise_ne, List.pairwise_iff_getElem] at hnodup
    have := hnodup i j (by simp [hsz]; omega) (by simp [hsz]; omega) hij
    apply this
    simp only [List.getElem_map, Array.getElem_toList]
    rw [getElem!_pos _ i (by omega), getElem!_pos _ j (by omega)] at he
    exact he
  unfold SortedE
  rw [List.pairwise_iff_getElem]
  intro i j hi hj hij
  simp only [Array.length_toList, hsz] at hi hj
  have hs := hS i j (Nat.zero_le _) hij (by simpa using hj)
  simp only [Array.getElem_toList]
  rw [← getElem!_pos _ i (by omega), ← getElem!_pos _ j (by omega)]
  exact evLt_total _ _ (fun he => hnd i j hij hj he.symm) hs
theorem known_mem {l : List Ev} (h : Rising l) (b : Int) (e : Ev) : e ∈ knownOf l b ↔ e ∈ l ∧ keptB l b e = true := by
  rw [(known_sorted h b).2.mem_iff]; exact List.mem_filter
/-- What is known may be replayed. -/
theorem known_ok {l : List Ev} (h : Rising l) (hok : ∀ e ∈ l, e.Ok) (b : Int) : EvsOk (knownOf l b) := fun i hi => by
  have hm := (known_mem h b _).1 (List.getElem_mem hi)
  have hk := hm.2
  unfold keptB at hk
  simp only [Bool.and_eq_true, decide_eq_true_eq] at hk
  refine ⟨hok _ hm.1, hk.2.1, fun h0 => ?_⟩
  have hs := (known_sorted h b).1
  unfold SortedE at hs
  rw [List.pairwise_iff_getElem] at hs
  have := hs (i - 1) i (by omega) hi (by omega)
  simpa [evLt, before] using this
theorem known_len (l : List Ev) (b : Int) (h : Rising l) : (knownOf l b).length ≤ l.length := by
  rw [(known_sorted h b).2.length_eq]; exact List.length_filter_le _ _
end Go.Proofs.YtcbopgopegphlaaGreat
