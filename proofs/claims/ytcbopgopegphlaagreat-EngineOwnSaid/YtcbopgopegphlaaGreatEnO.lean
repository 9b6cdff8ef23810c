/-
  What an engine remembers, and what it makes of it: the plain law. No statement is proved here.
-/
import Derived.Test.YtcbopgopegphlaaGreatEnN
import Derived.Test.YtcbopgopegphlaaGreatMapG
namespace Go.Proofs.YtcbopgopegphlaaGreat
set_option linter.unusedVariables false
/-- The latest booking that an event may have. -/
def topB : Int := 1099511627776
/-- What is known of the first q events. -/
def kn (l : List Ev) (q : Nat) : List Ev := knownOf (l.take q) topB
theorem known_all {l : List Ev} {b b' : Int} (h : ∀ e ∈ l, e.seq ≤ b) (h' : ∀ e ∈ l, e.seq ≤ b') : knownOf l b = knownOf l b' := by
  have hg : ∀ s, goneB l b s = goneB l b' s := fun s => by
    rw [Bool.eq_iff_iff]
    unfold goneB
    simp only [List.any_eq_true, decide_eq_true_eq]
    exact ⟨fun ⟨e, he, h1, h2, h3⟩ => ⟨e, he, h1, h' e he, h3⟩, fun ⟨e, he, h1, h2, h3⟩ => ⟨e, he, h1, h e he, h3⟩⟩
  unfold knownOf keptOf
  congr 1
  refine List.filter_congr fun e he => ?_
  unfold keptB
  rw [hg, decide_eq_true (h e he), decide_eq_true (h' e he)]
theorem mem_takeWhile {α : Type} {p : α → Bool} : ∀ {l : List α} {x : α}, x ∈ l.takeWhile p → p x = true
  | [], x, h => by cases h
  | y :: l, x, h => by
    rw [List.takeWhile_cons] at h
    split at h
    · rcases List.mem_cons.1 h with rfl | h
      · assumption
      · exact mem_takeWhile h
    · cases h
theorem known_kn {l : List Ev} (hr : Rising l) (hok : ∀ e ∈ l, e.Ok) (b : Int) : knownOf l b = kn l (cntP (upB b) l) := by
  rw [known_take hr]
  unfold kn
  rw [take_cnt]
  refine known_all (fun e he => by simpa [upB] using mem_takeWhile he) fun e he => ?_
  have := (hok e ((List.takeWhile_sublist _).subset he)).seq1
  unfold topB
  omega
theorem kn_snoc (l : List Ev) (e : Ev) (q : Nat) (h : q ≤ l.length) : kn (l ++ [e]) q = kn l q := by
  unfold kn
  rw [List.take_append_of_le_length h]
/-- What is remembered is what it was reckoned to be. -/
def PtsOk (p : Prod) (l : List Ev) (M : List ((Int × Int) × Ln)) : Prop :=
  ∀ (q m : Nat) (L : Ln), q ≤ l.length → getG M ((q : Int), (m : Int)) = some L → evAll p (Ln.start p) ((kn l q).take m) = some L
theorem PtsOk.nil (p : Prod) (l : List Ev) : PtsOk p l [] := fun q m L _ h => by cases h
/-- All that is remembered is of bookings that are there. -/
def PtsIn (n : Nat) (M : List ((Int × Int) × Ln)) : Prop := ∀ (q m : Nat) (L : Ln), getG M ((q : Int), (m : Int)) = some L → q ≤ n
theorem PtsIn.nil (n : Nat) : PtsIn n [] := fun q m L h => by cases h
theorem PtsOk.snoc {p : Prod} {l : List Ev} {M : List ((Int × Int) × Ln)} (h : PtsOk p l M) (hi : PtsIn l.length M) (e : Ev) : PtsOk p (l ++ [e]) M ∧ PtsIn (l ++ [e]).length M := by
  refine ⟨fun q m L hq hL => ?_, fun q m L hL => ?_⟩
  · have := hi q m L hL
    rw [kn_snoc l e q this]
    exact h q m L this hL
  · have := hi q m L hL
    rw [List.length_append]
    omega
theorem PtsOk.set {p : Prod} {l : List Ev} {M : List ((Int × Int) × Ln)} (h : PtsOk p l M) (hi : PtsIn l.length M) {q m : Nat} {L : Ln} (hq : q ≤ l.length) (hL : evAll p (Ln.start p) ((kn l q).take m) = some L) :
    PtsOk p l (setG M ((q : Int), (m : Int)) L) ∧ PtsIn l.length (setG M ((q : Int), (m : Int)) L) := by
  refine ⟨fun q' m' L' hq' h' => ?_, fun q' m' L' h' => ?_⟩
  · rw [get_set] at h'
    split at h'
    · rename_i he
      injection he with h1 h2
      injection h' with h'
      have e1 : q' = q := by omega
      have e2 : m' = m := by omega
      subst e1 e2 h'
      exact hL
    · exact h q' m' L' hq' h'
  · rw [get_set] at h'
    split at h'
    · rename_i he
      injection he with h1 h2
      omega
    · exact hi q' m' L' h'
/-- An engine's product and events. -/
structure EvsIn (p : Prod) (l : List Ev) : Prop where
  prod : p.Ok
  rise : Rising l
  ok : ∀ e ∈ l, e.Ok
  len : l.length ≤ 4096
theorem EvsIn.nil {p : Prod} (h : p.Ok) : EvsIn p [] := ⟨h, List.Pairwise.nil, (fun e he => by cases he), by simp⟩
theorem cntP_le (f : Ev → Bool) (l : List Ev) : cntP f l ≤ l.length := by
  have := congrArg List.length (take_cnt f l)
  rw [List.length_take] at this
  have h2 := (List.takeWhile_sublist (l := l) f).length_le
  unfold cntP at *
  omega
theorem evAll_fine {p : Prod} (hp : p.Ok) : ∀ (l : List Ev) {L M : Ln}, L.Fine → (∀ e ∈ l, e.Ok ∧ e.kind ≠ 5) → evAll p L l = some M → M.Fine
  | [], L, M, hL, _, h => by injection h with h; rw [← h]; exact hL
  | e :: l, L, M, hL, he, h => by
    unfold evAll at h
    cases hs : evStep p L e with
    | none => rw [hs] at h; cases h
    | some N =>
      rw [hs] at h
      exact evAll_fine hp l (evStep_fine hp hL (he e (List.mem_cons_self ..)).1 (he e (List.mem_cons_self ..)).2 hs).1 (fun x hx => he x (List.mem_cons_of_mem _ hx)) h
theorem evsOk_all {l : List Ev} (h : EvsOk l) : ∀ e ∈ l, e.Ok ∧ e.kind ≠ 5 := fun e he => by
  obtain ⟨i, hi, rfl⟩ := List.getElem_of_mem he
  exact ⟨(h i hi).1, (h i hi).2.1⟩
/-- The answer, as the engine reckons it. -/
theorem asof_ans {p : Prod} {l : List Ev} (h : EvsIn p l) {v b : Int} (hv : -719162 ≤ v ∧ v ≤ 2932896) :
    replayAns p (knownOf l b) v = match evAll p (Ln.start p) ((knownOf l b).take (cntP (upD v) (knownOf l b))) with
      | none => (.zero, 4)
      | some L => match endOf p L v with | none => (.zero, 4) | some s => (s, 0) := by
  rw [replay_run h.prod hv (by have := known_len l b h.rise; have := h.len; omega) (known_ok h.rise h.ok b), evRun_cut, take_cnt]
  cases evAll p (Ln.start p) (List.takeWhile (upD v) (knownOf l b)) with
  | none => rfl
  | some L => cases endOf p L v <;> rfl
theorem take_none {p : Prod} {l : List Ev} {i m : Nat} (hi : i ≤ m) {L : Ln} (h : evAll p L (l.take i) = none) : evAll p L (l.take m) = none := by
  have : l.take m = l.take i ++ (l.take m).drop i := by
    conv => lhs; rw [← List.take_append_drop i (l.take m)]
    rw [List.take_take, Nat.min_eq_left hi]
  rw [this, evAll_append, h]
  rfl
theorem take_step {p : Prod} {l : List Ev} {i : Nat} (hi : i < l.length) {L K : Ln} (h : evAll p L (l.take i) = some K) : evAll p L (l.take (i + 1)) = evStep p K l[i] := by
  rw [List.take_succ_eq_append_getElem hi, evAll_append, h]
  simp only [Option.bind_some, evAll]
  cases evStep p K l[i] <;> rfl
end Go.Proofs.YtcbopgopegphlaaGreat
