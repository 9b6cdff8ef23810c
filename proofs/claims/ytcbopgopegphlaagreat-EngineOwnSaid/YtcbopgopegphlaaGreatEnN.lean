/-
  What is known at a booking hangs on the bookings up to it alone: the plain law. No statement is proved here.
-/
import Derived.Test.YtcbopgopegphlaaGreatEnL
namespace Go.Proofs.YtcbopgopegphlaaGreat
set_option linter.unusedVariables false
theorem take_cnt (p : Ev → Bool) : ∀ l : List Ev, l.take (cntP p l) = l.takeWhile p
  | [] => rfl
  | x :: l => by
    have ih := take_cnt p l
    unfold cntP at *
    rw [List.takeWhile_cons]
    split
    · rw [List.length_cons, List.take_succ_cons, ih]
    · rfl
theorem drop_late {b : Int} : ∀ {l : List Ev}, Rising l → ∀ e ∈ l.dropWhile (upB b), b < e.seq
  | [], _, e, h => by cases h
  | x :: l, hr, e, h => by
    have hr' := List.pairwise_cons.1 hr
    rw [List.dropWhile_cons] at h
    split at h
    · exact drop_late hr'.2 e h
    · rename_i hx
      have hx' : b < x.seq := by simpa [upB] using hx
      rcases List.mem_cons.1 h with rfl | h
      · exact hx'
      · have := hr'.1 e h
        omega
theorem gone_take {l : List Ev} (hr : Rising l) (b s : Int) : goneB l b s = goneB (l.takeWhile (upB b)) b s := by
  have h : goneB (l.takeWhile (upB b) ++ l.dropWhile (upB b)) b s = goneB (l.takeWhile (upB b)) b s := by
    unfold goneB
    rw [List.any_append]
    have : ((l.dropWhile (upB b)).any fun e => decide (e.kind = 5 ∧ e.seq ≤ b ∧ e.ref = s)) = false := by
      rw [List.any_eq_false]
      intro e he
      have := drop_late hr e he
      simp; omega
    rw [this, Bool.or_false]
  rwa [List.takeWhile_append_dropWhile] at h
theorem kept_take {l : List Ev} (hr : Rising l) (b : Int) : keptOf l b = keptOf (l.takeWhile (upB b)) b := by
  have hf : keptB l b = keptB (l.takeWhile (upB b)) b := by
    funext e
    unfold keptB
    rw [gone_take hr]
  unfold keptOf
  rw [← hf]
  have h : (l.takeWhile (upB b) ++ l.dropWhile (upB b)).filter (keptB l b) = (l.takeWhile (upB b)).filter (keptB l b) := by
    rw [List.filter_append]
    have : (l.dropWhile (upB b)).filter (keptB l b) = [] := by
      rw [List.filter_eq_nil_iff]
      intro e he
      have := drop_late hr e he
      simp [keptB]; intro h; omega
    rw [this, List.append_nil]
  rwa [List.takeWhile_append_dropWhile] at h
theorem known_take {l : List Ev} (hr : Rising l) (b : Int) : knownOf l b = knownOf (l.take (cntP (upB b) l)) b := by
  unfold knownOf
  rw [take_cnt, kept_take hr]
/-- The events one after another. -/
noncomputable def evAll (p : Prod) : Ln → List Ev → Option Ln
  | L, [] => some L
  | L, e :: l => (evStep p L e).bind fun M => evAll p M l
theorem evAll_append (p : Prod) (a b : List Ev) : ∀ L, evAll p L (a ++ b) = (evAll p L a).bind fun M => evAll p M b := by
  induction a with
  | nil => intro L; rfl
  | cons e a ih =>
    intro L
    simp only [List.cons_append, evAll]
    cases evStep p L e with
    | none => rfl
    | some M => exact ih M
theorem evRun_cut (p : Prod) (v : Int) : ∀ (l : List Ev) (L : Ln), evRun p v L l = evAll p L (l.takeWhile (upD v))
  | [], L => rfl
  | e :: l, L => by
    unfold evRun
    rw [List.takeWhile_cons]
    by_cases h : v < e.day
    · rw [if_pos h, if_neg (by simp [upD]; omega)]
      rfl
    · rw [if_neg h, if_pos (by simp [upD]; omega)]
      unfold evAll
      cases evStep p L e with
      | none => rfl
      | some M => exact evRun_cut p v l M
end Go.Proofs.YtcbopgopegphlaaGreat
