/-
  The walk of Replay. No statement is proved here.
-/
import Derived.Test.YtcbopgopegphlaaGreatAcLL
import Derived.Test.YtcbopgopegphlaaGreatAcEE
import Derived.Lib.QuietBelow
import Derived.BigQuiet
namespace Go.Proofs.YtcbopgopegphlaaGreat
open Go.RowKit
set_option linter.unusedVariables false

/-- A slice of events. -/
def RdE (w : World) (A : Option Addr) (n : Nat) (l : List Ev) : Prop :=
  l.length = n ∧ (0 < n → ∃ b off, A = some ⟨b, off, none⟩ ∧ ∀ j (h : j < l.length) k u, (evCells l[j])[k]? = some u → w.cell? ⟨b, off + j * 6 + k, none⟩ = some u)
theorem RdE.below {w w' : World} {A : Option Addr} {n : Nat} {l : List Ev} (h : RdE w A n l) (hb : Below w.heap.size w w') : RdE w' A n l :=
  ⟨h.1, fun hn => by
    obtain ⟨b, off, e, hc⟩ := h.2 hn
    exact ⟨b, off, e, fun j hj k u hu => cell_later hb (hc j hj k u hu)⟩⟩
theorem info_ev (e : Ev) : (Tryz.prog.info? 39).map (·.size) = some (evCells e).size := by rw [show (evCells e).size = 6 from rfl]; kernel_rfl
theorem evsOk_take {l : List Ev} {j : Nat} (h : EvsOk l) (hj : j < l.length) : l[j].Ok ∧ l[j].kind ≠ 5 ∧ ∀ (h0 : 0 < j), before l[j - 1] l[j] := h j hj
theorem replay_prod {p : Prod} {l : List Ev} {v : Int} (h : ¬ p.Ok) : replayAns p l v = (.zero, 50) := by unfold replayAns; rw [if_pos h]
theorem replay_date {p : Prod} {l : List Ev} {v : Int} (h : p.Ok) (hv : ¬ (-719162 ≤ v ∧ v ≤ 2932896)) : replayAns p l v = (.zero, 6) := by unfold replayAns; rw [if_neg (by simpa using h), if_pos hv]
theorem replay_long {p : Prod} {l : List Ev} {v : Int} (h : p.Ok) (hv : -719162 ≤ v ∧ v ≤ 2932896) (hl : 4096 < l.length) : replayAns p l v = (.zero, 3) := by unfold replayAns; rw [if_neg (by simpa using h), if_neg (by simpa using hv), if_pos hl]
theorem replay_bad {p : Prod} {l : List Ev} {v : Int} (h : p.Ok) (hv : -719162 ≤ v ∧ v ≤ 2932896) (hl : ¬ 4096 < l.length) (he : ¬ EvsOk l) : replayAns p l v = (.zero, 52) := by unfold replayAns; rw [if_neg (by simpa using h), if_neg (by simpa using hv), if_neg hl, if_pos he]
theorem replay_run {p : Prod} {l : List Ev} {v : Int} (h : p.Ok) (hv : -719162 ≤ v ∧ v ≤ 2932896) (hl : ¬ 4096 < l.length) (he : EvsOk l) : replayAns p l v = match evRun p v (Ln.start p) l with
    | none => (.zero, 4)
    | some L => match endOf p L v with | none => (.zero, 4) | some s => (s, 0) := by unfold replayAns; rw [if_neg (by simpa using h), if_neg (by simpa using hv), if_neg hl, if_neg (by simpa using he)]; cases evRun p v (Ln.start p) l with | none => rfl | some L => cases endOf p L v <;> rfl
theorem ev_one (e : Ev) : (evCells e).all (·.oneCell') = true := by simp [evCells, Value.oneCell']
theorem start_fine {p : Prod} (hp : p.Ok) : (Ln.start p).Fine :=
  ⟨fun h => (by cases h), fun h => (by cases h), hp.rate0, hp.rate1, by simp [Ln.start], by simp [Ln.start], by simp [Ln.start], by simp [Ln.start], by simp [Ln.start], by simp [Ln.start], by simp [Ln.start], by simp [Ln.start], by simp [Ln.start], by simp [Ln.start], by simp [Ln.start], by simp [Ln.start], by simp [Ln.start], rfl, rfl, .inl rfl, fun h => (by cases h)⟩
end Go.Proofs.YtcbopgopegphlaaGreat
