/-
  The engine's places as keys of a map; its two searches. No statement is proved here.
-/
import Derived.Test.YtcbopgopegphlaaGreatEnI
namespace Go.Proofs.YtcbopgopegphlaaGreat
open Go.RowKit
set_option linter.unusedVariables false
/-- How many bookings up to b there are. -/
def upB (b : Int) (e : Ev) : Bool := decide (e.seq ≤ b)
def upD (v : Int) (e : Ev) : Bool := decide (e.day ≤ v)
set_option maxRecDepth 100000 in
set_option maxHeartbeats 1000000 in
theorem clos1_any (b : Int) (e : Ev) (W : World) : Calls Tryz.prog 26 #[.agg #[.int .i64 e.seq, .string e.loan, .int .i64 e.day, .int .i64 e.kind, .int .i64 e.amount, .int .i64 e.ref], .int .i64 b] W fun x w' => x = .returned (.int .i64 (if upB b e then -1 else 1)) ∧ Below W.heap.size W w' := by
  obtain ⟨es, el, ed, ek, ea, er⟩ := e
  have hb := Lib.hid ((Below.refl W.heap.size W).alloc (Nat.le_refl _) (.cells #[.int .i64 es, .string el, .int .i64 ed, .int .i64 ek, .int .i64 ea, .int .i64 er] 39))
  by_cases h : es ≤ b
  · have hu : upB b ⟨es, el, ed, ek, ea, er⟩ = true := by simp [upB, h]
    rw [hu]
    clear hu
    go_enter Tryz.func26, Tryz.ntmps26
    go_wp2
    go_ret
    exact ⟨by simp, hb.out⟩
  · have hu : upB b ⟨es, el, ed, ek, ea, er⟩ = false := by simp [upB, h]
    rw [hu]
    clear hu
    go_enter Tryz.func26, Tryz.ntmps26
    go_wp2
    go_ret
    exact ⟨by simp, hb.out⟩
set_option maxRecDepth 100000 in
set_option maxHeartbeats 1000000 in
theorem clos2_any (v : Int) (e : Ev) (W : World) : Calls Tryz.prog 28 #[.agg #[.int .i64 e.seq, .string e.loan, .int .i64 e.day, .int .i64 e.kind, .int .i64 e.amount, .int .i64 e.ref], .int .i64 v] W fun x w' => x = .returned (.int .i64 (if upD v e then -1 else 1)) ∧ Below W.heap.size W w' := by
  obtain ⟨es, el, ed, ek, ea, er⟩ := e
  have hb := Lib.hid ((Below.refl W.heap.size W).alloc (Nat.le_refl _) (.cells #[.int .i64 es, .string el, .int .i64 ed, .int .i64 ek, .int .i64 ea, .int .i64 er] 39))
  by_cases h : ed ≤ v
  · have hu : upD v ⟨es, el, ed, ek, ea, er⟩ = true := by simp [upD, h]
    rw [hu]
    clear hu
    go_enter Tryz.func28, Tryz.ntmps28
    go_wp2
    go_ret
    exact ⟨by simp, hb.out⟩
  · have hu : upD v ⟨es, el, ed, ek, ea, er⟩ = false := by simp [upD, h]
    rw [hu]
    clear hu
    go_enter Tryz.func28, Tryz.ntmps28
    go_wp2
    go_ret
    exact ⟨by simp, hb.out⟩
theorem booked_any (E : Option Addr) (m c : Nat) (b : Int) (l : List Ev) (w : World) (hE : RdE w E m l) (hm : m ≤ 1000000000) (hr : Rising l) :
    Calls Tryz.prog 25 #[.slice E m c, .int .i64 b, .func (.func 26) #[] #[]] w fun e w' => e = .returned (.tuple #[.int .i64 (cntP (upB b) l : Nat), .bool false]) ∧ Below w.heap.size w w' :=
  Search_ev _ (upB b) E m c b l w hE hm (enters_of Tryz.func26 (by kernel_rfl) rfl) (fun e W => clos1_any b e W) fun i j hj h hp => by
    unfold upB at *
    rw [decide_eq_true_eq] at *
    rcases Nat.lt_or_eq_of_le h with h1 | h1
    · have := (List.pairwise_iff_getElem.1 hr) i j (by omega) hj h1
      omega
    · subst h1; exact hp
theorem upto_any (E : Option Addr) (m c : Nat) (v : Int) (l : List Ev) (w : World) (hE : RdE w E m l) (hm : m ≤ 1000000000) (hr : SortedE l) :
    Calls Tryz.prog 25 #[.slice E m c, .int .i64 v, .func (.func 28) #[] #[]] w fun e w' => e = .returned (.tuple #[.int .i64 (cntP (upD v) l : Nat), .bool false]) ∧ Below w.heap.size w w' :=
  Search_ev _ (upD v) E m c v l w hE hm (enters_of Tryz.func28 (by kernel_rfl) rfl) (fun e W => clos2_any v e W) fun i j hj h hp => by
    unfold upD at *
    rw [decide_eq_true_eq] at *
    rcases Nat.lt_or_eq_of_le h with h1 | h1
    · have := (List.pairwise_iff_getElem.1 hr) i j (by omega) hj h1
      simp only [evLt, decide_eq_true_eq] at this
      omega
    · subst h1; exact hp
end Go.Proofs.YtcbopgopegphlaaGreat
