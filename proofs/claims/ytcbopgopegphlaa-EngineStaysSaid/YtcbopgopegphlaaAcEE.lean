/-
  Joined texts: AcE AcE2 AcF. No statement is proved here.
-/
import Derived.Test.YtcbopgopegphlaaAcB
namespace Go.Proofs.Ytcbopgopegphlaa
open Go.RowKit
set_option linter.unusedVariables false

def evCells (e : Ev) : Array Value := #[.int .i64 e.seq, .string e.loan, .int .i64 e.day, .int .i64 e.kind, .int .i64 e.amount, .int .i64 e.ref]
def Ev.val (e : Ev) : Value := .agg (evCells e)
theorem Ev.ok_iff (e : Ev) : e.Ok ↔ nameOk e.loan = true ∧ -719162 ≤ e.day ∧ e.day ≤ 2932896 ∧ ((e.kind = 1 ∨ e.kind = 2 ∨ e.kind = 4) ∧ 1 ≤ e.amount ∧ e.amount ≤ 1000000000000000 ∨ e.kind = 3 ∧ 0 ≤ e.amount ∧ e.amount ≤ 1000000000 ∨ e.kind = 5 ∧ e.amount = 0) ∧
    0 ≤ e.seq ∧ e.seq ≤ 1099511627776 ∧ (e.kind = 5 ∧ 1 ≤ e.ref ∨ e.kind ≠ 5 ∧ e.ref = 0) :=
  ⟨fun h => ⟨h.loan, h.day0, h.day1, h.amount, h.seq0, h.seq1, h.ref⟩, fun ⟨a, b, c, d, f, g, i⟩ => ⟨a, b, c, d, f, g, i⟩⟩
def amts (k : Int) : Int × Int := if k = 1 ∨ k = 2 ∨ k = 4 then (1, 1000000000000000) else if k = 3 then (0, 1000000000) else if k = 5 then (0, 0) else (1, 0)
theorem amounts_any (k : Int) (w : World) :
    Calls Try.prog 34 #[.int .i64 k] w fun e w' => e = .returned (.tuple #[.int .i64 (amts k).1, .int .i64 (amts k).2]) ∧ w' = w := by
  rcases (show k = 1 ∨ k = 2 ∨ k = 4 ∨ k = 3 ∨ k = 5 ∨ (k ≠ 1 ∧ k ≠ 2 ∧ k ≠ 4 ∧ k ≠ 3 ∧ k ≠ 5) by omega) with rfl | rfl | rfl | rfl | rfl | ⟨h1, h2, h3, h4, h5⟩
  case inr.inr.inr.inr.inr =>
    have e : amts k = (1, 0) := by unfold amts; simp [h1, h2, h3, h4, h5]
    rw [e]
    go_enter Try.func34, Try.ntmps34
    go_wp2
    go_ret2
    exact ⟨rfl, rfl⟩
  all_goals
    go_enter Try.func34, Try.ntmps34
    go_wp2
    go_ret2
    exact ⟨rfl, rfl⟩
set_option maxRecDepth 100000 in
set_option maxHeartbeats 4000000 in
theorem bCheck_any (e : Ev) (w : World) :
    Calls Try.prog 17 #[e.val] w fun x w' => (∃ r, x = .returned (.int .i64 r) ∧ (r = 0 ↔ e.Ok)) ∧ Below w.heap.size w w' := by
  have HN := Lib.hid fun W => Name_any e.loan W
  have HA := Lib.hid fun W => amounts_any e.kind W
  have ha : Hid ((amts e.kind).1 = (amts e.kind).1 ∧ (e.kind = 1 ∨ e.kind = 2 ∨ e.kind = 4) ∧ (amts e.kind).1 = 1 ∧ (amts e.kind).2 = 1000000000000000 ∨ e.kind = 3 ∧ (amts e.kind).1 = 0 ∧ (amts e.kind).2 = 1000000000 ∨ e.kind = 5 ∧ (amts e.kind).1 = 0 ∧ (amts e.kind).2 = 0 ∨ (e.kind ≠ 1 ∧ e.kind ≠ 2 ∧ e.kind ≠ 4 ∧ e.kind ≠ 3 ∧ e.kind ≠ 5) ∧ (amts e.kind).1 = 1 ∧ (amts e.kind).2 = 0) := Lib.hid (by
    unfold amts
    split
    · exact .inl ⟨rfl, by assumption, rfl, rfl⟩
    · split
      · exact .inr (.inl ⟨by assumption, rfl, rfl⟩)
      · split
        · exact .inr (.inr (.inl ⟨by assumption, rfl, rfl⟩))
        · exact .inr (.inr (.inr ⟨by omega, rfl, rfl⟩)))
  have OK := Lib.hid e.ok_iff
  generalize hP : e.Ok = P at OK
  clear hP
  obtain ⟨seq, loan, day, kind, amount, ref⟩ := e
  unfold Ev.val evCells
  simp only at HN HA OK ha ⊢
  generalize (amts kind).1 = lo at *
  generalize (amts kind).2 = hi at *
  generalize nameOk loan = nm at *
  go_enter Try.func17, Try.ntmps17
  go_wp2_with fail
  refine (HA.out _).mono ?_
  rintro x w1 ⟨rfl, rfl⟩
  go_wp2_with fail
  obtain ⟨w1, hw1⟩ : ∃ w1, w1 = w.alloc (.cells #[.int .i64 seq, .string loan, .int .i64 day, .int .i64 kind, .int .i64 amount, .int .i64 ref] 38) := ⟨_, rfl⟩
  have h0 : w1.heap[w.heap.size]? = some (.cells #[.int .i64 seq, .string loan, .int .i64 day, .int .i64 kind, .int .i64 amount, .int .i64 ref] 38 (0, 0)) := by rw [hw1]; exact heap_alloc_new _ _
  have hb1 : Below w.heap.size w w1 := by rw [hw1]; exact (Below.refl _ _).alloc (Nat.le_refl _) _
  have hz1 : w1.heap.size = w.heap.size + 1 := by rw [hw1]; simp
  rw [← hw1]
  clear hw1
  refine (HN.out _).mono ?_
  rintro x w2 ⟨rfl, hb2⟩
  have H0 := (hb2.block w.heap.size (by omega)).trans h0
  have hb : Below w.heap.size w w2 := hb1.trans (hb2.mono hb1.size)
  have c0 : w2.cell? ⟨w.heap.size, 0, none⟩ = some (.int .i64 seq) := by rw [cell_of_row _ _ _ _ _ _ H0]; rfl
  have c2 : w2.cell? ⟨w.heap.size, 2, none⟩ = some (.int .i64 day) := by rw [cell_of_row _ _ _ _ _ _ H0]; rfl
  have c3 : w2.cell? ⟨w.heap.size, 3, none⟩ = some (.int .i64 kind) := by rw [cell_of_row _ _ _ _ _ _ H0]; rfl
  have c4 : w2.cell? ⟨w.heap.size, 4, none⟩ = some (.int .i64 amount) := by rw [cell_of_row _ _ _ _ _ _ H0]; rfl
  have c5 : w2.cell? ⟨w.heap.size, 5, none⟩ = some (.int .i64 ref) := by rw [cell_of_row _ _ _ _ _ _ H0]; rfl
  clear h0 hb1 hb2 H0 hz1 HN HA
  cases nm
  all_goals
    simp only [Bool.false_eq_true, false_and, iff_false, true_and] at OK
    by_cases hk : kind = 5
    all_goals
      go_wp2
      all_goals
        go_ret
        refine ⟨⟨_, rfl, ?_⟩, hb⟩
        have ha1 := ha.out
        have ok1 := OK.out
        first
        | (simp [ok1]; done)
        | (rw [ok1]; simp at *; omega)
        | (rw [ok1]; omega)
end Go.Proofs.Ytcbopgopegphlaa

namespace Go.Proofs.Ytcbopgopegphlaa
open Go.RowKit
set_option linter.unusedVariables false

noncomputable def bcode (e : Ev) : Int := if nameOk e.loan = false then 51 else if e.day < -719162 ∨ 2932896 < e.day then 6 else if e.Ok then 0 else 52
set_option maxRecDepth 100000 in
set_option maxHeartbeats 4000000 in
theorem bCheck_code (e : Ev) (w : World) :
    Calls Try.prog 17 #[e.val] w fun x w' => x = .returned (.int .i64 (bcode e)) ∧ Below w.heap.size w w' := by
  have HN := Lib.hid fun W => Name_any e.loan W
  have HA := Lib.hid fun W => amounts_any e.kind W
  have ha : Hid ((amts e.kind).1 = (amts e.kind).1 ∧ (e.kind = 1 ∨ e.kind = 2 ∨ e.kind = 4) ∧ (amts e.kind).1 = 1 ∧ (amts e.kind).2 = 1000000000000000 ∨ e.kind = 3 ∧ (amts e.kind).1 = 0 ∧ (amts e.kind).2 = 1000000000 ∨ e.kind = 5 ∧ (amts e.kind).1 = 0 ∧ (amts e.kind).2 = 0 ∨ (e.kind ≠ 1 ∧ e.kind ≠ 2 ∧ e.kind ≠ 4 ∧ e.kind ≠ 3 ∧ e.kind ≠ 5) ∧ (amts e.kind).1 = 1 ∧ (amts e.kind).2 = 0) := Lib.hid (by
    unfold amts
    split
    · exact .inl ⟨rfl, by assumption, rfl, rfl⟩
    · split
      · exact .inr (.inl ⟨by assumption, rfl, rfl⟩)
      · split
        · exact .inr (.inr (.inl ⟨by assumption, rfl, rfl⟩))
        · exact .inr (.inr (.inr ⟨by omega, rfl, rfl⟩)))
  have OK := Lib.hid e.ok_iff
  have CODE : Hid (bcode e = if nameOk e.loan = false then 51 else if e.day < -719162 ∨ 2932896 < e.day then 6 else if e.Ok then 0 else 52) := Lib.hid rfl
  generalize bcode e = code at *
  obtain ⟨seq, loan, day, kind, amount, ref⟩ := e
  unfold Ev.val evCells
  simp only at HN HA ha CODE ⊢
  simp only at OK
  generalize (amts kind).1 = lo at *
  generalize (amts kind).2 = hi at *
  generalize nameOk loan = nm at *
  go_enter Try.func17, Try.ntmps17
  go_wp2_with fail
  refine (HA.out _).mono ?_
  rintro x w1 ⟨rfl, rfl⟩
  go_wp2_with fail
  obtain ⟨w1, hw1⟩ : ∃ w1, w1 = w.alloc (.cells #[.int .i64 seq, .string loan, .int .i64 day, .int .i64 kind, .int .i64 amount, .int .i64 ref] 38) := ⟨_, rfl⟩
  have h0 : w1.heap[w.heap.size]? = some (.cells #[.int .i64 seq, .string loan, .int .i64 day, .int .i64 kind, .int .i64 amount, .int .i64 ref] 38 (0, 0)) := by rw [hw1]; exact heap_alloc_new _ _
  have hb1 : Below w.heap.size w w1 := by rw [hw1]; exact (Below.refl _ _).alloc (Nat.le_refl _) _
  have hz1 : w1.heap.size = w.heap.size + 1 := by rw [hw1]; simp
  rw [← hw1]
  clear hw1
  refine (HN.out _).mono ?_
  rintro x w2 ⟨rfl, hb2⟩
  have H0 := (hb2.block w.heap.size (by omega)).trans h0
  have hb : Below w.heap.size w w2 := hb1.trans (hb2.mono hb1.size)
  have c0 : w2.cell? ⟨w.heap.size, 0, none⟩ = some (.int .i64 seq) := by rw [cell_of_row _ _ _ _ _ _ H0]; rfl
  have c2 : w2.cell? ⟨w.heap.size, 2, none⟩ = some (.int .i64 day) := by rw [cell_of_row _ _ _ _ _ _ H0]; rfl
  have c3 : w2.cell? ⟨w.heap.size, 3, none⟩ = some (.int .i64 kind) := by rw [cell_of_row _ _ _ _ _ _ H0]; rfl
  have c4 : w2.cell? ⟨w.heap.size, 4, none⟩ = some (.int .i64 amount) := by rw [cell_of_row _ _ _ _ _ _ H0]; rfl
  have c5 : w2.cell? ⟨w.heap.size, 5, none⟩ = some (.int .i64 ref) := by rw [cell_of_row _ _ _ _ _ _ H0]; rfl
  clear h0 hb1 hb2 H0 hz1 HN HA
  cases nm
  all_goals
    simp only [Bool.false_eq_true, false_and, iff_false, true_and] at OK
    by_cases hk : kind = 5
    all_goals
      go_wp2
      all_goals
        go_ret
        refine ⟨?_, hb⟩
        have ha1 := ha.out
        have ok1 := OK.out
        have cd := CODE.out
        first
        | (rw [cd, if_pos (by simp)]; rfl)
        | (rw [cd, if_neg (by simp), if_pos (by simp at *; omega)]; rfl)
        | (rw [cd, if_neg (by simp), if_pos (by omega)]; rfl)
        | (rw [cd, if_neg (by simp), if_neg (by omega), if_pos (by rw [ok1]; omega)]; rfl)
        | (rw [cd, if_neg (by simp), if_neg (by omega), if_pos (by rw [ok1]; simp at *; omega)]; rfl)
        | (rw [cd, if_neg (by simp), if_neg (by omega), if_neg (by rw [ok1]; omega)]; rfl)
        | (rw [cd, if_neg (by simp), if_neg (by omega), if_neg (by rw [ok1]; simp at *; omega)]; rfl)
end Go.Proofs.Ytcbopgopegphlaa

namespace Go.Proofs.Ytcbopgopegphlaa
open Go.RowKit
set_option linter.unusedVariables false

theorem rises_ge (a : Int) (l : List Int) (h : risesFrom a l) : a ≤ l.getLastD a := by
  induction l generalizing a with
  | nil => exact Int.le_refl _
  | cons x l ih =>
    have := ih x h.2.2
    have := h.1
    rw [List.getLastD_cons]
    omega
end Go.Proofs.Ytcbopgopegphlaa
