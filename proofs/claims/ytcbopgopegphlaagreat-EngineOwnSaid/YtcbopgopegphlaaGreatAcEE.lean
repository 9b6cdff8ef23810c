/-
  Joined texts: AcE AcE2 AcF. No statement is proved here.
-/
import Derived.Test.YtcbopgopegphlaaGreatAcB
namespace Go.Proofs.YtcbopgopegphlaaGreat
open Go.RowKit
set_option linter.unusedVariables false

def evCells (e : Ev) : Array Value := #[.int .i64 e.seq, .string e.loan, .int .i64 e.day, .int .i64 e.kind, .int .i64 e.amount, .int .i64 e.ref]
def Ev.val (e : Ev) : Value := .agg (evCells e)
theorem Ev.ok_iff (e : Ev) : e.Ok ↔ nameOk e.loan = true ∧ -719162 ≤ e.day ∧ e.day ≤ 2932896 ∧ ((e.kind = 1 ∨ e.kind = 2 ∨ e.kind = 4) ∧ 1 ≤ e.amount ∧ e.amount ≤ 1000000000000000 ∨ e.kind = 3 ∧ 0 ≤ e.amount ∧ e.amount ≤ 1000000000 ∨ e.kind = 5 ∧ e.amount = 0) ∧
    0 ≤ e.seq ∧ e.seq ≤ 1099511627776 ∧ (e.kind = 5 ∧ 1 ≤ e.ref ∨ e.kind ≠ 5 ∧ e.ref = 0) :=
  ⟨fun h => ⟨h.loan, h.day0, h.day1, h.amount, h.seq0, h.seq1, h.ref⟩, fun ⟨a, b, c, d, f, g, i⟩ => ⟨a, b, c, d, f, g, i⟩⟩
def amts (k : Int) : Int × Int := if k = 1 ∨ k = 2 ∨ k = 4 then (1, 1000000000000000) else if k = 3 then (0, 1000000000) else if k = 5 then (0, 0) else (1, 0)
theorem amounts_any (k : Int) (w : World) :
    Calls Tryz.prog 37 #[.int .i64 k] w fun e w' => e = .returned (.tuple #[.int .i64 (amts k).1, .int .i64 (amts k).2]) ∧ w' = w := by
  rcases (show k = 1 ∨ k = 2 ∨ k = 4 ∨ k = 3 ∨ k = 5 ∨ (k ≠ 1 ∧ k ≠ 2 ∧ k ≠ 4 ∧ k ≠ 3 ∧ k ≠ 5) by omega) with rfl | rfl | rfl | rfl | rfl | ⟨h1, h2, h3, h4, h5⟩
  case inr.inr.inr.inr.inr =>
    have e : amts k = (1, 0) := by unfold amts; simp [h1, h2, h3, h4, h5]
    rw [e]
    go_enter Tryz.func37, Tryz.ntmps37
    go_wp2
    go_ret2
    exact ⟨rfl, rfl⟩
  all_goals
    go_enter Tryz.func37, Tryz.ntmps37
    go_wp2
    go_ret2
    exact ⟨rfl, rfl⟩
set_option maxRecDepth 100000 in
set_option maxHeartbeats 4000000 in
theorem bCheck_any (e : Ev) (w : World) :
    Calls Tryz.prog 20 #[e.val] w fun x w' => (∃ r, x = .returned (.int .i64 r) ∧ (r = 0 ↔ e.Ok)) ∧ Below w.heap.size w w' := by
  have HN := Lib.hid fun W => Name_any e.loan W
  have HA := Lib.hid fun W => amounts_any e.kind W
  have ha : Hid ((amts e.kind).1 = (amts e.kind).1 ∧ (e.kind = 1 ∨ e.kind = 2 ∨ e.kind = 4) ∧ (amts e.kind).1 = 1 ∧ (amts e.kind).2 = 1000000000000000 ∨ e.kind = 3 ∧ (amts e.kind).1 = 0 ∧ (amts e.kind).2 = 1000000000 ∨ e.kind = 5 ∧ (amts e.kind).1 = 0 ∧ (amts e.kind).2 = 0 ∨ (e.kind ≠ 1 ∧ e.kind ≠ 2 ∧ e.kind ≠ 4 ∧ e.kind ≠ 3 ∧ e.kind ≠ 5) ∧ (amts e.kind).1 = 1 ∧ (amts e.kind).2 = 0) := Lib.hid (by
    unfold amts
    split
    · exact .inl ⟨rfl, by assumption, rfl, rfl⟩
    · split
      · exact .inr (.inl ⟨by assumption, rfl, rfl⟩)
      · split
        · exact .inr (.inr (.inl ⟨by assumption, rfl, rfl⟩))
        · exact .inr (.inr (.inr ⟨by omega, rfl, rfl⟩)))
  have OK := Lib.hid e.ok_iff
  generalize hP : e.Ok = P at OK
  clear hP
  obtain ⟨seq, loan, day, kind, amount, ref⟩ := e
  unfold Ev.val evCells
  simp only at HN HA OK ha ⊢
  generalize (amts kind).1 = lo at *
  generalize (amts kind).2 = hi at *
  generalize nameOk loan = nm at *
  go_enter Tryz.func20, Tryz.ntmps20
  go_wp2_with fail
  refine (HA.out _).mono ?_
  rintro x w1 ⟨rfl, rfl⟩
  go_wp2_with fail
  obtain ⟨w1, hw1⟩ : ∃ w1, w1 = w.alloc (.cells #[.int .i64 seq, .string loan, .int .i64 day, .int .i64 kind, .int .i64 amount, .int .i64 ref] 39) := ⟨_, rfl⟩
  have h0 : w1.heap[w.heap.size]? = some (.cells #[.int .i64 seq, .string loan, .int .i64 day, .int .i64 kind, .int .i64 amount, .int .i64 ref] 39 (0, 0)) := by rw [hw1]; exact heap_alloc_new _ _
  have hb1 : Below w.heap.size w w1 := by rw [hw1]; exact (Below.refl _ _).alloc (Nat.le_refl _) _
  have hz1 : w1.heap.size = w.heap.size + 1 := by rw [hw1]; simp
  rw [← hw1]
  clear hw1
  refine (HN.out _).mono ?_
  rintro x w2 ⟨rfl, hb2⟩
  have H0 := (hb2.block w.heap.size (by omega)).trans h0
  have hb : Below w.heap.size w w2 := hb1.trans (hb2.mono hb1.size)
  have c0 : w2.cell? ⟨w.heap.size, 0, none⟩ = some (.int .i64 seq) := by rw [cell_of_row _ _ _ _ _ _ H0]; rfl
  have c2 : w2.cell? ⟨w.heap.size, 2, none⟩ = some (.int .i64 day) := by rw [cell_of_row _ _ _ _ _ _ H0]; rfl
  have c3 : w2.cell? ⟨w.heap.size, 3, none⟩ = some (.int .i64 kind) := by rw [cell_of_row _ _ _ _ _ _ H0]; rfl
  have c4 : w2.cell? ⟨w.heap.size, 4, none⟩ = some (.int .i64 amount) := by rw [cell_of_row _ _ _ _ _ _ H0]; rfl
  have c5 : w2.cell? ⟨w.heap.size, 5, none⟩ = some (.int .i64 ref) := by rw [cell_of_row _ _ _ _ _ _ H0]; rfl
  clear h0 hb1 hb2 H0 hz1 HN HA
  cases nm
  all_goals
    simp only [Bool.false_eq_true, false_and, iff_false, true_and] at OK
    by_cases hk : kind = 5
    all_goals
      go_wp2
      all_goals
        go_ret
        refine ⟨⟨_, rfl, ?_⟩, hb⟩
        have ha1 := ha.out
        have ok1 := OK.out
        first
        | (simp [ok1]; done)
        | (rw [ok1]; simp at *; omega)
        | (rw [ok1]; omega)
set_option maxRecDepth 100000 in
set_option maxHeartbeats 4000000 in
theorem rCheck_any (e : Ev) (w : World) (hs : e.loan.size ≤ 9223372036854775806) :
    Calls Tryz.prog 22 #[e.val] w fun x w' => (∃ r, x = .returned (.int .i64 r) ∧ (r = 0 ↔ e.Ok)) ∧ Below w.heap.size w w' := by
  have HN := Lib.hid fun W => refLoan_any e.loan W hs
  have OK := Lib.hid e.ok_iff
  generalize hP : e.Ok = P at OK
  clear hP
  obtain ⟨seq, loan, day, kind, amount, ref⟩ := e
  unfold Ev.val evCells
  simp only at HN OK hs ⊢
  clear hs
  generalize nameOk loan = nm at *
  go_enter Tryz.func22, Tryz.ntmps22
  go_wp2_with fail
  obtain ⟨w1, hw1⟩ : ∃ w1, w1 = w.alloc (.cells #[.int .i64 seq, .string loan, .int .i64 day, .int .i64 kind, .int .i64 amount, .int .i64 ref] 39) := ⟨_, rfl⟩
  have h0 : w1.heap[w.heap.size]? = some (.cells #[.int .i64 seq, .string loan, .int .i64 day, .int .i64 kind, .int .i64 amount, .int .i64 ref] 39 (0, 0)) := by rw [hw1]; exact heap_alloc_new _ _
  have hb : Below w.heap.size w w1 := by rw [hw1]; exact (Below.refl _ _).alloc (Nat.le_refl _) _
  rw [← hw1]
  clear hw1
  refine (HN.out _).mono ?_
  rintro x w2 ⟨rfl, rfl⟩
  have c0 : w1.cell? ⟨w.heap.size, 0, none⟩ = some (.int .i64 seq) := by rw [cell_of_row _ _ _ _ _ _ h0]; rfl
  have c2 : w1.cell? ⟨w.heap.size, 2, none⟩ = some (.int .i64 day) := by rw [cell_of_row _ _ _ _ _ _ h0]; rfl
  have c3 : w1.cell? ⟨w.heap.size, 3, none⟩ = some (.int .i64 kind) := by rw [cell_of_row _ _ _ _ _ _ h0]; rfl
  have c4 : w1.cell? ⟨w.heap.size, 4, none⟩ = some (.int .i64 amount) := by rw [cell_of_row _ _ _ _ _ _ h0]; rfl
  have c5 : w1.cell? ⟨w.heap.size, 5, none⟩ = some (.int .i64 ref) := by rw [cell_of_row _ _ _ _ _ _ h0]; rfl
  clear h0 HN
  rcases (show kind = 1 ∨ kind = 2 ∨ kind = 4 ∨ kind = 3 ∨ kind = 5 ∨ (kind ≠ 1 ∧ kind ≠ 2 ∧ kind ≠ 4 ∧ kind ≠ 3 ∧ kind ≠ 5) by omega) with rfl | rfl | rfl | rfl | rfl | ⟨k1, k2, k3, k4, k5⟩
  all_goals cases nm
  all_goals
    simp only [Bool.false_eq_true, false_and, iff_false, true_and] at OK
    go_wp2
    all_goals
      go_ret
      refine ⟨⟨_, rfl, ?_⟩, hb⟩
      have ok1 := OK.out
      first
      | (simp [ok1]; done)
      | (rw [ok1]; simp at *; omega)
      | (rw [ok1]; omega)
end Go.Proofs.YtcbopgopegphlaaGreat

namespace Go.Proofs.YtcbopgopegphlaaGreat
open Go.RowKit
set_option linter.unusedVariables false

noncomputable def bcode (e : Ev) : Int := if nameOk e.loan = false then 51 else if e.day < -719162 ∨ 2932896 < e.day then 6 else if e.Ok then 0 else 52
set_option maxRecDepth 100000 in
set_option maxHeartbeats 4000000 in
theorem bCheck_code (e : Ev) (w : World) :
    Calls Tryz.prog 20 #[e.val] w fun x w' => x = .returned (.int .i64 (bcode e)) ∧ Below w.heap.size w w' := by
  have HN := Lib.hid fun W => Name_any e.loan W
  have HA := Lib.hid fun W => amounts_any e.kind W
  have ha : Hid ((amts e.kind).1 = (amts e.kind).1 ∧ (e.kind = 1 ∨ e.kind = 2 ∨ e.kind = 4) ∧ (amts e.kind).1 = 1 ∧ (amts e.kind).2 = 1000000000000000 ∨ e.kind = 3 ∧ (amts e.kind).1 = 0 ∧ (amts e.kind).2 = 1000000000 ∨ e.kind = 5 ∧ (amts e.kind).1 = 0 ∧ (amts e.kind).2 = 0 ∨ (e.kind ≠ 1 ∧ e.kind ≠ 2 ∧ e.kind ≠ 4 ∧ e.kind ≠ 3 ∧ e.kind ≠ 5) ∧ (amts e.kind).1 = 1 ∧ (amts e.kind).2 = 0) := Lib.hid (by
    unfold amts
    split
    · exact .inl ⟨rfl, by assumption, rfl, rfl⟩
    · split
      · exact .inr (.inl ⟨by assumption, rfl, rfl⟩)
      · split
        · exact .inr (.inr (.inl ⟨by assumption, rfl, rfl⟩))
        · exact .inr (.inr (.inr ⟨by omega, rfl, rfl⟩)))
  have OK := Lib.hid e.ok_iff
  have CODE : Hid (bcode e = if nameOk e.loan = false then 51 else if e.day < -719162 ∨ 2932896 < e.day then 6 else if e.Ok then 0 else 52) := Lib.hid rfl
  generalize bcode e = code at *
  obtain ⟨seq, loan, day, kind, amount, ref⟩ := e
  unfold Ev.val evCells
  simp only at HN HA ha CODE ⊢
  simp only at OK
  generalize (amts kind).1 = lo at *
  generalize (amts kind).2 = hi at *
  generalize nameOk loan = nm at *
  go_enter Tryz.func20, Tryz.ntmps20
  go_wp2_with fail
  refine (HA.out _).mono ?_
  rintro x w1 ⟨rfl, rfl⟩
  go_wp2_with fail
  obtain ⟨w1, hw1⟩ : ∃ w1, w1 = w.alloc (.cells #[.int .i64 seq, .string loan, .int .i64 day, .int .i64 kind, .int .i64 amount, .int .i64 ref] 39) := ⟨_, rfl⟩
  have h0 : w1.heap[w.heap.size]? = some (.cells #[.int .i64 seq, .string loan, .int .i64 day, .int .i64 kind, .int .i64 amount, .int .i64 ref] 39 (0, 0)) := by rw [hw1]; exact heap_alloc_new _ _
  have hb1 : Below w.heap.size w w1 := by rw [hw1]; exact (Below.refl _ _).alloc (Nat.le_refl _) _
  have hz1 : w1.heap.size = w.heap.size + 1 := by rw [hw1]; simp
  rw [← hw1]
  clear hw1
  refine (HN.out _).mono ?_
  rintro x w2 ⟨rfl, hb2⟩
  have H0 := (hb2.block w.heap.size (by omega)).trans h0
  have hb : Below w.heap.size w w2 := hb1.trans (hb2.mono hb1.size)
  have c0 : w2.cell? ⟨w.heap.size, 0, none⟩ = some (.int .i64 seq) := by rw [cell_of_row _ _ _ _ _ _ H0]; rfl
  have c2 : w2.cell? ⟨w.heap.size, 2, none⟩ = some (.int .i64 day) := by rw [cell_of_row _ _ _ _ _ _ H0]; rfl
  have c3 : w2.cell? ⟨w.heap.size, 3, none⟩ = some (.int .i64 kind) := by rw [cell_of_row _ _ _ _ _ _ H0]; rfl
  have c4 : w2.cell? ⟨w.heap.size, 4, none⟩ = some (.int .i64 amount) := by rw [cell_of_row _ _ _ _ _ _ H0]; rfl
  have c5 : w2.cell? ⟨w.heap.size, 5, none⟩ = some (.int .i64 ref) := by rw [cell_of_row _ _ _ _ _ _ H0]; rfl
  clear h0 hb1 hb2 H0 hz1 HN HA
  cases nm
  all_goals
    simp only [Bool.false_eq_true, false_and, iff_false, true_and] at OK
    by_cases hk : kind = 5
    all_goals
      go_wp2
      all_goals
        go_ret
        refine ⟨?_, hb⟩
        have ha1 := ha.out
        have ok1 := OK.out
        have cd := CODE.out
        first
        | (rw [cd, if_pos (by simp)]; rfl)
        | (rw [cd, if_neg (by simp), if_pos (by simp at *; omega)]; rfl)
        | (rw [cd, if_neg (by simp), if_pos (by omega)]; rfl)
        | (rw [cd, if_neg (by simp), if_neg (by omega), if_pos (by rw [ok1]; omega)]; rfl)
        | (rw [cd, if_neg (by simp), if_neg (by omega), if_pos (by rw [ok1]; simp at *; omega)]; rfl)
        | (rw [cd, if_neg (by simp), if_neg (by omega), if_neg (by rw [ok1]; omega)]; rfl)
        | (rw [cd, if_neg (by simp), if_neg (by omega), if_neg (by rw [ok1]; simp at *; omega)]; rfl)
end Go.Proofs.YtcbopgopegphlaaGreat

namespace Go.Proofs.YtcbopgopegphlaaGreat
open Go.RowKit
set_option linter.unusedVariables false

theorem rises_ge (a : Int) (l : List Int) (h : risesFrom a l) : a ≤ l.getLastD a := by
  induction l generalizing a with
  | nil => exact Int.le_refl _
  | cons x l ih =>
    have := ih x h.2.2
    have := h.1
    rw [List.getLastD_cons]
    omega
set_option maxRecDepth 100000 in
set_option maxHeartbeats 1600000 in
theorem refCheck_any (p : Prod) (A : Option Addr) (n c : Nat) (w : World) (hA : RdI w A n p.bounds) (hs : p.name.size ≤ 9223372036854775806) (hn : n ≤ 9223372036854775806) :
    Calls Tryz.prog 8 #[p.val (.slice A n c)] w fun e w' => e = .returned (.int .i64 (if p.Ok then 0 else 50)) ∧ Below w.heap.size w w' := by
  have HN := Lib.hid fun W => refLoan_any p.name W hs
  generalize hR : (if p.Ok then (0 : Int) else 50) = R
  have BAD : Hid (¬ p.Ok → R = 50) := Lib.hid fun h => by rw [← hR, if_neg h]
  have GOOD : Hid (p.Ok → R = 0) := Lib.hid fun h => by rw [← hR, if_pos h]
  clear hR
  obtain ⟨name, rate, conv, step, count, o1, o2, o3, bounds⟩ := p
  unfold Prod.val pCells
  simp only at HN hA hs ⊢
  clear hs
  go_enter Tryz.func8, Tryz.ntmps8
  go_wp2_with fail
  obtain ⟨w1, hw1⟩ : ∃ w1, w1 = (w.alloc (.cells #[.string name, .int .i64 rate, .int .i64 conv, .int .i64 step, .int .i64 count, .int .i64 o1, .int .i64 o2, .int .i64 o3, .slice A n c] 25)).alloc (.cells #[.int .i64 o1, .int .i64 o2, .int .i64 o3] 22) := ⟨_, rfl⟩
  have hz1 : w1.heap.size = w.heap.size + 2 := by rw [hw1]; simp
  have hb1 : Below w.heap.size w w1 := by rw [hw1]; exact ((Below.refl _ _).alloc (Nat.le_refl _) _).alloc (by simp) _
  have H0 : w1.heap[w.heap.size]? = some (.cells #[.string name, .int .i64 rate, .int .i64 conv, .int .i64 step, .int .i64 count, .int .i64 o1, .int .i64 o2, .int .i64 o3, .slice A n c] 25 (0, 0)) := by rw [hw1]; exact heap_old (heap_alloc_new _ _)
  have H1 : w1.heap[w.heap.size + 1]? = some (.cells #[.int .i64 o1, .int .i64 o2, .int .i64 o3] 22 (0, 0)) := by rw [hw1, ← World.size_alloc w]; exact heap_alloc_new _ _
  have HA := Lib.hid (hA.below hb1)
  have HLEN := Lib.hid HA.out.len
  rw [← hw1]
  clear hw1 hA
  refine (HN.out _).mono ?_
  rintro e w2 ⟨rfl, rfl⟩
  clear HN
  have c1 : w1.cell? ⟨w.heap.size, 1, none⟩ = some (.int .i64 rate) := by rw [cell_of_row _ _ _ _ _ _ H0]; rfl
  have c2 : w1.cell? ⟨w.heap.size, 2, none⟩ = some (.int .i64 conv) := by rw [cell_of_row _ _ _ _ _ _ H0]; rfl
  have c3 : w1.cell? ⟨w.heap.size, 3, none⟩ = some (.int .i64 step) := by rw [cell_of_row _ _ _ _ _ _ H0]; rfl
  have c4 : w1.cell? ⟨w.heap.size, 4, none⟩ = some (.int .i64 count) := by rw [cell_of_row _ _ _ _ _ _ H0]; rfl
  have c8 : w1.cell? ⟨w.heap.size, 8, none⟩ = some (.slice A n c) := by rw [cell_of_row _ _ _ _ _ _ H0]; rfl
  have d0 : w1.cell? ⟨w.heap.size + 1, 0, none⟩ = some (.int .i64 o1) := by rw [cell_of_row _ _ _ _ _ _ H1]; rfl
  have d1 : w1.cell? ⟨w.heap.size + 1, 1, none⟩ = some (.int .i64 o2) := by rw [cell_of_row _ _ _ _ _ _ H1]; rfl
  have d2 : w1.cell? ⟨w.heap.size + 1, 2, none⟩ = some (.int .i64 o3) := by rw [cell_of_row _ _ _ _ _ _ H1]; rfl
  clear H0 H1
  by_cases hhead : nameOk name = true ∧ 0 ≤ rate ∧ rate ≤ 1000000000 ∧ 1 ≤ conv ∧ conv ≤ 3 ∧ 1 ≤ step ∧ step ≤ 120 ∧ 1 ≤ count ∧ count ≤ 480 ∧ n ≤ 8
  case neg =>
    have hR50 : R = 50 := BAD.out fun h => hhead ⟨h.name, h.rate0, h.rate1, h.conv0, h.conv1, h.step0, h.step1, h.count0, h.count1, by have := h.len; have := HLEN.out; simp at *; omega⟩
    subst hR50
    have HH := Lib.hid hhead
    clear hhead BAD GOOD d0 d1 d2
    generalize nameOk name = nm at *
    cases nm
    all_goals
      go_wp2
      all_goals first
        | (go_ret; exact ⟨rfl, hb1⟩)
        | (exfalso; have := HH.out; simp at *; omega)
  obtain ⟨g0, g1, g2, g3, g4, g5, g6, g7, g8, g9⟩ := hhead
  have HN0 := Lib.hid g0
  have q1 : decide (rate < 0) = false := decide_eq_false (by omega)
  have q2 : decide (1000000000 < rate) = false := decide_eq_false (by omega)
  have q3 : decide (conv < 1) = false := decide_eq_false (by omega)
  have q4 : decide (3 < conv) = false := decide_eq_false (by omega)
  have q5 : decide (step < 1) = false := decide_eq_false (by omega)
  have q6 : decide (120 < step) = false := decide_eq_false (by omega)
  have q7 : decide (count < 1) = false := decide_eq_false (by omega)
  have q8 : decide (480 < count) = false := decide_eq_false (by omega)
  have q9 : decide ((8 : Int) < (n : Int)) = false := decide_eq_false (by omega)
  go_wp2
  clear q1 q2 q3 q4 q5 q6 q7 q8 q9 g0
  go_loopw [4] (fun s wr => ∃ k : Nat, 1 ≤ k ∧ k ≤ 4 ∧ s = .int .i64 k ∧ Hid (∀ m : Int, 1 ≤ m → m < k → o1 = m ∨ o2 = m ∨ o3 = m) ∧ wr = w1) (fun s _ => 4 - (intOf s).toNat)
  case atStart => exact ⟨1, by omega, by omega, rfl, Lib.hid (fun m h1 h2 => by omega), rfl⟩
  case round =>
    obtain ⟨k, k0, k1, rfl, hk, hwr⟩ := hrel
    subst hwr
    by_cases hlt : k ≤ 3
    · by_cases hin : o1 = k ∨ o2 = k ∨ o3 = k
      · have hnext : Hid (∀ m : Int, 1 ≤ m → m < ((k + 1 : Nat) : Int) → o1 = m ∨ o2 = m ∨ o3 = m) := Lib.hid fun m h1 h2 => by
          by_cases e : m = k
          · subst e; exact hin
          · exact hk.out m h1 (by omega)
        clear hk
        by_cases e1 : o1 = k
        · clear hin
          subst e1
          go_wp2
          go_roundw
          case rel => exact ⟨k + 1, by omega, by omega, by go_num, hnext, trivial⟩
          case measure => simp [intOf]; omega
        · by_cases e2 : o2 = k
          · have b1 : (o1 == (k : Int)) = false := by simp [e1]
            have b1n : (o1 != (k : Int)) = true := by simp [e1]
            clear hin
            subst e2
            go_wp2
            go_roundw
            case rel => exact ⟨k + 1, by omega, by omega, by go_num, hnext, trivial⟩
            case measure => simp [intOf]; omega
          · have b1 : (o1 == (k : Int)) = false := by simp [e1]
            have b2 : (o2 == (k : Int)) = false := by simp [e2]
            have b1n : (o1 != (k : Int)) = true := by simp [e1]
            have b2n : (o2 != (k : Int)) = true := by simp [e2]
            have e3 : o3 = k := by omega
            clear hin
            subst e3
            go_wp2
            go_roundw
            case rel => exact ⟨k + 1, by omega, by omega, by go_num, hnext, trivial⟩
            case measure => simp [intOf]; omega
      · have hR50 : R = 50 := BAD.out fun h => hin (h.order k (by omega) (by omega))
        subst hR50
        have b1 : (o1 == (k : Int)) = false := by simp; omega
        have b2 : (o2 == (k : Int)) = false := by simp; omega
        have b3 : (o3 == (k : Int)) = false := by simp; omega
        have b1n : (o1 != (k : Int)) = true := by simp; omega
        have b2n : (o2 != (k : Int)) = true := by simp; omega
        have b3n : (o3 != (k : Int)) = true := by simp; omega
        clear hin hk BAD GOOD
        go_wp2
        go_ret
        exact ⟨rfl, hb1⟩
    · have hO : Hid (orderOk o1 o2 o3) := Lib.hid fun m h1 h2 => hk.out m h1 (by omega)
      clear hk d0 d1 d2 c1 c2 c3 c4
      obtain ⟨wv, rfl⟩ : ∃ x, x = wr := ⟨_, rfl⟩
      have HSTEP := Lib.hid (rises_step bounds)
      have HTAKE := Lib.hid (rises_take bounds)
      have HGE := Lib.hid fun j h => rises_ge 0 (bounds.take j) h
      go_wp2
      go_loopw [81] (fun i wq => ∃ j : Nat, j ≤ n ∧ i = .int .i64 j ∧ Hid (risesFrom 0 (bounds.take j)) ∧ Below wv.heap.size wv wq) (fun i _ => n - (intOf i).toNat)
      case atStart => exact ⟨0, by omega, rfl, Lib.hid trivial, Below.refl _ _⟩
      case round =>
        obtain ⟨j, hj, rfl, hri, hbr⟩ := hrel
        have e8 : wr.cell? ⟨w.heap.size, 8, none⟩ = some (.slice A n c) := cell_later hbr c8
        have hbR : Below w.heap.size w wr := hb1.trans (hbr.mono hb1.size)
        by_cases hlt : j < n
        · obtain ⟨bk, off, rfl⟩ := HA.out.addr (by omega)
          have hlen := HLEN.out
          have hjl : j < bounds.length := by omega
          have hc := (HA.out.below hbr).cell j hjl
          have HS := Lib.hid (HSTEP.out j hjl)
          have HT := Lib.hid (HTAKE.out (j + 1))
          have hy0 := HGE.out j hri.out
          have hprev : Hid ((j = 0 ∧ (bounds.take j).getLastD 0 = 0) ∨ ∃ i, j = i + 1 ∧ wr.cell? ⟨bk, off + i, none⟩ = some (.int .i64 ((bounds.take j).getLastD 0))) := Lib.hid (by
            cases j with
            | zero => exact .inl ⟨rfl, rfl⟩
            | succ i =>
              refine .inr ⟨i, rfl, ?_⟩
              rw [(HSTEP.out i (by omega)).2]
              exact (HA.out.below hbr).cell i (by omega))
          clear hlen
          generalize bounds[j] = x at hc HS
          generalize (bounds.take j).getLastD 0 = y at HS hy0 hprev
          have hx : Hid (y < x ∧ x ≤ 100000 → risesFrom 0 (bounds.take (j + 1))) := Lib.hid fun h => HS.out.1.2 ⟨hri.out, h⟩
          have hnx : Hid (risesFrom 0 bounds → y < x ∧ x ≤ 100000) := Lib.hid fun h => (HS.out.1.1 (HT.out h)).2
          clear HS HT hri hjl
          by_cases hgood : y < x ∧ x ≤ 100000
          · have h1 : Hid (risesFrom 0 (bounds.take (j + 1))) := Lib.hid (hx.out hgood)
            clear hnx hx
            obtain ⟨hg1, hg2⟩ := hgood
            have hx1 : 1 ≤ x := by omega
            have t1 : decide (x < 1) = false := decide_eq_false (by omega)
            have t2 : decide (100000 < x) = false := decide_eq_false (by omega)
            have t3 : decide (x ≤ y) = false := decide_eq_false (by omega)
            rcases hprev.out with ⟨rfl, rfl⟩ | ⟨i, rfl, hcp⟩
            · clear hprev
              simp only [Nat.add_zero] at hc
              go_upto_region 12 with (fail)
              go_quiet (fail)
              go_wp2
              go_roundw
              case rel => exact ⟨_, by omega, by go_num, h1, below_drewN hbr _⟩
              case measure => simp [intOf]; omega
            · clear hprev
              have hc2 := hc
              rw [← Nat.add_assoc] at hc2
              go_upto_region 12 with (fail)
              go_quiet (fail)
              go_wp2
              go_roundw
              case rel => exact ⟨_, by omega, by go_num, h1, below_drewN hbr _⟩
              case measure => simp [intOf]; omega
          · have hR50 : R = 50 := BAD.out (fun h => hgood (hnx.out h.rises))
            subst hR50
            clear hnx hx BAD GOOD
            rcases hprev.out with ⟨rfl, rfl⟩ | ⟨i, rfl, hcp⟩
            · clear hprev
              simp only [Nat.add_zero] at hc
              rcases (show x < 1 ∨ 1 ≤ x ∧ 100000 < x by omega) with h1 | ⟨h1, h2⟩
              · have t1 : decide (x < 1) = true := decide_eq_true (by omega)
                go_upto_region 12 with (fail)
                go_quiet (fail)
                go_wp2
                go_ret
                exact ⟨rfl, below_drewN hbR _⟩
              · have t1 : decide (x < 1) = false := decide_eq_false (by omega)
                have t2 : decide (100000 < x) = true := decide_eq_true (by omega)
                go_upto_region 12 with (fail)
                go_quiet (fail)
                go_wp2
                go_ret
                exact ⟨rfl, below_drewN hbR _⟩
            · clear hprev
              have hc2 := hc
              rw [← Nat.add_assoc] at hc2
              rcases (show x < 1 ∨ 1 ≤ x ∧ 100000 < x ∨ 1 ≤ x ∧ x ≤ 100000 ∧ x ≤ y by omega) with h1 | ⟨h1, h2⟩ | ⟨h1, h2, h3⟩
              · have t1 : decide (x < 1) = true := decide_eq_true (by omega)
                go_upto_region 12 with (fail)
                go_quiet (fail)
                go_wp2
                go_ret
                exact ⟨rfl, below_drewN hbR _⟩
              · have t1 : decide (x < 1) = false := decide_eq_false (by omega)
                have t2 : decide (100000 < x) = true := decide_eq_true (by omega)
                go_upto_region 12 with (fail)
                go_quiet (fail)
                go_wp2
                go_ret
                exact ⟨rfl, below_drewN hbR _⟩
              · have t1 : decide (x < 1) = false := decide_eq_false (by omega)
                have t2 : decide (100000 < x) = false := decide_eq_false (by omega)
                have t3 : decide (x ≤ y) = true := decide_eq_true (by omega)
                go_upto_region 12 with (fail)
                go_quiet (fail)
                go_wp2
                go_ret
                exact ⟨rfl, below_drewN hbR _⟩
        · have hjn : j = n := by omega
          have hall : Hid (R = 0) := Lib.hid (GOOD.out ⟨HN0.out, g1, g2, g3, g4, g5, g6, g7, g8, hO.out, by have := HLEN.out; simp only; omega, by
            have h1 := hri.out
            rw [List.take_of_length_le (by rw [HLEN.out]; omega)] at h1
            exact h1⟩)
          go_wp2
          go_ret
          exact ⟨by rw [hall.out]; rfl, hbR⟩
end Go.Proofs.YtcbopgopegphlaaGreat
