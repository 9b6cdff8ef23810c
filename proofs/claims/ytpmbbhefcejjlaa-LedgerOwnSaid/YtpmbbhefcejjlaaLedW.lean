/-
  The walks of lines: amounts, within, even.
-/
import Derived.Test.YtpmbbhefcejjlaaLedP
namespace Go.Proofs.Ytpmbbhefcejjlaa
open Go.RowKit
set_option linter.unusedVariables false

set_option maxRecDepth 100000 in
set_option maxHeartbeats 2000000 in
theorem even_any (s : St) (w : World) (h : Within s) :
    Calls Try.prog 27 #[s.val] w fun e w' => e = .returned (.bool (decide (Even s))) ∧ Below w.heap.size w w' := by
  have he : decide (Even s) = (s.p + s.i + s.f - s.c == s.o + s.a + s.ch - s.n) := by rw [Bool.eq_iff_iff, decide_eq_true_iff, beq_iff_eq]; rfl
  rw [he]
  clear he
  obtain ⟨⟨p0, p1⟩, ⟨i0, i1⟩, ⟨f0, f1⟩, ⟨c0, c1⟩, ⟨o0, o1⟩, ⟨n0, n1⟩, ⟨a0, a1⟩, ⟨h0, h1⟩⟩ := h.all
  clear h
  obtain ⟨day, rate, p, i, f, c, o, n, a, ch, late, bk⟩ := s
  simp only [St.val] at *
  go_enter Try.func27, Try.ntmps27
  go_wp2
  go_ret
  exact ⟨rfl, (Below.refl _ _).alloc (Nat.le_refl _) _⟩

set_option maxRecDepth 100000 in
set_option maxHeartbeats 2000000 in
theorem amounts_any (s : St) (w : World) (h : Within s) :
    Calls Try.prog 25 #[s.val] w fun e w' => e = .returned (.agg ((amts s).map fun x => Value.int .i64 x).toArray) ∧ Below w.heap.size w w' := by
  obtain ⟨⟨p0, p1⟩, ⟨i0, i1⟩, ⟨f0, f1⟩, ⟨c0, c1⟩, ⟨o0, o1⟩, ⟨n0, n1⟩, ⟨a0, a1⟩, ⟨h0, h1⟩⟩ := h.all
  clear h
  obtain ⟨day, rate, p, i, f, c, o, n, a, ch, late, bk⟩ := s
  simp only [St.val, amts] at *
  go_enter Try.func25, Try.ntmps25
  go_wp2
  refine bodyPost_ret (results_cell_row (fn := Try.f25) rfl _ _ (w.heap.size + 1) 66 _ (0, 0) _ rfl (by rw [← World.size_alloc w]; exact heap_alloc_new _ _) Try.underlying66 rfl (by kernel_rfl)) rfl ⟨rfl, ((Below.refl _ _).alloc (Nat.le_refl _) _).alloc (by simp) _⟩

/-- The eight amounts as they lie in a row. -/
def eightCells (s : St) : Array Value := ((eight s).map fun x => Value.int .i64 x).toArray
theorem eight_cell (s : St) (j : Nat) (h : j < 8) : (eightCells s)[j]? = some (.int .i64 ((eight s).getD j 0)) := by
  have hl : j < (eight s).length := h
  simp [eightCells, List.getD, List.getElem?_eq_getElem hl]
theorem within_of (s : St) (h : ∀ m, m < 8 → fits ((eight s).getD m 0)) : Within s := by
  intro x hx
  obtain ⟨m, hm, rfl⟩ := List.mem_iff_getElem.1 hx
  have := h m hm
  simpa [List.getD, List.getElem?_eq_getElem hm] using this
theorem not_within (s : St) (m : Nat) (hm : m < 8) (h : ¬ fits ((eight s).getD m 0)) : ¬ Within s := by
  intro hw
  have hl : m < (eight s).length := hm
  apply h
  have := hw _ (List.getElem_mem hl)
  simpa [List.getD, List.getElem?_eq_getElem hl] using this

set_option maxRecDepth 100000 in
set_option maxHeartbeats 2000000 in
theorem within_any (s : St) (w : World) :
    Calls Try.prog 26 #[s.val] w fun e w' => e = .returned (.bool (decide (Within s))) ∧ Below w.heap.size w w' := by
  have HC := Lib.hid (eight_cell s)
  have HW := Lib.hid (within_of s)
  have HN := Lib.hid (not_within s)
  have HE : Hid (eightCells s = #[.int .i64 s.p, .int .i64 s.i, .int .i64 s.f, .int .i64 s.c, .int .i64 s.o, .int .i64 s.n, .int .i64 s.a, .int .i64 s.ch]) := Lib.hid rfl
  simp only [St.val]
  generalize hd : decide (Within s) = d
  have HD := Lib.hid hd
  clear hd
  go_enter Try.func26, Try.ntmps26
  go_wp2
  go_loopw [24] (fun i wr => ∃ j : Nat, j ≤ 8 ∧ i = .int .i64 j ∧ Hid (∀ m, m < j → fits ((eight s).getD m 0)) ∧ wr.heap[w.heap.size + 1]? = some (.cells (eightCells s) 2 (0, 0)) ∧ Below w.heap.size w wr) (fun i _ => 8 - (intOf i).toNat)
  case atStart => exact ⟨0, by omega, rfl, Lib.hid (fun m h => by omega), by rw [HE.out, ← World.size_alloc w]; exact heap_alloc_new _ _, ((Below.refl _ _).alloc (Nat.le_refl _) _).alloc (by simp) _⟩
  case round =>
    obtain ⟨j, hj, rfl, hok, hh, hb⟩ := hrel
    have HH := Lib.hid hh
    clear hh
    by_cases hlt : j < 8
    · have hcell : wr.cell? ⟨w.heap.size + 1, j, none⟩ = some (.int .i64 ((eight s).getD j 0)) := by rw [cell_of_row _ _ _ _ _ _ HH.out]; exact HC.out j hlt
      have hno := Lib.hid (HN.out j hlt)
      have hyes : Hid (fits ((eight s).getD j 0) → ∀ m, m < j + 1 → fits ((eight s).getD m 0)) := Lib.hid fun h m hm => by
        rcases Nat.lt_or_ge m j with h1 | h1
        · exact hok.out m h1
        · obtain rfl : m = j := by omega
          exact h
      generalize (eight s).getD j 0 = x at hcell hno hyes
      by_cases hf : fits x
      · have hyes1 := Lib.hid (hyes.out hf)
        obtain ⟨f0, f1⟩ := hf
        go_wp2
        go_roundw
        case rel => exact ⟨j + 1, by omega, by go_num, hyes1, HH.out, hb⟩
        case measure => simp [intOf]; omega
      · have hd0 : d = false := by rw [← HD.out, decide_eq_false (hno.out hf)]
        subst hd0
        rcases (show x < -4000000000000000 ∨ 4000000000000000 < x by unfold fits at hf; omega) with h1 | h1
        all_goals
          go_wp2
          go_ret
          exact ⟨rfl, hb⟩
    · have hd1 : d = true := by rw [← HD.out, decide_eq_true (HW.out fun m hm => hok.out m (by omega))]
      subst hd1
      go_wp2
      go_ret
      exact ⟨rfl, hb⟩
end Go.Proofs.Ytpmbbhefcejjlaa
