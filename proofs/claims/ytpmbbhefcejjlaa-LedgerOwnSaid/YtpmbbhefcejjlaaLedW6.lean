/-
  The walks of a journal's small functions: New, Closed, Close, clone.
-/
import Derived.Test.YtpmbbhefcejjlaaLedW2
import Derived.Test.YtpmbbhefcejjlaaStruct
import Derived.Laws.CopyOwn
namespace Go.Proofs.Ytpmbbhefcejjlaa
open Go.RowKit
set_option linter.unusedVariables false

theorem New_any (w : World) :
    Calls Try.prog 13 #[] w fun e w' => e = .returned (.pointer (some ⟨w.heap.size, 0, none⟩)) ∧ w' = w.alloc (.cells #[.slice none 0 0, .int .i64 (-719163)] 70) := by
  go_enter Try.func13, Try.ntmps13
  go_wp2
  go_ret
  exact ⟨rfl, rfl⟩
theorem Closed_any (w : World) (g : Nat) (a : Value) (c : Int) (h : w.heap[g]? = some (.cells #[a, .int .i64 c] 70 (0, 0))) :
    Calls Try.prog 15 #[.pointer (some ⟨g, 0, none⟩)] w fun e w' => e = .returned (.int .i64 c) ∧ w' = w := by
  have h1 : w.cell? ⟨g, 1, none⟩ = some (.int .i64 c) := by rw [cell_of_row _ _ _ _ _ _ h]; rfl
  go_enter Try.func15, Try.ntmps15
  go_wp2
  go_ret
  exact ⟨rfl, rfl⟩
theorem Closed_nil (w : World) :
    Calls Try.prog 15 #[.pointer none] w fun e w' => e = .returned (.int .i64 0) ∧ w' = w := by
  go_enter Try.func15, Try.ntmps15
  go_wp2
  go_ret
  exact ⟨rfl, rfl⟩
theorem Close_nil (w : World) (d : Int) :
    Calls Try.prog 21 #[.pointer none, .int .i64 d] w fun e w' => e = .returned (.int .i64 1) ∧ w' = w := by
  go_enter Try.func21, Try.ntmps21
  go_wp2
  go_ret
  exact ⟨rfl, rfl⟩
/-- A day that can be closed. -/
theorem Close_ok (w : World) (g : Nat) (a : Value) (c d : Int) (hd0 : -719162 ≤ d) (hd1 : d ≤ 2932896) (hc : c < d) (h : w.heap[g]? = some (.cells #[a, .int .i64 c] 70 (0, 0))) :
    Calls Try.prog 21 #[.pointer (some ⟨g, 0, none⟩), .int .i64 d] w fun e w' => e = .returned (.int .i64 0) ∧ w' = w.setRow g #[a, .int .i64 d] := by
  have h1 : w.cell? ⟨g, 1, none⟩ = some (.int .i64 c) := by rw [cell_of_row _ _ _ _ _ _ h]; rfl
  have hf : w.frozen? ⟨g, 1, none⟩ = false := by simp [World.frozen?, h]
  have hr : w.setCell ⟨g, 1, none⟩ (.int .i64 d) = w.setRow g #[a, .int .i64 d] := by rw [setCell_eq_setRow w g 1 _ _ _ _ h]; rfl
  have HR := Lib.hid hr
  have HH := Lib.hid h
  clear h hr
  go_enter Try.func21, Try.ntmps21
  go_wp2
  go_ret
  exact ⟨rfl, HR.out⟩
theorem Close_late (w : World) (g : Nat) (a : Value) (c d : Int) (hd0 : -719162 ≤ d) (hd1 : d ≤ 2932896) (hc : d ≤ c) (h : w.heap[g]? = some (.cells #[a, .int .i64 c] 70 (0, 0))) :
    Calls Try.prog 21 #[.pointer (some ⟨g, 0, none⟩), .int .i64 d] w fun e w' => e = .returned (.int .i64 53) ∧ w' = w := by
  have h1 : w.cell? ⟨g, 1, none⟩ = some (.int .i64 c) := by rw [cell_of_row _ _ _ _ _ _ h]; rfl
  go_enter Try.func21, Try.ntmps21
  go_wp2
  go_ret
  exact ⟨rfl, rfl⟩
theorem Close_date (w : World) (g : Nat) (d : Int) (hd : d < -719162 ∨ 2932896 < d) :
    Calls Try.prog 21 #[.pointer (some ⟨g, 0, none⟩), .int .i64 d] w fun e w' => e = .returned (.int .i64 6) ∧ w' = w := by
  rcases hd with hd | hd
  all_goals
    go_enter Try.func21, Try.ntmps21
    go_wp2
    go_ret
    exact ⟨rfl, rfl⟩
theorem OwnL.empty (w : World) (base : Nat) (hb : base ≤ w.heap.size) : OwnL (w.alloc (.cells #[] 35)) base (.slice (some ⟨w.heap.size, 0, none⟩) 0 0) [] :=
  ⟨rfl, .inr ⟨w.heap.size, 0, #[], rfl, hb, heap_alloc_new _ _, Nat.le_refl _, by simp [maxLen], rfl, rfl⟩⟩
set_option maxRecDepth 100000 in
set_option maxHeartbeats 2000000 in
theorem CloneL_any (A : Option Addr) (m c : Nat) (ls : List (Int × Int)) (w : World) (hA : RdL w A m ls) (hm : m ≤ 4398046511104) :
    Calls Try.prog 42 #[.slice A m c] w fun e w' => ∃ v, e = .returned v ∧ OwnL w' w.heap.size v ls ∧ Below w.heap.size w w' := by
  cases A with
  | none =>
    have hn : m = 0 := by
      rcases Nat.eq_zero_or_pos m with h | h
      · exact h
      · obtain ⟨_, _, e⟩ := hA.addr h
        cases e
    have hl : ls = [] := List.eq_nil_of_length_eq_zero (by rw [hA.len, hn])
    subst hl
    subst hn
    have hown := OwnL.nil w w.heap.size
    have hq : ∀ w : World, (binOp .eql 25 (.slice none 0 c) (.slice none 0 0)).run Try.prog w = .ok (.bool true) w := fun _ => rfl
    clear hA
    go_enter Try.func42, Try.ntmps42
    go_wp2
    go_ret
    exact ⟨_, rfl, hown, Below.refl _ _⟩
  | some a =>
    have he := OwnL.empty w w.heap.size (Nat.le_refl _)
    have hr := hA.alloc (.cells #[] 35)
    have hq : ∀ w : World, (binOp .eql 25 (.slice (some a) m c) (.slice none 0 0)).run Try.prog w = .ok (.bool false) w := fun _ => rfl
    go_enter Try.func42, Try.ntmps42
    go_wp2_with (at_builtin; refine app_line rfl _ _ rfl w.heap.size _ [] rfl he _ m c ls rfl hr ?c1 ?c2 ?_)
    case c1 => simp; omega
    case c2 => simp
    intro v' w' hv hb _
    go_wp2
    go_ret
    exact ⟨_, rfl, hv, ((Below.refl _ _).alloc (Nat.le_refl _) _).trans hb⟩
/-- A posting as a value. -/
def pval (n d : Int) (s : ByteArray) (v : Value) : Value := .agg #[.int .i64 n, .int .i64 d, .string s, v]
set_option maxRecDepth 100000 in
set_option maxHeartbeats 2000000 in
theorem clone_any (n d : Int) (s : ByteArray) (A : Option Addr) (m c : Nat) (ls : List (Int × Int)) (w : World) (hA : RdL w A m ls) (hm : m ≤ 4398046511104) :
    Calls Try.prog 31 #[pval n d s (.slice A m c)] w fun e w' => ∃ v, e = .returned (pval n d s v) ∧ OwnL w' w.heap.size v ls ∧ Below w.heap.size w w' := by
  have HC := Lib.hid (CloneL_any A m c ls)
  unfold pval
  have hiP : ∀ v : Value, (Try.prog.info? 49).map (·.size) = some (#[Value.int .i64 n, .int .i64 d, .string s, v] : Array Value).size := fun v => by rw [show (#[Value.int .i64 n, .int .i64 d, .string s, v] : Array Value).size = 4 from rfl]; kernel_rfl
  have HI := Lib.hid hiP
  clear hiP
  have HA := Lib.hid hA
  clear hA
  go_enter Try.func31, Try.ntmps31
  go_wp2_with fail
  obtain ⟨w1, hw1⟩ : ∃ w1, w1 = (w.alloc (.cells #[.int .i64 n, .int .i64 d, .string s, .slice A m c] 49)).alloc (.cells #[.int .i64 0, .int .i64 0, .string ⟨#[]⟩, .slice none 0 0] 49) := ⟨_, rfl⟩
  have hz1 : w1.heap.size = w.heap.size + 2 := by rw [hw1]; simp
  have hb1 : Below w.heap.size w w1 := by rw [hw1]; exact ((Below.refl _ _).alloc (Nat.le_refl _) _).alloc (by simp) _
  have h0 : w1.heap[w.heap.size]? = some (.cells #[.int .i64 n, .int .i64 d, .string s, .slice A m c] 49 (0, 0)) := by rw [hw1]; exact heap_alloc_old (heap_alloc_new _ _)
  have h1 : w1.heap[w.heap.size + 1]? = some (.cells #[.int .i64 0, .int .i64 0, .string ⟨#[]⟩, .slice none 0 0] 49 (0, 0)) := by rw [hw1, ← World.size_alloc w]; exact heap_alloc_new _ _
  have HA1 : Hid (RdL w1 A m ls) := Lib.hid (by rw [hw1]; exact (HA.out.alloc _).alloc _)
  rw [← hw1]
  clear hw1
  refine (HC.out w1 HA1.out hm).mono ?_
  rintro e w2 ⟨v, rfl, hv, hb2⟩
  have hb02 : Below w.heap.size w w2 := hb1.trans (hb2.mono hb1.size)
  have h02 := (hb2.block w.heap.size (by omega)).trans h0
  have h12 := (hb2.block (w.heap.size + 1) (by omega)).trans h1
  have hz2 := hb2.size
  clear h0 h1 hb2 hb1
  obtain ⟨A', m', c', he, _⟩ := hv.form
  have hc : w2.cell? ⟨w.heap.size, 3, none⟩ = some (.slice A m c) := by rw [cell_of_row _ _ _ _ _ _ h02]; rfl
  have hf : w2.frozen? ⟨w.heap.size, 3, none⟩ = false := by simp [World.frozen?, h02]
  have hr : w2.setCell ⟨w.heap.size, 3, none⟩ v = w2.setRow w.heap.size #[.int .i64 n, .int .i64 d, .string s, v] := by rw [setCell_eq_setRow w2 w.heap.size 3 _ _ _ _ h02]; rfl
  obtain ⟨w3, hw3⟩ : ∃ w3, w3 = w2.setCell ⟨w.heap.size, 3, none⟩ v := ⟨_, rfl⟩
  have h03 : w3.heap[w.heap.size]? = some (.cells #[.int .i64 n, .int .i64 d, .string s, v] 49 (0, 0)) := by rw [hw3, hr]; exact setRow_heap _ _ _ _ _ _ h02
  have h13 : w3.heap[w.heap.size + 1]? = some (.cells #[.int .i64 0, .int .i64 0, .string ⟨#[]⟩, .slice none 0 0] 49 (0, 0)) := by rw [hw3, hr, setRow_other _ _ _ _ (by omega)]; exact h12
  have hb03 : Below w.heap.size w w3 := by rw [hw3, hr]; exact below_setRow hb02 (Nat.le_refl _) _
  have hv3 : OwnL w3 w1.heap.size v ls := by
    rw [hw3, hr]
    refine ⟨hv.1, ?_⟩
    rcases hv.2 with h2 | ⟨g, cap, cur, hg1, hg2, hg3, r⟩
    · exact .inl h2
    · exact .inr ⟨g, cap, cur, hg1, hg2, by rw [setRow_other _ _ _ _ (by omega)]; exact hg3, r⟩
  have hone : (#[Value.int .i64 n, .int .i64 d, .string s, v] : Array Value).all (·.oneCell') = true := by rw [he]; simp [Value.oneCell']
  have hi := HI.out v
  clear h02 h12 hr hv hb02
  subst he
  go_upto_region 2 with (fail)
  rw [← hw3]
  clear hw3 hc hf
  generalize hV : Value.slice A' m' c' = V at *
  go_wp2_with (first
    | (refine wpList_load_row rfl 49 _ rfl _ rfl _ _ _ _ h03 Try.underlying49 rfl hi ?_)
    | (refine wpList_store_rowTo rfl 49 _ _ rfl rfl _ _ rfl rfl _ _ h13 hi rfl hone ?_))
  refine bodyPost_ret (results_cell_row (fn := Try.f31) rfl _ _ (w.heap.size + 1) 49 _ (0, 0) _ rfl (setRow_heap _ _ _ _ _ _ h13) Try.underlying49 rfl hi) rfl ⟨V, rfl, ?_, below_setRow hb03 (by omega) _⟩
  refine OwnL.lower (base := w1.heap.size) ⟨hv3.1, ?_⟩ (by omega)
  rcases hv3.2 with h2 | ⟨g, cap, cur, hg1, hg2, hg3, r⟩
  · exact .inl h2
  · exact .inr ⟨g, cap, cur, hg1, hg2, by rw [setRow_other _ _ _ _ (by omega)]; exact hg3, r⟩
end Go.Proofs.Ytpmbbhefcejjlaa
