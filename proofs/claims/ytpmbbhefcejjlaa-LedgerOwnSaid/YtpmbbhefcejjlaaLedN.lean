/-
  The walks of a nil journal.
-/
import Derived.Test.YtpmbbhefcejjlaaLedW8
namespace Go.Proofs.Ytpmbbhefcejjlaa
open Go.RowKit
set_option linter.unusedVariables false

theorem Postings_nil (w : World) (a b : Int) :
    Calls Try.prog 16 #[.pointer none, .int .i64 a, .int .i64 b] w fun e w' => e = .returned (.slice none 0 0) ∧ w' = w := by
  go_enter Try.func16, Try.ntmps16
  go_wp2
  go_ret
  exact ⟨rfl, rfl⟩
theorem Balance_nil (w : World) (s : ByteArray) :
    Calls Try.prog 20 #[.pointer none, .string s] w fun e w' => e = .returned (.slice none 0 0) ∧ Below w.heap.size w w' := by
  go_enter Try.func20, Try.ntmps20
  go_wp2
  go_ret
  exact ⟨rfl, (Below.refl _ _).alloc (Nat.le_refl _) _⟩
set_option maxRecDepth 100000 in
set_option maxHeartbeats 2000000 in
theorem Post_nil (s t : St) (w : World) (d : Int) (l : ByteArray) :
    Calls Try.prog 19 #[.pointer none, .int .i64 d, .string l, s.val, t.val] w fun e w' => e = .returned (.tuple #[pval 0 0 ⟨#[]⟩ (.slice none 0 0), .bool false, .int .i64 1]) ∧ Below w.heap.size w w' := by
  rw [show s.val = .agg (stCells s) from rfl, show t.val = .agg (stCells t) from rfl]
  generalize stCells s = S at *
  generalize stCells t = T at *
  have hi := p_info 0 0 ⟨#[]⟩ (.slice none 0 0)
  unfold pCells at hi
  have HI := Lib.hid hi
  clear hi
  go_enter Try.func19, Try.ntmps19
  go_wp2_with fail
  refine bodyPost_ret (results_cell3 (fn := Try.f19) rfl _ _ (w.heap.size + 2) 49 _ (0, 0) _ rfl (by rw [show w.heap.size + 2 = ((w.alloc (.cells S 23)).alloc (.cells T 23)).heap.size by simp]; exact heap_alloc_new _ _) Try.underlying49 rfl HI.out) rfl ⟨rfl, (((Below.refl _ _).alloc (Nat.le_refl _) _).alloc (by simp) _).alloc (by simp; omega) _⟩
theorem make_map (w : World) : (Instr.makeMap 82 none).run Try.prog w = .ok (.map (some w.heap.size)) (w.alloc (.map #[] 0)) := rfl
theorem look_empty (w : World) (g : Nat) (a : Int) (hg : w.heap[g]? = some (.map #[] 0)) : (Instr.lookup 82 (.map (some g)) (.agg #[.int .i64 a]) false).run Try.prog w = .ok (.int .i64 0) w := by
  have h1 : (getObj g).run Try.prog w = .ok (.map #[] 0) w := by simp [getObj, Sem.run, hg]
  have h2 : (Instr.checkKey true 10000 84 (.agg #[.int .i64 a])).run Try.prog w = .ok () w := by kernel_rfl
  have h3 : (Instr.findKey 84 (.agg #[.int .i64 a]) []).run Try.prog w = .ok none w := by kernel_rfl
  have h4 : (zeroValue 2).run Try.prog w = .ok (.int .i64 0) w := by kernel_rfl
  have h5 := run_underlying Try.underlying82 w
  unfold Instr.lookup
  simp [h1, h2, h3, h4, h5]
set_option maxRecDepth 100000 in
set_option maxHeartbeats 2000000 in
theorem Sums_none (w : World) :
    Calls Try.prog 29 #[.slice none 0 0] w fun e w' => e = .returned (.slice none 0 0) ∧ Below w.heap.size w w' := by
  have HM := make_map
  have HE := Lib.hid look_empty
  have hG : Hid ((w.alloc (.map #[] 0)).heap[w.heap.size]? = some (.map #[] 0)) := Lib.hid (heap_alloc_new _ _)
  go_enter Try.func29, Try.ntmps29
  go_wp2_with fail
  go_loopw [14] (fun i wr => i = .int .i64 0 ∧ wr = w.alloc (.map #[] 0)) (fun _ _ => 0)
  case atStart => exact ⟨rfl, rfl⟩
  case round =>
    obtain ⟨rfl, rfl⟩ := hrel
    go_wp2_with fail
    go_loopw [8, 9] (fun v i wr => ∃ k : Nat, 1 ≤ k ∧ k ≤ 8 ∧ i = .int .i64 k ∧ v = .slice none 0 0 ∧ wr = w.alloc (.map #[] 0)) (fun _ i _ => 8 - (intOf i).toNat)
    case atStart => exact ⟨1, by omega, by omega, rfl, rfl, rfl⟩
    case round =>
      obtain ⟨k, hk1, hk8, rfl, rfl, rfl⟩ := hrel
      have hE := HE.out _ w.heap.size (k : Int) hG.out
      by_cases hlt : k ≤ 7
      · go_wp2
        go_roundw
        case rel => exact ⟨k + 1, by omega, by omega, by go_num, by first | trivial | rfl, by first | trivial | rfl⟩
        case measure => simp [intOf]; omega
      · go_wp2
        go_ret
        exact ⟨rfl, (Below.refl _ _).alloc (Nat.le_refl _) _⟩
theorem Trial_nil (w : World) (a b : Int) :
    Calls Try.prog 17 #[.pointer none, .int .i64 a, .int .i64 b] w fun e w' => e = .returned (.slice none 0 0) ∧ Below w.heap.size w w' := by
  have HP := Lib.hid (Postings_nil w a b)
  have HS := Lib.hid (Sums_none w)
  go_enter Try.func17, Try.ntmps17
  go_wp2_with fail
  refine HP.out.mono ?_
  rintro e w' ⟨rfl, rfl⟩
  go_wp2_with fail
  refine HS.out.mono ?_
  rintro e w' ⟨rfl, hb⟩
  go_wp2
  go_ret
  exact ⟨rfl, hb⟩
/-- A call of a journal. -/
structure Ac where
  kind : Int
  day : Int
  till : Int
  loan : ByteArray
  was : St
  now : St
def acCells (a : Ac) : Array Value := #[.int .i64 a.kind, .int .i64 a.day, .int .i64 a.till, .string a.loan] ++ stCells a.was ++ stCells a.now
def Ac.val (a : Ac) : Value := .agg (acCells a)
theorem ac_heads (a : Ac) : (acCells a)[1]? = some (.int .i64 a.day) ∧ (acCells a)[2]? = some (.int .i64 a.till) ∧ (acCells a)[3]? = some (.string a.loan) := by
  unfold acCells
  refine ⟨?_, ?_, ?_⟩ <;> (rw [Array.append_assoc, Array.getElem?_append_left (by simp)]; rfl)
theorem ac_was (a : Ac) (j : Nat) (u : Value) (h : (stCells a.was).toList[j]? = some u) : (acCells a)[4 + j]? = some u := by
  have hj : j < 12 := by
    have := (List.getElem?_eq_some_iff.1 h).1
    simpa [stCells] using this
  unfold acCells
  rw [Array.getElem?_append_left (by simp [stCells]; omega), Array.getElem?_append_right (by simp)]
  simpa using h
theorem ac_now (a : Ac) (j : Nat) (u : Value) (h : (stCells a.now).toList[j]? = some u) : (acCells a)[16 + j]? = some u := by
  unfold acCells
  rw [Array.getElem?_append_right (by simp [stCells])]
  simpa [stCells] using h
section
variable {P : Program}
/-- A whole value out of the midst of a row. -/
theorem load_mid {ops : Array Oper} {rest : List Oper} {o : Oper} {a : Act} {w : World} {Q : Exit → Act → World → Prop} (hgd : o.guard = none) (ty : TypeId) (x : Operand) (ho : o.op = .load ty x)
    (g off : Nat) (hx : a.eval x = .pointer (some ⟨g, off, none⟩)) (cs : Array Value) (d : TypeDesc) (hc : ∀ j u, cs.toList[j]? = some u → w.cell? ⟨g, off + j, none⟩ = some u)
    (hu : P.underlying ty = some d) (hd : (match d with | .struct _ | .array _ _ => true | _ => false) = true) (hi : (P.info? ty).map (·.size) = some cs.size)
    (h : wpList P ops Q rest (a.put o.dst (.agg cs)) w) : wpList P ops Q (o :: rest) a w := by
  refine run_to hgd o.dst rfl (.agg cs) w ?_ h
  have hl : (loadCells ⟨g, off, none⟩ cs.toList.length).run P w = .ok cs.toList.toArray w :=
    run_loadCells_list (P := P) w ⟨g, off, none⟩ cs.toList (fun j v hv => by
      have hadd : (⟨g, off, none⟩ : Addr).add j = ⟨g, off + j, none⟩ := by unfold Addr.add; split <;> simp_all
      rw [hadd]
      exact hc j v hv)
  cases hq : P.info? ty with
  | none => simp [hq] at hi
  | some i =>
    have hs : i.size = cs.size := by simpa [hq] using hi
    have hagg : (isAgg ty).run P w = .ok true w := by
      unfold isAgg
      rw [Sem.run_bind, run_underlying hu w]
      cases d <;> simp_all
    simp only [Array.length_toList, Array.toArray_toList] at hl
    simp [execOp, ho, hx, Instr.loadAt, Instr.sureAddr, loadVar, Sem.run_bind, hagg, sizeOf, typeInfo, hq, hs, hl]
end
end Go.Proofs.Ytpmbbhefcejjlaa
