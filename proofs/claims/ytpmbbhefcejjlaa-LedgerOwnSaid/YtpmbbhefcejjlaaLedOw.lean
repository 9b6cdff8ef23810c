/-
  What LedgerOwn's walk wants beside told: lines written over. No statement is proved here.
-/
import Derived.Deep.CutBlock
import Derived.Deep.CutRange
import Derived.Test.YtpmbbhefcejjlaaLedTd
namespace Go.Proofs.Ytpmbbhefcejjlaa
open Go.RowKit
set_option linter.unusedVariables false
theorem rNew_any (w : World) :
    Calls Try.prog 22 #[] w fun e w' => e = .returned (.pointer (some ⟨w.heap.size, 0, none⟩)) ∧ w' = w.alloc (.cells #[.slice none 0 0, .int .i64 (-719163)] 79) := by
  go_enter Try.func22, Try.ntmps22
  go_wp2
  go_ret
  exact ⟨rfl, rfl⟩
theorem Tw.start (w : World) (base : Nat) (hb : base ≤ w.heap.size) : Tw ((w.alloc (.cells #[.slice none 0 0, .int .i64 (-719163)] 70)).alloc (.cells #[.slice none 0 0, .int .i64 (-719163)] 79)) w.heap.size (w.heap.size + 1) base (fun _ => False) [] [] (-719163) := by
  refine ⟨⟨.slice none 0 0, [], .slice none 0 0, [], ⟨heap_alloc_old (heap_alloc_new _ _), OwnJ.nil _ _, hb⟩, rfl, ⟨?_, OwnJ.nil _ _, by omega⟩, rfl, fun k hk => ⟨fun hk2 => ?_, fun h => h⟩, fun k hk h => h⟩, by simp, by simp, by simp, by simp, by omega, by simp; omega⟩
  · rw [← World.size_alloc w]; exact heap_alloc_new _ _
  · rcases hk with rfl | hk | ⟨q, hq, _⟩
    · rcases hk2 with hk2 | hk2 | ⟨q, hq, _⟩
      · omega
      · simp [Value.ownBlock] at hk2
      · cases hq
    · simp [Value.ownBlock] at hk
    · cases hq
theorem RowT.setAny {t : TypeId} {b k g : Nat} : ∀ (vs : List Value) (o : Nat) {W : World}, RowT W t b k → RowT (W.setCells g o vs) t b k
  | [], _, _, h => h
  | v :: vs, o, W, h => RowT.setAny vs (o + 1) (by
    by_cases e : b = g
    · subst e; exact h.set o v
    · exact h.same (heap_setCell_other _ _ _ _ (by intro e2; exact e (by first | exact e2 | exact e2.symm))))
/-- Postings whose lines may be written over. -/
structure LR (W : World) (lo vb : Nat) (qs : List PR) : Prop where
  cells : ∀ j (hj : j < qs.length), W.cell? ⟨vb, j * 4 + 3, none⟩ = some qs[j].lv
  each : ∀ q ∈ qs, ∃ A m c, q.lv = .slice A m c ∧ m ≤ c ∧ c ≤ maxLen ∧ m = q.p.lines.length ∧ (0 < m → ∃ b, A = some ⟨b, 0, none⟩ ∧ lo ≤ b ∧ b ≠ vb ∧ RowT W 35 b (m * 2))
theorem LR.sets {W : World} {lo vb b : Nat} {qs : List PR} (h : LR W lo vb qs) (hb : b ≠ vb) (o : Nat) (vs : List Value) : LR (W.setCells b o vs) lo vb qs := by
  refine ⟨fun j hj => ?_, fun q hq => ?_⟩
  · have := h.cells j hj
    rw [← this]
    exact World.cell?_of_block (heap_setCells_other _ _ _ (fun e => hb e.symm))
  · obtain ⟨A, m, c, h1, h2, h3, h4, h5⟩ := h.each q hq
    exact ⟨A, m, c, h1, h2, h3, h4, fun h0 => by
      obtain ⟨b', e1, e2, e3, e4⟩ := h5 h0
      exact ⟨b', e1, e2, e3, e4.setAny _ _⟩⟩
theorem OwnJ.lr {w : World} {base : Nat} {v : Value} {qs : List PR} (h : OwnJ w base v qs) (hn : 0 < qs.length) : ∃ g c, v = .slice (some ⟨g, 0, none⟩) qs.length c ∧ qs.length ≤ c ∧ LR w base g qs := by
  obtain ⟨g, c, h1, h2, h3⟩ := h.rw hn
  refine ⟨g, c, h1, h2, fun j hj => h3.cells j hj 3 _ rfl, fun q hq => ?_⟩
  have ho := h3.each q hq
  obtain ⟨A, m, cc, el, hm, hl1, hl2, _⟩ := ho.form
  refine ⟨A, m, cc, el, hl1, hl2, hm.out.symm, fun h0 => ?_⟩
  have hm := hm.out
  subst hm
  unfold OwnL at ho
  rw [el] at ho
  obtain ⟨b, e1, e2, _, e4⟩ := own_rowT ho h0
  exact ⟨b, e1, e2, own_ne ho h3.row (by decide) (by rw [e1]; rfl), e4⟩
theorem built_ln0 : Try.prog.built 35 [] = some #[.int .i64 0, .int .i64 0] := by kernel_rfl
theorem built_ln9 : Try.prog.built 35 [(0, .int .i64 9)] = some #[.int .i64 9, .int .i64 0] := by kernel_rfl
theorem info_ln : (Try.prog.info? 35).map (·.size) = some 2 := by kernel_rfl
def CEnd : Array Value := acCells ⟨0, -719162, 2932896, ⟨#[97]⟩, ⟨0, 0, 0, 0, 0, 0, 0, 0, 0, 0, 0, 0⟩, ⟨0, 0, 0, 0, 0, 0, 0, 0, 0, 0, 0, 0⟩⟩
theorem built_end : Try.prog.built 55 [(1, .int .i64 (-719162)), (2, .int .i64 2932896), (3, .string ⟨#[97]⟩)] = some CEnd := by kernel_rfl
theorem info_act (a : Ac) : (Try.prog.info? 55).map (·.size) = some (acCells a).size := by
  rw [show (acCells a).size = 28 by simp [acCells, stCells]]; kernel_rfl
theorem zsize_act (a : Ac) : ((Try.prog.info? 55).bind (·.zero)).map (·.cells.size) = some (acCells a).size := by
  rw [show (acCells a).size = 28 by simp [acCells, stCells]]; kernel_rfl
theorem ones_act (a : Ac) : (acCells a).all (·.oneCell') = true := by simp [acCells, stCells, Value.oneCell']
theorem zsize_post : ((Try.prog.info? 49).bind (·.zero)).map (·.cells.size) = some 4 := by kernel_rfl
theorem built_0 {P : Program} {t : TypeId} {C : Array Value} (h : P.built t [] = some C) (a : Act) : P.built t ((#[] : Array (Nat × Operand)).map fun (i, x) => (i, a.eval x)).toList = some C := by
  rw [← h]
  simp
theorem built_1 {P : Program} {t : TypeId} {i : Nat} {V : Value} {C : Array Value} (h : P.built t [(i, V)] = some C) (a : Act) (x : Operand) (hx : a.eval x = V) :
    P.built t ((#[(i, x)] : Array (Nat × Operand)).map fun (i, x) => (i, a.eval x)).toList = some C := by
  rw [← h, ← hx]; simp
theorem built_3 {P : Program} {t : TypeId} {i j k : Nat} {V U T : Value} {C : Array Value} (h : P.built t [(i, V), (j, U), (k, T)] = some C) (a : Act) (x y z : Operand) (hx : a.eval x = V) (hy : a.eval y = U) (hz : a.eval z = T) :
    P.built t ((#[(i, x), (j, y), (k, z)] : Array (Nat × Operand)).map fun (i, x) => (i, a.eval x)).toList = some C := by
  rw [← h, ← hx, ← hy, ← hz]; simp
theorem RdAc.mid {w W : World} {A : Option Addr} {n : Nat} {acs : List Ac} {b off : Nat} (h : RdAc w A n acs) (hA : A = some ⟨b, off, none⟩) (hW : Below w.heap.size w W) (k : Nat) (hk : k < acs.length) (C : Array Value) (hC : C = acCells acs[k]) (j : Nat) (u : Value) (hu : C.toList[j]? = some u) : W.cell? ⟨b, off + k * 28 + j, none⟩ = some u := by
  obtain ⟨b', off', e, hc⟩ := h.ex (by have := h.len; omega)
  rw [hA] at e
  injection e with e
  injection e with e1 e2
  subst e1 e2
  rw [Array.getElem?_toList, hC] at hu
  have h1 := hc k hk j u hu
  exact (hW.cell (p := ⟨b, off + k * 28 + j, none⟩) (World.block_lt_of_cell? w _ h1)).trans h1
theorem Tw.post2 {w : World} {g h base : Nat} {F : Nat → Prop} {ps ps' : List PV} {cl : Int} (hT : Tw w g h base F ps ps' cl) (hF : ∀ k, F k → k < w.heap.size) (s t : St) (day : Int) (loan : ByteArray) :
    Calls Try.prog 19 #[.pointer (some ⟨g, 0, none⟩), .int .i64 day, .string loan, .agg (stCells s), .agg (stCells t)] w fun e w' => ∃ S A m c ok er, e = .returned (.tuple #[.agg S, .bool ok, .int .i64 er]) ∧ S[3]? = some (.slice A m c) ∧ (Try.prog.info? 49).map (·.size) = some S.size ∧ ((Try.prog.info? 49).bind (·.zero)).map (·.cells.size) = some S.size ∧ S.all (·.oneCell') = true ∧ m ≤ 7 ∧
      TwP w w' g h base F (addP ps (postR ps.length cl day loan s t).2) ps' cl A m := by
  refine (hT.post hF s t day loan).mono ?_
  rintro e w' ⟨pn, pd, pl, A, m, c, ok, er, rfl, hm, hP⟩
  exact ⟨_, A, m, c, ok, er, rfl, rfl, post_isize, zsize_post, by simp [Value.oneCell'], hm, hP⟩
theorem ac_cells {W : World} {ga : Nat} {ac : Ac} (hW : W.heap[ga]? = some (.cells (acCells ac) 55 (0, 0))) :
    W.cell? ⟨ga, 1, none⟩ = some (.int .i64 ac.day) ∧ W.cell? ⟨ga, 3, none⟩ = some (.string ac.loan) ∧ (∀ j u, (stCells ac.was).toList[j]? = some u → W.cell? ⟨ga, 4 + j, none⟩ = some u) ∧ ∀ j u, (stCells ac.now).toList[j]? = some u → W.cell? ⟨ga, 16 + j, none⟩ = some u := by
  obtain ⟨a1, _, a3⟩ := ac_heads ac
  exact ⟨by rw [cell_of_row _ _ _ _ _ _ hW]; exact a1, by rw [cell_of_row _ _ _ _ _ _ hW]; exact a3, fun j u hu => by rw [cell_of_row _ _ _ _ _ _ hW]; exact ac_was ac j u hu, fun j u hu => by rw [cell_of_row _ _ _ _ _ _ hW]; exact ac_now ac j u hu⟩
theorem kept_wr {w a : World} {B : Nat → Prop} {g : Nat} (h : Kept B w a) (hB : B g) (o : Nat) (vs : List Value) : Kept B w (a.setCells g o vs) := by
  have hb := below_sets (B := 0) (a := a) (g := g) vs o (Nat.zero_le _) (Below.refl 0 a)
  exact ⟨hb.os.trans h.os, hb.tape.trans h.tape, hb.output.trans h.output, by rw [size_setCells]; exact h.size, fun k hk hne => (heap_setCells_other _ _ _ (fun e => hne (by rw [e]; exact hB))).trans (h.block k hk hne)⟩
theorem Kept.refl (B : Nat → Prop) (w : World) : Kept B w w := ⟨rfl, rfl, rfl, Nat.le_refl _, fun _ _ _ => rfl⟩
end Go.Proofs.Ytpmbbhefcejjlaa
