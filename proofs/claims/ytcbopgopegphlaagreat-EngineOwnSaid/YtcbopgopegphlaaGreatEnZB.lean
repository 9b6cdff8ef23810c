/-
  The reference's engine: its AsOf (printed by gen_enz2.py). No statement is proved here.
-/
import Derived.Test.YtcbopgopegphlaaGreatEnZ
namespace Go.Proofs.YtcbopgopegphlaaGreat
open Go.RowKit
set_option linter.unusedVariables false
section
variable {P : Program}
theorem exec_mid {ev : Operand → Value} {o : Oper} {w : World} (ty : TypeId) (x : Operand) (ho : o.op = .load ty x)
    (g off : Nat) (hx : ev x = .pointer (some ⟨g, off, none⟩)) (cs : Array Value) (d : TypeDesc) (hc : ∀ j u, cs.toList[j]? = some u → w.cell? ⟨g, off + j, none⟩ = some u)
    (hu : P.underlying ty = some d) (hd : (match d with | .struct _ | .array _ _ => true | _ => false) = true) (hi : (P.info? ty).map (·.size) = some cs.size) : (execOp ev o).run P w = .ok (.value (.agg cs)) w := by
  have hl : (loadCells ⟨g, off, none⟩ cs.toList.length).run P w = .ok cs.toList.toArray w :=
    run_loadCells_list (P := P) w ⟨g, off, none⟩ cs.toList (fun j v hv => by
      have hadd : (⟨g, off, none⟩ : Addr).add j = ⟨g, off + j, none⟩ := by unfold Addr.add; split <;> simp_all
      rw [hadd]
      exact hc j v hv)
  cases hq : P.info? ty with
  | none => simp [hq] at hi
  | some i =>
    have hs : i.size = cs.size := by simpa [hq] using hi
    have hagg : (isAgg ty).run P w = .ok true w := by
      unfold isAgg
      rw [Sem.run_bind, run_underlying hu w]
      cases d <;> simp_all
    simp only [Array.length_toList, Array.toArray_toList] at hl
    simp [execOp, ho, hx, Instr.loadAt, Instr.sureAddr, loadVar, Sem.run_bind, hagg, sizeOf, typeInfo, hq, hs, hl]
end
theorem r_push (p : Prod) (B v : Value) : rCells p B v = (pCells p B).push v := rfl
theorem cell_p {w : World} {gr : Nat} {p : Prod} {B v : Value} {t : TypeId} (h : w.heap[gr]? = some (.cells (rCells p B v) t (0, 0))) (j : Nat) (u : Value) (hu : (pCells p B).toList[j]? = some u) : w.cell? ⟨gr, 0 + j, none⟩ = some u := by
  rw [cell_of_row _ _ _ _ _ _ h, Nat.zero_add, r_push]
  have hj : j < (pCells p B).size := by simpa using (List.getElem?_eq_some_iff.1 hu).1
  rw [Array.getElem?_push, if_neg (by omega)]
  simpa using hu
structure G1R (w : World) (S Z : Array Value) (L : Nat → Bool) (v : World) : Prop where
  low : Below w.heap.size w v
  row : v.heap[w.heap.size]? = some (.cells (if L 14 = true then S else Z) 45 (0, 0))
theorem G1R.to {w v v' : World} {S Z : Array Value} {L : Nat → Bool} {i : Nat} (hi : i ≠ 14) (h : G1R w S Z L v) (hb : Below v.heap.size v v') : G1R w S Z (upd L i) v' :=
  ⟨h.low.trans (hb.mono h.low.size), by rw [upd_other (fun e => hi e.symm)]; exact (hb.block _ (Array.getElem?_eq_some_iff.1 h.row).1).trans h.row⟩
def T1R (gr : Nat) (PC S : Array Value) (E : Option Addr) (m ce : Nat) (K : List Ev) (d b e : Int) (L : Nat → Bool) (i : Nat) (u : Value) (v : World) : Prop :=
  match i with
  | 0 => u = .pointer (some ⟨gr, 0, none⟩)
  | 1 => u = .pointer (some ⟨gr, 0, none⟩)
  | 2 => u = .pointer (some ⟨gr, 0, none⟩)
  | 3 => u = .agg PC
  | 4 => u = .pointer (some ⟨gr, 0, none⟩)
  | 5 => u = .pointer (some ⟨gr, 0, none⟩)
  | 6 => u = .pointer (some ⟨gr, 9, none⟩)
  | 7 => u = .slice E m ce
  | 8 => u = .int .i64 b
  | 9 => L 11 = false → ∃ E' k c', u = .slice E' k c' ∧ RdE v E' k K
  | 10 => u = .int .i64 d
  | 11 => u = .tuple #[.agg S, .int .i64 e]
  | 12 => u = .agg S
  | 13 => u = .int .i64 e
  | 15 => u = .int .i64 e
  | _ => True
theorem T1R_keep {gr : Nat} {PC S : Array Value} {E : Option Addr} {m ce : Nat} {K : List Ev} {d b e : Int} {L : Nat → Bool} {i jj : Nat} {u : Value} {v w2 : World} (hb : Below v.heap.size v w2) (h : T1R gr PC S E m ce K d b e L jj u v) : T1R gr PC S E m ce K d b e (upd L i) jj u w2 := by
  unfold T1R at h ⊢
  split at h <;> first
    | exact h
    | (intro h0; obtain ⟨E', k, c', h1, h2⟩ := h (upd_false h0); exact ⟨E', k, c', h1, h2.below hb⟩)
set_option maxRecDepth 100000 in
set_option maxHeartbeats 4000000 in
theorem rAsOf_any (gr : Nat) (p : Prod) (A : Option Addr) (n c : Nat) (E : Option Addr) (m ce : Nat) (l : List Ev) (d b : Int) (w : World) (h : RefAt w gr p (.slice A n c) E m ce l) (hA : RdI w A n p.bounds) (hs : p.name.size ≤ 9223372036854775806) (hn : n ≤ 9223372036854775806) (hm : m ≤ 4096) (hl : ∀ e ∈ l, e.loan.size ≤ 9223372036854775806) (hr : Rising l) :
    Calls Tryz.prog 12 #[.pointer (some ⟨gr, 0, none⟩), .int .i64 d, .int .i64 b] w fun x w' => x = .returned (.tuple #[(replayAns p (knownOf l b) d).1.val, .int .i64 (replayAns p (knownOf l b) d).2]) ∧ Below w.heap.size w w' := by
  have HH := Lib.hid h
  have HA := Lib.hid hA
  have HKL : Hid (∀ e ∈ knownOf l b, e.loan.size ≤ 9223372036854775806) := Lib.hid fun e he => hl e ((known_mem hr b e).1 he).1
  have HKN : Hid ((knownOf l b).length ≤ 4096) := Lib.hid (by have := known_len l b hr; have := h.row.1; omega)
  obtain ⟨s, e, hans⟩ : ∃ s e, replayAns p (knownOf l b) d = (s, e) := ⟨_, _, rfl⟩
  rw [hans]
  unfold St.val
  have HANS := Lib.hid hans
  have HP : Hid (∀ (g : Nat) (W W' : World), W.heap[g]? = some (.cells (rCells p (.slice A n c) (.slice E m ce)) 37 (0, 0)) → ∀ j u, (pCells p (.slice A n c)).toList[j]? = some u → W.cell? ⟨g, 0 + j, none⟩ = some u) := Lib.hid fun g W W' hW => cell_p hW
  have HRP := Lib.hid fun (W : World) (E' : Option Addr) (k c' : Nat) (h1 : RdI W A n p.bounds) (h2 : RdE W E' k (knownOf l b)) => refReplay_any p A n c E' k c' (knownOf l b) d W h1 hs hn h2 (by have := h2.1; have := HKN.out; omega) HKL.out
  simp only [hans] at HRP
  unfold St.val Prod.val at HRP
  have hiP : (Tryz.prog.info? 25).map (·.size) = some (pCells p (.slice A n c)).size := info_prod _ _
  have hsi := info_st s
  have hso := st_one s
  have HZS : Hid ((stCells St.zero).size = (stCells s).size) := Lib.hid rfl
  have hgr : gr < w.heap.size := (Array.getElem?_eq_some_iff.1 h.cells).1
  clear h hA hs hn hl hans
  generalize hPC : pCells p (.slice A n c) = PC at *
  generalize hSC : stCells s = S at *
  clear hPC hSC
  obtain ⟨w1, hw1⟩ : ∃ w1, w1 = w.alloc (.cells (stCells St.zero) 45) := ⟨_, rfl⟩
  have hb1 : Below w.heap.size w w1 := by rw [hw1]; exact (Below.refl _ _).alloc (Nat.le_refl _) _
  have hT1 : w1.heap[w.heap.size]? = some (.cells (stCells St.zero) 45 (0, 0)) := by rw [hw1]; exact heap_alloc_new _ _
  unfold stCells St.zero at hw1
  go_enter Tryz.func12, Tryz.ntmps12
  go_upto_region 1 with (fail)
  rw [← hw1]
  clear hw1
  refine region_letters fun a Q ha hQ => ?_
  have HA' := Lib.hid ha
  have HQ := Lib.hid hQ
  have e0 : a.eval (.tmp 0) = .pointer (some ⟨gr, 0, none⟩) := by rw [ha]; rfl
  have e1 : a.eval (.tmp 1) = .int .i64 d := by rw [ha]; rfl
  have e2 : a.eval (.tmp 2) = .int .i64 b := by rw [ha]; rfl
  have e6 : a.eval (.tmp 6) = .pointer (some ⟨w.heap.size, 0, none⟩) := by rw [ha]; rfl
  have hszA : a.tmps.size = 22 := by rw [ha]; rfl
  clear ha hQ
  refine region_opsN (by kernel_rfl) [8, 9, 10, 11, 12, 13, 14, 15, 16, 17, 18, 19, 20, 21, 7] (G1R w S (stCells St.zero)) (T1R gr PC S E m ce (knownOf l b) d b e) (by kernel_rfl) (fun t h => by rw [hszA] at h; simp; omega) ⟨hb1.drew, hT1⟩ ⟨?_, ?_, ?_, ?_, ?_, ?_, ?_, ?_, ?_, ?_, ?_, ?_, ?_, ?_, ?_, ?_, trivial⟩ ?_
  · intro L b_ v hi hdep hcl hf hn hg ht
    have hg : G1R w S (stCells St.zero) L v := hg
    have x0 : b_.eval (.tmp 0) = .pointer (some ⟨gr, 0, none⟩) := by rw [hf.eval (by decide)]; exact e0
    exact still_ok (.pointer (some ⟨gr, 0, none⟩)) (by rw [exec_move (.tmp 0) rfl, x0]) (hg.to (by decide) (Below.refl _ _)) (rfl) (fun j oj d hoj hd hji hlj h => T1R_keep (Below.refl _ _) h)
  · intro L b_ v hi hdep hcl hf hn hg ht
    have hg : G1R w S (stCells St.zero) L v := hg
    have x0 : b_.eval (.tmp 8) = .pointer (some ⟨gr, 0, none⟩) := ht 0 _ 8 rfl rfl (hdep 0 (by decide))
    exact still_ok (.pointer (some ⟨gr, 0, none⟩)) (by unfold execOp; simp only [x0]; go_simp) (hg.to (by decide) (Below.refl _ _)) (rfl) (fun j oj d hoj hd hji hlj h => T1R_keep (Below.refl _ _) h)
  · intro L b_ v hi hdep hcl hf hn hg ht
    have hg : G1R w S (stCells St.zero) L v := hg
    have x0 : b_.eval (.tmp 9) = .pointer (some ⟨gr, 0, none⟩) := ht 1 _ 9 rfl rfl (hdep 1 (by decide))
    exact still_ok (.pointer (some ⟨gr, 0, none⟩)) (by unfold execOp; simp only [x0]; go_simp) (hg.to (by decide) (Below.refl _ _)) (rfl) (fun j oj d hoj hd hji hlj h => T1R_keep (Below.refl _ _) h)
  · intro L b_ v hi hdep hcl hf hn hg ht
    have hg : G1R w S (stCells St.zero) L v := hg
    have x0 : b_.eval (.tmp 10) = .pointer (some ⟨gr, 0, none⟩) := ht 2 _ 10 rfl rfl (hdep 2 (by decide))
    exact still_ok (.agg PC) (exec_mid 25 (.tmp 10) rfl gr 0 x0 PC _ (HP.out gr v v ((hg.low.block gr hgr).trans HH.out.cells)) Tryz.underlying25 rfl hiP) (hg.to (by decide) (Below.refl _ _)) (rfl) (fun j oj d hoj hd hji hlj h => T1R_keep (Below.refl _ _) h)
  · intro L b_ v hi hdep hcl hf hn hg ht
    have hg : G1R w S (stCells St.zero) L v := hg
    have x0 : b_.eval (.tmp 0) = .pointer (some ⟨gr, 0, none⟩) := by rw [hf.eval (by decide)]; exact e0
    exact still_ok (.pointer (some ⟨gr, 0, none⟩)) (by rw [exec_move (.tmp 0) rfl, x0]) (hg.to (by decide) (Below.refl _ _)) (rfl) (fun j oj d hoj hd hji hlj h => T1R_keep (Below.refl _ _) h)
  · intro L b_ v hi hdep hcl hf hn hg ht
    have hg : G1R w S (stCells St.zero) L v := hg
    have x0 : b_.eval (.tmp 12) = .pointer (some ⟨gr, 0, none⟩) := ht 4 _ 12 rfl rfl (hdep 4 (by decide))
    exact still_ok (.pointer (some ⟨gr, 0, none⟩)) (by unfold execOp; simp only [x0]; go_simp) (hg.to (by decide) (Below.refl _ _)) (rfl) (fun j oj d hoj hd hji hlj h => T1R_keep (Below.refl _ _) h)
  · intro L b_ v hi hdep hcl hf hn hg ht
    have hg : G1R w S (stCells St.zero) L v := hg
    have x0 : b_.eval (.tmp 13) = .pointer (some ⟨gr, 0, none⟩) := ht 5 _ 13 rfl rfl (hdep 5 (by decide))
    exact still_ok (.pointer (some ⟨gr, 9, none⟩)) (by unfold execOp; simp only [x0]; go_simp) (hg.to (by decide) (Below.refl _ _)) (rfl) (fun j oj d hoj hd hji hlj h => T1R_keep (Below.refl _ _) h)
  · intro L b_ v hi hdep hcl hf hn hg ht
    have hg : G1R w S (stCells St.zero) L v := hg
    have x0 : b_.eval (.tmp 14) = .pointer (some ⟨gr, 9, none⟩) := ht 6 _ 14 rfl rfl (hdep 6 (by decide))
    have hc := cell_r9 ((hg.low.block gr hgr).trans HH.out.cells)
    exact still_ok (.slice E m ce) (by unfold execOp; simp only [x0]; go_simp) (hg.to (by decide) (Below.refl _ _)) (rfl) (fun j oj d hoj hd hji hlj h => T1R_keep (Below.refl _ _) h)
  · intro L b_ v hi hdep hcl hf hn hg ht
    have hg : G1R w S (stCells St.zero) L v := hg
    have x0 : b_.eval (.tmp 2) = .int .i64 b := by rw [hf.eval (by decide)]; exact e2
    exact still_ok (.int .i64 b) (by rw [exec_move (.tmp 2) rfl, x0]) (hg.to (by decide) (Below.refl _ _)) (rfl) (fun j oj d hoj hd hji hlj h => T1R_keep (Below.refl _ _) h)
  · intro L b_ v hi hdep hcl hf hn hg ht
    have hg : G1R w S (stCells St.zero) L v := hg
    have x0 : b_.eval (.tmp 15) = .slice E m ce := ht 7 _ 15 rfl rfl (hdep 7 (by decide))
    have x1 : b_.eval (.tmp 16) = .int .i64 b := ht 8 _ 16 rfl rfl (hdep 8 (by decide))
    refine call_ok 24 #[.tmp 15, .tmp 16] _ rfl #[.slice E m ce, .int .i64 b] (by simp [x0, x1]) (enters_of Tryz.func24 (by kernel_rfl) rfl) ((rKnown_any E m ce l b v (HH.out.row.below hg.low) (by omega)).mono ?_)
    rintro r v2 ⟨u, rfl, hown, hb2⟩
    obtain ⟨E2, c2, rfl⟩ := own_slice hown
    exact ⟨_, rfl, hg.to (by decide) hb2, fun _ => ⟨E2, _, c2, rfl, (Rd.of_own hown).ev⟩, fun j oj d hoj hd hji hlj h => T1R_keep hb2 h⟩
  · intro L b_ v hi hdep hcl hf hn hg ht
    have hg : G1R w S (stCells St.zero) L v := hg
    have x0 : b_.eval (.tmp 1) = .int .i64 d := by rw [hf.eval (by decide)]; exact e1
    exact still_ok (.int .i64 d) (by rw [exec_move (.tmp 1) rfl, x0]) (hg.to (by decide) (Below.refl _ _)) (rfl) (fun j oj d hoj hd hji hlj h => T1R_keep (Below.refl _ _) h)
  · intro L b_ v hi hdep hcl hf hn hg ht
    have hg : G1R w S (stCells St.zero) L v := hg
    have x0 : b_.eval (.tmp 11) = .agg PC := ht 3 _ 11 rfl rfl (hdep 3 (by decide))
    have x1 : L 11 = false → ∃ E2 k c2, b_.eval (.tmp 17) = .slice E2 k c2 ∧ RdE v E2 k (knownOf l b) := ht 9 _ 17 rfl rfl (hdep 9 (by decide))
    have x2 : b_.eval (.tmp 18) = .int .i64 d := ht 10 _ 18 rfl rfl (hdep 10 (by decide))
    obtain ⟨E2, k2, c2, x1, hE2⟩ := x1 hi
    refine call_ok 23 #[.tmp 11, .tmp 17, .tmp 18] _ rfl #[.agg PC, .slice E2 k2 c2, .int .i64 d] (by simp [x0, x1, x2]) (enters_of Tryz.func23 (by kernel_rfl) rfl) ((HRP.out v E2 k2 c2 (HA.out.below hg.low) hE2).mono ?_)
    rintro r v2 ⟨rfl, hb2⟩
    exact ⟨_, rfl, hg.to (by decide) hb2, rfl, fun j oj d hoj hd hji hlj h => T1R_keep hb2 h⟩
  · intro L b_ v hi hdep hcl hf hn hg ht
    have hg : G1R w S (stCells St.zero) L v := hg
    have x0 : b_.eval (.tmp 19) = .tuple #[.agg S, .int .i64 e] := ht 11 _ 19 rfl rfl (hdep 11 (by decide))
    exact still_ok (.agg S) (exec_extract (.tmp 19) 0 rfl _ _ x0 rfl) (hg.to (by decide) (Below.refl _ _)) (rfl) (fun j oj d hoj hd hji hlj h => T1R_keep (Below.refl _ _) h)
  · intro L b_ v hi hdep hcl hf hn hg ht
    have hg : G1R w S (stCells St.zero) L v := hg
    have x0 : b_.eval (.tmp 19) = .tuple #[.agg S, .int .i64 e] := ht 11 _ 19 rfl rfl (hdep 11 (by decide))
    exact still_ok (.int .i64 e) (exec_extract (.tmp 19) 1 rfl _ _ x0 rfl) (hg.to (by decide) (Below.refl _ _)) (rfl) (fun j oj d hoj hd hji hlj h => T1R_keep (Below.refl _ _) h)
  · intro L b_ v hi hdep hcl hf hn hg ht
    have hg : G1R w S (stCells St.zero) L v := hg
    have x0 : b_.eval (.tmp 20) = .agg S := ht 12 _ 20 rfl rfl (hdep 12 (by decide))
    have x1 : b_.eval (.tmp 6) = .pointer (some ⟨w.heap.size, 0, none⟩) := by rw [hf.eval (by decide)]; exact e6
    have hrg := hg.row
    rw [hi] at hrg
    have h11 := hcl 12 _ 11 rfl (hdep 12 (by decide)) (by decide)
    refine skip_ok (exec_store_row 45 (.tmp 6) (.tmp 20) rfl w.heap.size S x1 x0 _ _ hrg hsi HZS.out hso) ⟨below_row hg.low (Nat.le_refl _) _, by rw [upd_self, if_pos rfl]; exact setRow_heap _ _ _ _ _ _ hrg⟩ trivial (fun jj oj d hoj hd hji hlj h => ?_)
    unfold T1R at h ⊢
    split at h <;> first
      | exact h
      | (intro h0; have := upd_false h0; rw [h11] at this; cases this)
  · intro L b_ v hi hdep hcl hf hn hg ht
    have hg : G1R w S (stCells St.zero) L v := hg
    have x0 : b_.eval (.tmp 21) = .int .i64 e := ht 13 _ 21 rfl rfl (hdep 13 (by decide))
    exact still_ok (.int .i64 e) (by rw [exec_assign (.tmp 21) rfl, x0]) (hg.to (by decide) (Below.refl _ _)) (rfl) (fun j oj d hoj hd hji hlj h => T1R_keep (Below.refl _ _) h)
  · intro b_ v hf hg ht
    have hg : G1R w S (stCells St.zero) (fun i => decide (i < 16)) v := hg
    have x7 : b_.eval (.tmp 7) = .int .i64 e := ht 15 _ 7 rfl rfl
    have hrow := hg.row
    have hlow := hg.low
    refine HQ.out b_ v ?_
    rw [hf.out]
    simp only [List.foldl_cons, List.foldl_nil, x7]
    rw [HA'.out]
    generalize b_.eval (.tmp 8) = u8
    generalize b_.eval (.tmp 9) = u9
    generalize b_.eval (.tmp 10) = u10
    generalize b_.eval (.tmp 11) = u11
    generalize b_.eval (.tmp 12) = u12
    generalize b_.eval (.tmp 13) = u13
    generalize b_.eval (.tmp 14) = u14
    generalize b_.eval (.tmp 15) = u15
    generalize b_.eval (.tmp 16) = u16
    generalize b_.eval (.tmp 17) = u17
    generalize b_.eval (.tmp 18) = u18
    generalize b_.eval (.tmp 19) = u19
    generalize b_.eval (.tmp 20) = u20
    generalize b_.eval (.tmp 21) = u21
    simp only [Act.put, List.setIfInBounds_toArray, List.set_cons_succ, List.set_cons_zero]
    go_wp2_with fail
    exact bodyPost_ret (results_cell2E (fn := Tryz.f12) rfl _ _ w.heap.size 45 S (0, 0) _ rfl (by simpa using hrow) Tryz.underlying45 rfl hsi) rfl ⟨rfl, hlow⟩
end Go.Proofs.YtcbopgopegphlaaGreat
