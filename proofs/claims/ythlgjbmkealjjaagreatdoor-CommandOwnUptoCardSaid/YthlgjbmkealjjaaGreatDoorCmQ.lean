/-
  slices.Repeat over one operand; copies within rows of many cells an element. No statement is proved here.
-/
import Derived.Test.YthlgjbmkealjjaaGreatDoorCmFA
import Derived.Test.YthlgjbmkealjjaaGreatDoorRegA
namespace Go.Proofs.YthlgjbmkealjjaaGreatDoor
open Go.RowKit
set_option linter.unusedVariables false

/-- copy, of elements of many cells: all is read before anything is written. -/
theorem run_copy_many {P : Program} (w : World) (dT sT ty elem : TypeId) (sz b o dLen dCap b2 o2 sLen sCap : Nat) (cs : List Value)
    (hu : P.underlying dT = some (.slice elem)) (hs : (P.info? elem).map (·.size) = some sz) (hn : cs.length = Nat.min sLen dLen * sz)
    (hsrc : ∀ j v, cs[j]? = some v → w.cell? ⟨b2, o2 + j, none⟩ = some v) (ht : w.there b o cs.length) (h1 : ∀ v ∈ cs, v.oneCell' = true) :
    (Builtin.copy_ #[dT, sT] ty #[.slice (some ⟨b, o, none⟩) dLen dCap, .slice (some ⟨b2, o2, none⟩) sLen sCap]).run P w = .ok (goInt (Nat.min sLen dLen)) (w.setCells b o cs) := by
  have hl := run_loadCells_list (P := P) w ⟨b2, o2, none⟩ cs (fun j v hv => by rw [add_plain]; exact hsrc j v hv)
  have hst := run_storeCells_cells (P := P) b o cs 0 w (by simpa using fun j hj => (ht j hj).1) (by simpa using fun j hj => (ht j hj).2) h1
  cases hq : P.info? elem with
  | none => simp [hq] at hs
  | some i =>
    have hi : i.size = sz := by simpa [hq] using hs
    simp [Builtin.copy_, run_underlying hu, Builtin.lenOf, Builtin.firstCells, sizeOf, typeInfo, hq, hi, ← hn, hl, hst]
/-- Behind a store of cells, a row's cells. -/
theorem setCells_get (w : World) (b o : Nat) (cs : List Value) (ht : w.there b o cs.length) (j : Nat) : (w.setCells b o cs).cell? ⟨b, j, none⟩ = if o ≤ j ∧ j < o + cs.length then cs[j - o]? else w.cell? ⟨b, j, none⟩ := by
  by_cases h : o ≤ j ∧ j < o + cs.length
  · rw [if_pos h]
    have := World.cell?_setCells_in b cs o w (fun i hi => (ht i hi).1) (j - o) (by omega)
    rw [show o + (j - o) = j by omega] at this
    rw [this, List.getElem?_eq_getElem (by omega)]
  · rw [if_neg h]
    exact World.cell?_setCells_out b cs o w ⟨b, j, none⟩ (fun _ _ => by show j < o ∨ o + cs.length ≤ j; omega)
/-- The first q elements are all C. -/
def Fill (w : World) (g n : Nat) (C : List Value) (q : Nat) : Prop := RowT w 50 g (n * 3) ∧ ∀ e, e < q → ∀ i u, C[i]? = some u → w.cell? ⟨g, e * 3 + i, none⟩ = some u
theorem getElem_rep (C : List Value) (hC : C.length = 3) : ∀ (m j : Nat), j < m * 3 → (List.replicate m C).flatten[j]? = C[j % 3]?
  | 0, j, h => by omega
  | m + 1, j, h => by
    rw [List.replicate_succ, List.flatten_cons]
    by_cases hj : j < 3
    · rw [List.getElem?_append_left (by omega), Nat.mod_eq_of_lt hj]
    · rw [List.getElem?_append_right (by omega), hC, getElem_rep C hC m (j - 3) (by omega)]
      congr 1
      omega
theorem rep_len (C : List Value) (hC : C.length = 3) (m : Nat) : (List.replicate m C).flatten.length = m * 3 := by
  induction m with
  | zero => rfl
  | succ m ih => rw [List.replicate_succ, List.flatten_cons, List.length_append, ih, hC]; omega
theorem rep_mem (C : List Value) (m : Nat) (u : Value) (h : u ∈ (List.replicate m C).flatten) : u ∈ C := by
  obtain ⟨l, h1, h2⟩ := List.mem_flatten.1 h
  rw [List.eq_of_mem_replicate h1] at h2
  exact h2
theorem Fill.copy {w : World} {g n q : Nat} {C : List Value} (h : Fill w g n C q) (hC : C.length = 3) (m : Nat) (hm : m ≤ q) (hq : q + m ≤ n) : Fill (w.setCells g (q * 3) (List.replicate m C).flatten) g n C (q + m) := by
  refine ⟨h.1.sets _ _, fun e he i u hu => ?_⟩
  have hi : i < 3 := by have := (List.getElem?_eq_some_iff.1 hu).1; omega
  rw [setCells_get w g (q * 3) _ (h.1.there (by rw [rep_len C hC]; omega)), rep_len C hC]
  by_cases hlt : e < q
  · rw [if_neg (by omega)]
    exact h.2 e hlt i u hu
  · rw [if_pos (by omega), getElem_rep C hC m _ (by omega), show (e * 3 + i - q * 3) % 3 = i by omega]
    exact hu
theorem Fill.read {w : World} {g n q : Nat} {C : List Value} (h : Fill w g n C q) (hC : C.length = 3) (m : Nat) (hm : m ≤ q) : ∀ j u, (List.replicate m C).flatten[j]? = some u → w.cell? ⟨g, 0 + j, none⟩ = some u := by
  intro j u hu
  have hj : j < m * 3 := by have := (List.getElem?_eq_some_iff.1 hu).1; rw [rep_len C hC] at this; exact this
  rw [getElem_rep C hC m j hj] at hu
  have := h.2 (j / 3) (by omega) (j % 3) u hu
  rw [show j / 3 * 3 + j % 3 = 0 + j by omega] at this
  exact this
theorem infoOpd : (Tryz.prog.info? 50).map (fun i => (i.zero, i.size, i.bytes)) = some (some (.agg #[.nilFunc, .nilFunc, .bool false]), 3, 24) := by kernel_rfl
theorem elemOpd (W : World) : (sizeOf (Tryz.prog.elem 41)).run Tryz.prog W = .ok 3 W := by kernel_rfl
theorem elemOpdU : Tryz.prog.underlying 41 = some (.slice (Tryz.prog.elem 41)) := by kernel_rfl
theorem infoOpdS : (Tryz.prog.info? 50).map (·.size) = some 3 := by kernel_rfl
theorem Fill.drew {w : World} {g n q : Nat} {C : List Value} (h : Fill w g n C q) : Fill w.drew g n C q := h
theorem exec_slL (q n g : Nat) (v : World) (h : q < n) : ((Instr.sliceAt 41 (.slice (some ⟨g, 0, none⟩) n n) (some (.int .i64 (q : Int))) none none).run Tryz.prog v) = .ok (.slice (some ⟨g, 0 + q * 3, none⟩) (n - q) (n - q)) v := by
  rw [run_sliceAt_slice v _ _ _ _ _ elemOpdU, run_slice_l v 41 _ n n elemOpdU .i64 _ (by omega) (by omega), elemOpd]
  simp only [Result.andThen_ok, sliced, Int.toNat_natCast]
  rw [if_neg (by omega), Option.map_some, add_plain]
theorem exec_slH (q n g : Nat) (v : World) (h : q < n) : ((Instr.sliceAt 41 (.slice (some ⟨g, 0, none⟩) n n) none (some (.int .i64 (q : Int))) none).run Tryz.prog v) = .ok (.slice (some ⟨g, 0, none⟩) q n) v := by
  rw [run_sliceAt_slice v _ _ _ _ _ elemOpdU, run_slice_h v 41 _ n n elemOpdU .i64 _ (by omega) (by omega), elemOpd]
  simp only [Result.andThen_ok, sliced, Int.toNat_natCast]
  rw [if_neg (by omega)]
  rfl
theorem exec_copy {P : Program} {ev : Operand → Value} {o : Oper} {v v2 : World} (s x : Operand) (t t' : TypeId) (ho : o.op = .call { callee := .builtin .copy, args := #[s, x], argTypes := #[t, t'] }) (vs vx u : Value) (hs : ev s = vs) (hx : ev x = vx)
    (hr : (Builtin.copy_ #[t, t'] o.type #[vs, vx]).run P v = .ok u v2) : (execOp ev o).run P v = .ok (.value u) v2 := by
  unfold execOp
  simp only [ho, resolve, invoke, builtin, Sem.run_bind, Sem.run_pure, Result.andThen_ok, List.map_toArray, List.map_cons, List.map_nil, hs, hx, hr]
/-- In region 9: whether the copy (operation 7) is done. -/
def GQ (gq n : Nat) (C : List Value) (w : World) (B q m : Nat) (L : Nat → Bool) (v : World) : Prop := Below B w v ∧ Fill v gq n C (if L 7 = true then q + m else q)
theorem GQ.same {gq n : Nat} {C : List Value} {w : World} {B q m i : Nat} {L : Nat → Bool} {v : World} (h : GQ gq n C w B q m L v) (hi : (7 : Nat) ≠ i) : GQ gq n C w B q m (upd L i) v := by
  unfold GQ at h ⊢
  rw [upd_other hi]
  exact h
def TQ (gq n q m : Nat) (_ : Nat → Bool) (i : Nat) (u : Value) (_ : World) : Prop :=
  match i with
  | 0 => u = .int .i64 (q : Int)
  | 1 => u = .slice (some ⟨gq, 0, none⟩) n n
  | 2 => u = .int .i64 (q : Int)
  | 3 => u = .slice (some ⟨gq, 0 + q * 3, none⟩) (n - q) (n - q)
  | 4 => u = .slice (some ⟨gq, 0, none⟩) n n
  | 5 => u = .int .i64 (q : Int)
  | 6 => u = .slice (some ⟨gq, 0, none⟩) q n
  | 7 => u = .int .i64 (m : Int)
  | 8 => u = .int .i64 ((q : Int) + (m : Int))
  | 9 => u = .int .i64 ((q : Int) + (m : Int))
  | _ => True
set_option maxRecDepth 100000 in
set_option maxHeartbeats 4000000 in
theorem repeat_any (C : List Value) (hC : C.length = 3) (hone : ∀ u ∈ C, u.oneCell' = true) (g n : Nat) (w : World) (hg : w.heap[g]? = some (.cells C.toArray 50 (0, 0))) (h1 : 1 ≤ n) (h2 : n ≤ 1000) :
    Calls Tryz.prog 39 #[.slice (some ⟨g, 0, none⟩) 1 1, .int .i64 (n : Int)] w fun e w' => ∃ gq, e = .returned (.slice (some ⟨gq, 0, none⟩) n n) ∧ w.heap.size ≤ gq ∧ Below w.heap.size w w' ∧ Fill w' gq n C n := by
  have BM : Hid (∀ W, Calls Tryz.prog 70 #[.int .u64 1, .int .u64 (n : Int)] W fun e w' => e = .returned (.tuple #[.int .u64 0, .int .u64 (n : Int)]) ∧ W = w') := Lib.hid fun W => by
    refine (bits_Mul 1 n (by omega) (by omega) W).mono ?_
    rintro e w' ⟨rfl, rfl⟩
    rw [show 1 * n / 18446744073709551616 = 0 by omega, show 1 * n % 18446744073709551616 = n by omega]
    exact ⟨rfl, rfl⟩
  have HG := Lib.hid hg
  have HONE := Lib.hid hone
  have hgl := (Array.getElem?_eq_some_iff.1 hg).1
  obtain ⟨i0, hi, hz0, hz1, hz2⟩ := info_parts infoOpd
  clear hg hone
  go_enter Tryz.func39, Tryz.ntmps39
  go_upto_region 7 with (first
    | (go_at_call 70; refine (BM.out _).mono ?_; rintro e w' ⟨rfl, rfl⟩)
    | (refine wpList_make_full w rfl _ _ 41 rfl w.heap.size 50 i0 (.agg #[.nilFunc, .nilFunc, .bool false]) 3 Tryz.underlying41 hi hz0 hz1 .i64 .i64 (n : Int) (n : Int) n rfl rfl rfl rfl (by rw [hz2]; omega) (by unfold maxLen; omega) (Nat.le_refl _) ?_; intro w2 hown hgr))
  -- LOOP
  obtain ⟨gq, hgq⟩ : ∃ gq, gq = w.heap.size := ⟨_, rfl⟩
  have hF0 : RowT w2 50 gq (n * 3) := by
    obtain ⟨g2, e1, _, _, h4⟩ := own_rowT hown (by omega)
    injection e1 with e1
    injection e1 with e1
    rw [hgq, e1]
    exact h4
  obtain ⟨B, hB⟩ : ∃ B, B = w.heap.size := ⟨_, rfl⟩
  have HB2 : Hid (Below B w w2) := Lib.hid (by rw [hB]; exact ⟨hgr.os, hgr.tape, hgr.output, hgr.size, fun k hk => hgr.block k hk (by simp)⟩)
  have HBQ : Hid (B ≤ gq) := Lib.hid (by omega)
  have HC := Lib.hid hC
  have hcp := run_copy_many (P := Tryz.prog) w2 41 41 3 50 3 gq 0 n n g 0 1 1 C Tryz.underlying41 infoOpdS (by rw [hC]; show 3 = Nat.min 1 n * 3; rw [show Nat.min 1 n = 1 from Nat.min_eq_left h1]) (by
    have hs : w2.heap[g]? = some (.cells C.toArray 50 (0, 0)) := (HB2.out.block g (by omega)).trans HG.out
    intro j v hv
    rw [World.cell?, hs]
    simpa using hv) (hF0.there (by omega)) HONE.out
  rw [show Nat.min 1 n = 1 from Nat.min_eq_left h1] at hcp
  have hfill1 : Fill (w2.setCells gq 0 C) gq n C 1 := by
    refine ⟨hF0.sets _ _, fun e he i u hu => ?_⟩
    have hi : i < 3 := by have := (List.getElem?_eq_some_iff.1 hu).1; omega
    rw [show e = 0 by omega, setCells_get w2 gq 0 C (hF0.there (by omega)), if_pos (by omega), show 0 * 3 + i - 0 = i by omega]
    exact hu
  have hb1 := below_sets C 0 HBQ.out HB2.out
  have HB1 := Lib.hid hb1
  have HF1 := Lib.hid hfill1
  clear hown hgr hF0 hb1 hfill1 BM hgl hi hz0 hz1 hz2
  rw [← hgq]
  clear hgq
  go_wp2
  go_loopw [8] (fun i wr => ∃ (q : Nat), i = .int .i64 q ∧ 1 ≤ q ∧ q ≤ n ∧ Hid (Fill wr gq n C q) ∧ Hid (Below B w wr)) (fun i _ => n - (intOf i).toNat)
  case atStart => exact ⟨1, rfl, by omega, by omega, HF1, HB1⟩
  case round =>
    obtain ⟨q, rfl, hq1, hq2, HF, HBW⟩ := hrel
    by_cases hlt : q < n
    · go_upto_region 9 with (fail)
      obtain ⟨m, hm⟩ : ∃ m, m = Nat.min q (n - q) := ⟨_, rfl⟩
      have hmq : m ≤ q := by rw [hm]; exact Nat.min_le_left _ _
      have hmn : q + m ≤ n := by
        have : m ≤ n - q := by rw [hm]; exact Nat.min_le_right _ _
        omega
      have hm1 : 1 ≤ m := by
        rw [hm]
        exact Nat.le_min.2 ⟨hq1, by omega⟩
      have HM := Lib.hid hm
      have hwr : IntKind.i64.wrap ((q : Int) + (m : Int)) = (q : Int) + (m : Int) := by rw [IntKind.wrap_i64]; omega
      clear hm
      refine region_letters fun a Q ha hQ => ?_
      have HA' := Lib.hid ha
      have HQ := Lib.hid hQ
      have e7 : a.eval (.tmp 7) = .slice (some ⟨gq, 0, none⟩) n n := by rw [ha]; rfl
      have e8 : a.eval (.tmp 8) = .int .i64 (q : Int) := by rw [ha]; rfl
      have hszA : a.tmps.size = 48 := by rw [ha]; rfl
      clear ha hQ
      refine region_opsN (by kernel_rfl) [38, 39, 40, 41, 42, 43, 44, 45, 46, 8] (GQ gq n C w B q m) (TQ gq n q m) (by kernel_rfl) (fun t h => by rw [hszA] at h; simp; omega) ⟨HBW.out.drew, HF.out.drew⟩ ⟨?_, ?_, ?_, ?_, ?_, ?_, ?_, ?_, ?_, ?_, trivial⟩ ?_
      · intro L b v hi hdep hcl hf hn hg ht
        have hg : GQ gq n C w B q m L v := hg
        have x0 : b.eval (.tmp 8) = .int .i64 (q : Int) := by
          have h1 : L 9 = false := by
            cases h0 : L 9 with
            | false => rfl
            | true => exact absurd (hcl 8 _ 0 rfl (hcl 9 _ 8 rfl (h0) (by decide)) (by decide)) (by rw [hi]; decide)
          rw [hn 9 _ 8 rfl rfl h1]; exact e8
        exact still_ok (.int .i64 (q : Int)) (by rw [exec_move (.tmp 8) rfl, x0]) (GQ.same hg (by decide)) (rfl) (fun j oj d hoj hd hji hlj h => h)
      · intro L b v hi hdep hcl hf hn hg ht
        have hg : GQ gq n C w B q m L v := hg
        have x0 : b.eval (.tmp 7) = .slice (some ⟨gq, 0, none⟩) n n := by rw [hf.eval (by decide)]; exact e7
        exact still_ok (.slice (some ⟨gq, 0, none⟩) n n) (by rw [exec_move (.tmp 7) rfl, x0]) (GQ.same hg (by decide)) (rfl) (fun j oj d hoj hd hji hlj h => h)
      · intro L b v hi hdep hcl hf hn hg ht
        have hg : GQ gq n C w B q m L v := hg
        have x0 : b.eval (.tmp 8) = .int .i64 (q : Int) := by
          have h1 : L 9 = false := by
            cases h0 : L 9 with
            | false => rfl
            | true => exact absurd (hcl 3 _ 2 rfl (hcl 7 _ 3 rfl (hcl 8 _ 7 rfl (hcl 9 _ 8 rfl (h0) (by decide)) (by decide)) (by decide)) (by decide)) (by rw [hi]; decide)
          rw [hn 9 _ 8 rfl rfl h1]; exact e8
        exact still_ok (.int .i64 (q : Int)) (by rw [exec_move (.tmp 8) rfl, x0]) (GQ.same hg (by decide)) (rfl) (fun j oj d hoj hd hji hlj h => h)
      · intro L b v hi hdep hcl hf hn hg ht
        have hg : GQ gq n C w B q m L v := hg
        have x0 : b.eval (.tmp 39) = .slice (some ⟨gq, 0, none⟩) n n := ht 1 _ 39 rfl rfl (hdep 1 (by decide))
        have x1 : b.eval (.tmp 40) = .int .i64 (q : Int) := ht 2 _ 40 rfl rfl (hdep 2 (by decide))
        exact still_ok (.slice (some ⟨gq, 0 + q * 3, none⟩) (n - q) (n - q)) (by unfold execOp; simp only [x0, x1, Option.map_some, Option.map_none]; rw [Sem.run_bind, exec_slL q n gq v hlt, Result.andThen_ok]; rfl) (GQ.same hg (by decide)) (rfl) (fun j oj d hoj hd hji hlj h => h)
      · intro L b v hi hdep hcl hf hn hg ht
        have hg : GQ gq n C w B q m L v := hg
        have x0 : b.eval (.tmp 7) = .slice (some ⟨gq, 0, none⟩) n n := by rw [hf.eval (by decide)]; exact e7
        exact still_ok (.slice (some ⟨gq, 0, none⟩) n n) (by rw [exec_move (.tmp 7) rfl, x0]) (GQ.same hg (by decide)) (rfl) (fun j oj d hoj hd hji hlj h => h)
      · intro L b v hi hdep hcl hf hn hg ht
        have hg : GQ gq n C w B q m L v := hg
        have x0 : b.eval (.tmp 8) = .int .i64 (q : Int) := by
          have h1 : L 9 = false := by
            cases h0 : L 9 with
            | false => rfl
            | true => exact absurd (hcl 6 _ 5 rfl (hcl 7 _ 6 rfl (hcl 8 _ 7 rfl (hcl 9 _ 8 rfl (h0) (by decide)) (by decide)) (by decide)) (by decide)) (by rw [hi]; decide)
          rw [hn 9 _ 8 rfl rfl h1]; exact e8
        exact still_ok (.int .i64 (q : Int)) (by rw [exec_move (.tmp 8) rfl, x0]) (GQ.same hg (by decide)) (rfl) (fun j oj d hoj hd hji hlj h => h)
      · intro L b v hi hdep hcl hf hn hg ht
        have hg : GQ gq n C w B q m L v := hg
        have x0 : b.eval (.tmp 42) = .slice (some ⟨gq, 0, none⟩) n n := ht 4 _ 42 rfl rfl (hdep 4 (by decide))
        have x1 : b.eval (.tmp 43) = .int .i64 (q : Int) := ht 5 _ 43 rfl rfl (hdep 5 (by decide))
        exact still_ok (.slice (some ⟨gq, 0, none⟩) q n) (by unfold execOp; simp only [x0, x1, Option.map_some, Option.map_none]; rw [Sem.run_bind, exec_slH q n gq v hlt, Result.andThen_ok]; rfl) (GQ.same hg (by decide)) (rfl) (fun j oj d hoj hd hji hlj h => h)
      · intro L b v hi hdep hcl hf hn hg ht
        have hg : GQ gq n C w B q m L v := hg
        have x0 : b.eval (.tmp 41) = .slice (some ⟨gq, 0 + q * 3, none⟩) (n - q) (n - q) := ht 3 _ 41 rfl rfl (hdep 3 (by decide))
        have x1 : b.eval (.tmp 44) = .slice (some ⟨gq, 0, none⟩) q n := ht 6 _ 44 rfl rfl (hdep 6 (by decide))
        have hg2 : Fill v gq n C q := by have := hg.2; rw [hi] at this; exact this
        refine makes_ok (.int .i64 (m : Int)) (exec_copy (.tmp 41) (.tmp 44) 41 41 rfl _ _ _ x0 x1 (by rw [HM.out]; exact run_copy_many v 41 41 _ 50 3 gq (0 + q * 3) (n - q) (n - q) gq 0 q n (List.replicate m C).flatten Tryz.underlying41 infoOpdS (by rw [rep_len C HC.out, HM.out]) (hg2.read HC.out m hmq) (by rw [rep_len C HC.out]; exact hg2.1.there (by omega)) (fun u hu => HONE.out u (rep_mem C m u hu)))) ?_ rfl (fun j oj d hoj hd hji hlj h => h)
        refine ⟨below_sets _ _ HBQ.out hg.1, ?_⟩
        show Fill _ gq n C (if upd L 7 7 = true then q + m else q)
        rw [upd_self, if_pos rfl]
        have := hg2.copy HC.out m hmq (by omega)
        rw [show q * 3 = 0 + q * 3 by omega] at this
        exact this
      · intro L b v hi hdep hcl hf hn hg ht
        have hg : GQ gq n C w B q m L v := hg
        have x0 : b.eval (.tmp 38) = .int .i64 (q : Int) := ht 0 _ 38 rfl rfl (hdep 0 (by decide))
        have x1 : b.eval (.tmp 45) = .int .i64 (m : Int) := ht 7 _ 45 rfl rfl (hdep 7 (by decide))
        exact still_ok (.int .i64 ((q : Int) + (m : Int))) (by unfold execOp; simp only [x0, x1]; go_simp) (GQ.same hg (by decide)) (rfl) (fun j oj d hoj hd hji hlj h => h)
      · intro L b v hi hdep hcl hf hn hg ht
        have hg : GQ gq n C w B q m L v := hg
        have x0 : b.eval (.tmp 46) = .int .i64 ((q : Int) + (m : Int)) := ht 8 _ 46 rfl rfl (hdep 8 (by decide))
        exact still_ok (.int .i64 ((q : Int) + (m : Int))) (by rw [exec_assign (.tmp 46) rfl, x0]) (GQ.same hg (by decide)) (rfl) (fun j oj d hoj hd hji hlj h => h)
      · intro b v hf hg ht
        have x8 : b.eval (.tmp 8) = .int .i64 ((q : Int) + (m : Int)) := ht 9 _ 8 rfl rfl
        have hg2 : Fill v gq n C (q + m) := hg.2
        have hg1 := hg.1
        refine HQ.out b v ?_
        rw [hf.out]
        simp only [List.foldl_cons, List.foldl_nil, x8]
        rw [HA'.out]
        generalize b.eval (.tmp 38) = u38 at *
        generalize b.eval (.tmp 39) = u39 at *
        generalize b.eval (.tmp 40) = u40 at *
        generalize b.eval (.tmp 41) = u41 at *
        generalize b.eval (.tmp 42) = u42 at *
        generalize b.eval (.tmp 43) = u43 at *
        generalize b.eval (.tmp 44) = u44 at *
        generalize b.eval (.tmp 45) = u45 at *
        generalize b.eval (.tmp 46) = u46 at *
        simp only [Act.put, List.setIfInBounds_toArray, List.set_cons_succ, List.set_cons_zero]
        go_roundw
        case rel => exact ⟨.int .i64 ((q : Int) + (m : Int)), _, _, _, _, _, _, _, _, _, _, _, _, _, ⟨q + m, by rw [Int.natCast_add], by omega, hmn, Lib.hid hg2, Lib.hid hg1⟩, rfl⟩
        case measure => simp [intOf]; omega
    · have hqn : q = n := by omega
      subst hqn
      go_wp2
      go_ret
      exact ⟨gq, rfl, by rw [← hB]; exact HBQ.out, by rw [← hB]; exact HBW.out, HF.out⟩
end Go.Proofs.YthlgjbmkealjjaaGreatDoor
