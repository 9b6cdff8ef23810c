/-
  The walk of told over the two journals (printed by gen_told.py). No statement is proved here.
-/
import Derived.Deep.CutBlock
import Derived.Deep.CutRange
import Derived.Test.YtpmbbhefcejjlaaLedTw
import Derived.Test.YtpmbbhefcejjlaaRegG
namespace Go.Proofs.Ytpmbbhefcejjlaa
open Go.RowKit
set_option linter.unusedVariables false
def GT (g h base : Nat) (ps : List PV) (cl : Int) (ga : Nat) (C : Array Value) (w0 : World) (_ : Nat → Bool) (v : World) : Prop :=
  Tw v g h base (fun _ => False) ps ps cl ∧ v.heap[ga]? = some (.cells C 55 (0, 0)) ∧ Below w0.heap.size w0 v
theorem GT.below {g h base : Nat} {ps : List PV} {cl : Int} {ga : Nat} {C : Array Value} {w0 : World} {L L' : Nat → Bool} {v v' : World} (hg : GT g h base ps cl ga C w0 L v) (hb : Below v.heap.size v v') : GT g h base ps cl ga C w0 L' v' :=
  ⟨hg.1.below hb, (hb.block _ (Array.getElem?_eq_some_iff.1 hg.2.1).1).trans hg.2.1, hg.2.2.trans (hb.mono hg.2.2.size)⟩
def GT2 (g h base : Nat) (ps PF : List PV) (cl : Int) (ga : Nat) (C : Array Value) (w0 : World) (u7 : Value) (L : Nat → Bool) (v : World) : Prop := GT g h base ps cl ga C w0 L v ∧ LJ v base PF u7
theorem GT2.below {g h base : Nat} {ps PF : List PV} {cl : Int} {ga : Nat} {C : Array Value} {w0 : World} {u7 : Value} {L L' : Nat → Bool} {v v' : World} (hg : GT2 g h base ps PF cl ga C w0 u7 L v) (hb : Below v.heap.size v v') : GT2 g h base ps PF cl ga C w0 u7 L' v' := ⟨hg.1.below hb, hg.2.below hb⟩
def T1 (h base ga : Nat) (ps PF : List PV) (d t : Int) (_ : Nat → Bool) (i : Nat) (u : Value) (v : World) : Prop :=
  match i with
  | 0 => u = .pointer (some ⟨h, 0, none⟩)
  | 1 => u = .pointer (some ⟨h, 0, none⟩)
  | 2 => u = .pointer (some ⟨h, 0, none⟩)
  | 3 => LJ v base ps u
  | 4 => u = .pointer (some ⟨ga, 1, none⟩)
  | 5 => u = .int .i64 d
  | 6 => u = .pointer (some ⟨ga, 2, none⟩)
  | 7 => u = .int .i64 t
  | 8 => LJ v base PF u
  | 9 => LJ v base PF u
  | _ => True
theorem T1_keep {h base ga : Nat} {ps PF : List PV} {d t : Int} {L L' : Nat → Bool} {jj : Nat} {u : Value} {v w2 : World} (hb : Below v.heap.size v w2) (hh : T1 h base ga ps PF d t L jj u v) : T1 h base ga ps PF d t L' jj u w2 := by
  unfold T1 at hh ⊢
  split at hh <;> first
    | exact hh
    | exact hh.below hb
def T2 (g h base ga : Nat) (ps PF : List PV) (SF SB : List (Int × Int)) (d t cl : Int) (B : ByteArray) (_ : Nat → Bool) (i : Nat) (u : Value) (v : World) : Prop :=
  match i with
  | 0 => u = .pointer (some ⟨g, 0, none⟩)
  | 1 => u = .pointer (some ⟨ga, 1, none⟩)
  | 2 => u = .int .i64 d
  | 3 => u = .pointer (some ⟨ga, 2, none⟩)
  | 4 => u = .int .i64 t
  | 5 => LJ v base PF u
  | 6 => LJ v base PF u
  | 7 => u = .bool true
  | 8 => u = .bool true
  | 9 => u = .pointer (some ⟨g, 0, none⟩)
  | 10 => u = .pointer (some ⟨ga, 1, none⟩)
  | 11 => u = .int .i64 d
  | 12 => u = .pointer (some ⟨ga, 2, none⟩)
  | 13 => u = .int .i64 t
  | 14 => LL v SF u
  | 15 => LJ v base PF u
  | 16 => LL v SF u
  | 17 => u = .bool true
  | 18 => u = .bool true
  | 19 => u = .bool true
  | 20 => u = .pointer (some ⟨g, 0, none⟩)
  | 21 => u = .pointer (some ⟨ga, 3, none⟩)
  | 22 => u = .string B
  | 23 => LL v SB u
  | 24 => u = .pointer (some ⟨h, 0, none⟩)
  | 25 => u = .pointer (some ⟨h, 0, none⟩)
  | 26 => u = .pointer (some ⟨h, 0, none⟩)
  | 27 => LJ v base ps u
  | 28 => u = .pointer (some ⟨ga, 3, none⟩)
  | 29 => u = .string B
  | 30 => LL v SB u
  | 31 => u = .bool true
  | 32 => u = .bool true
  | 33 => u = .bool true
  | 34 => u = .pointer (some ⟨g, 0, none⟩)
  | 35 => u = .int .i64 cl
  | 36 => u = .pointer (some ⟨h, 0, none⟩)
  | 37 => u = .pointer (some ⟨h, 0, none⟩)
  | 38 => u = .pointer (some ⟨h, 1, none⟩)
  | 39 => u = .int .i64 cl
  | 40 => u = .bool true
  | 41 => u = .bool true
  | 42 => u = .bool true
  | _ => True
theorem T2_keep {g h base ga : Nat} {ps PF : List PV} {SF SB : List (Int × Int)} {d t cl : Int} {B : ByteArray} {L L' : Nat → Bool} {jj : Nat} {u : Value} {v w2 : World} (hb : Below v.heap.size v w2) (hh : T2 g h base ga ps PF SF SB d t cl B L jj u v) : T2 g h base ga ps PF SF SB d t cl B L' jj u w2 := by
  unfold T2 at hh ⊢
  split at hh <;> first
    | exact hh
    | exact hh.below hb
theorem pvs_filter (qs : List PR) (f : PV → Bool) : pvs (qs.filter fun q => f q.p) = (pvs qs).filter f := by
  unfold pvs
  rw [List.filter_map]
  rfl
set_option maxRecDepth 100000 in
set_option maxHeartbeats 4000000 in
theorem told_any (w : World) (g h base : Nat) (ps : List PV) (cl d t : Int) (B : ByteArray) (C : Array Value) (hT : Tw w g h base (fun _ => False) ps ps cl) (h1 : C[1]? = some (.int .i64 d)) (h2 : C[2]? = some (.int .i64 t)) (h3 : C[3]? = some (.string B)) (hC : (Try.prog.info? 55).map (·.size) = some C.size) :
    Calls Try.prog 24 #[.pointer (some ⟨g, 0, none⟩), .pointer (some ⟨h, 0, none⟩), .agg C] w fun e w' => e = .returned (.bool true) ∧ Below w.heap.size w w' := by
  obtain ⟨PF, HPF⟩ : ∃ PF, Hid (PF = ps.filter (inDays d t)) := ⟨_, Lib.hid rfl⟩
  obtain ⟨SF, HSF⟩ : ∃ SF, Hid (SF = sumsOf PF) := ⟨_, Lib.hid rfl⟩
  obtain ⟨SB, HSB⟩ : ∃ SB, Hid (SB = sumsOf (ps.filter fun p => decide (p.loan = B))) := ⟨_, Lib.hid rfl⟩
  have HPL : Hid (PF.length ≤ 65536) := Lib.hid (by rw [HPF.out]; exact Nat.le_trans (List.length_filter_le _ _) hT.len)
  have HP7 : Hid (∀ p ∈ PF, p.lines.length ≤ 4398046511104) := Lib.hid fun p hp => by
    rw [HPF.out] at hp
    have := hT.lines p (List.mem_filter.1 hp).1
    omega
  have HS7 : Hid (SF.length ≤ 8796093022208) := Lib.hid (by rw [HSF.out]; exact Nat.le_trans (rowsT_len _ 7) (by omega))
  have HB7 : Hid (SB.length ≤ 8796093022208) := Lib.hid (by rw [HSB.out]; exact Nat.le_trans (rowsT_len _ 7) (by omega))
  have HT := Lib.hid hT
  clear hT
  go_enter Try.func24, Try.ntmps24
  go_upto_region 1 with (fail)
  obtain ⟨w1, hw1⟩ : ∃ w1, w1 = w.alloc (.cells C 55) := ⟨_, rfl⟩
  have hb1 : Below w.heap.size w w1 := by rw [hw1]; exact (Below.refl _ _).alloc (Nat.le_refl _) _
  have HG : Hid (GT g h base ps cl w.heap.size C w (fun _ => false) w1) := Lib.hid ⟨HT.out.below hb1, by rw [hw1]; exact heap_alloc_new _ _, hb1⟩
  have HC1 : Hid (∀ W : World, W.heap[w.heap.size]? = some (.cells C 55 (0, 0)) → W.cell? ⟨w.heap.size, 1, none⟩ = some (.int .i64 d) ∧ W.cell? ⟨w.heap.size, 2, none⟩ = some (.int .i64 t) ∧ W.cell? ⟨w.heap.size, 3, none⟩ = some (.string B)) := Lib.hid fun W hW => ⟨by rw [cell_of_row _ _ _ _ _ _ hW]; exact h1, by rw [cell_of_row _ _ _ _ _ _ hW]; exact h2, by rw [cell_of_row _ _ _ _ _ _ hW]; exact h3⟩
  rw [← hw1]
  clear hw1 hb1 h1 h2 h3 HT
  obtain ⟨ga, hga⟩ : ∃ ga, ga = w.heap.size := ⟨_, rfl⟩
  rw [← hga] at HG HC1 ⊢
  clear hga
  refine region_letters fun a Q ha hQ => ?_
  have HA' := Lib.hid ha
  have HQ := Lib.hid hQ
  have e1 : a.eval (.tmp 1) = .pointer (some ⟨h, 0, none⟩) := by rw [ha]; rfl
  have e5 : a.eval (.tmp 5) = .pointer (some ⟨ga, 0, none⟩) := by rw [ha]; rfl
  have hszA : a.tmps.size = 59 := by rw [ha]; rfl
  clear ha hQ
  refine region_opsN (by kernel_rfl) [8, 9, 10, 11, 12, 13, 14, 15, 16, 7] (GT g h base ps cl ga C w) (T1 h base ga ps PF d t) (by kernel_rfl) (fun t h => by rw [hszA] at h; simp; omega) (GT.below (L := fun _ => false) HG.out ((Below.refl _ _).drew)) ⟨?_, ?_, ?_, ?_, ?_, ?_, ?_, ?_, ?_, ?_, trivial⟩ ?_
  · intro L b v hi hdep hcl hf hn hg ht
    have hg : GT g h base ps cl ga C w L v := hg
    have x0 : b.eval (.tmp 1) = .pointer (some ⟨h, 0, none⟩) := by rw [hf.eval (by decide)]; exact e1
    exact still_ok (.pointer (some ⟨h, 0, none⟩)) (by rw [exec_move (.tmp 1) rfl, x0]) hg (rfl) (fun j oj d hoj hd hji hlj h => T1_keep (Below.refl _ _) h)
  · intro L b v hi hdep hcl hf hn hg ht
    have hg : GT g h base ps cl ga C w L v := hg
    have x0 : b.eval (.tmp 8) = .pointer (some ⟨h, 0, none⟩) := ht 0 _ 8 rfl rfl (hdep 0 (by decide))
    exact still_ok (.pointer (some ⟨h, 0, none⟩)) (by unfold execOp; simp only [x0]; go_simp) hg (rfl) (fun j oj d hoj hd hji hlj h => T1_keep (Below.refl _ _) h)
  · intro L b v hi hdep hcl hf hn hg ht
    have hg : GT g h base ps cl ga C w L v := hg
    have x0 : b.eval (.tmp 9) = .pointer (some ⟨h, 0, none⟩) := ht 1 _ 9 rfl rfl (hdep 1 (by decide))
    exact still_ok (.pointer (some ⟨h, 0, none⟩)) (by unfold execOp; simp only [x0]; go_simp) hg (rfl) (fun j oj d hoj hd hji hlj h => T1_keep (Below.refl _ _) h)
  · intro L b v hi hdep hcl hf hn hg ht
    have hg : GT g h base ps cl ga C w L v := hg
    have x0 : b.eval (.tmp 10) = .pointer (some ⟨h, 0, none⟩) := ht 2 _ 10 rfl rfl (hdep 2 (by decide))
    obtain ⟨⟨u, hc, hlj⟩, _⟩ := hg.1.rcell
    exact still_ok u (by unfold execOp; simp only [x0]; go_simp) hg hlj (fun j oj d hoj hd hji hlj h => T1_keep (Below.refl _ _) h)
  · intro L b v hi hdep hcl hf hn hg ht
    have hg : GT g h base ps cl ga C w L v := hg
    have x0 : b.eval (.tmp 5) = .pointer (some ⟨ga, 0, none⟩) := by rw [hf.eval (by decide)]; exact e5
    exact still_ok (.pointer (some ⟨ga, 1, none⟩)) (by unfold execOp; simp only [x0]; go_simp) hg (rfl) (fun j oj d hoj hd hji hlj h => T1_keep (Below.refl _ _) h)
  · intro L b v hi hdep hcl hf hn hg ht
    have hg : GT g h base ps cl ga C w L v := hg
    have x0 : b.eval (.tmp 12) = .pointer (some ⟨ga, 1, none⟩) := ht 4 _ 12 rfl rfl (hdep 4 (by decide))
    obtain ⟨hc1, hc2, hc3⟩ := HC1.out v hg.2.1
    exact still_ok (.int .i64 d) (by unfold execOp; simp only [x0]; go_simp) hg (rfl) (fun j oj d hoj hd hji hlj h => T1_keep (Below.refl _ _) h)
  · intro L b v hi hdep hcl hf hn hg ht
    have hg : GT g h base ps cl ga C w L v := hg
    have x0 : b.eval (.tmp 5) = .pointer (some ⟨ga, 0, none⟩) := by rw [hf.eval (by decide)]; exact e5
    exact still_ok (.pointer (some ⟨ga, 2, none⟩)) (by unfold execOp; simp only [x0]; go_simp) hg (rfl) (fun j oj d hoj hd hji hlj h => T1_keep (Below.refl _ _) h)
  · intro L b v hi hdep hcl hf hn hg ht
    have hg : GT g h base ps cl ga C w L v := hg
    have x0 : b.eval (.tmp 14) = .pointer (some ⟨ga, 2, none⟩) := ht 6 _ 14 rfl rfl (hdep 6 (by decide))
    obtain ⟨hc1, hc2, hc3⟩ := HC1.out v hg.2.1
    exact still_ok (.int .i64 t) (by unfold execOp; simp only [x0]; go_simp) hg (rfl) (fun j oj d hoj hd hji hlj h => T1_keep (Below.refl _ _) h)
  · intro L b v hi hdep hcl hf hn hg ht
    have hg : GT g h base ps cl ga C w L v := hg
    have xl : LJ v base ps (b.eval (.tmp 11)) := ht 3 _ 11 rfl rfl (hdep 3 (by decide))
    have x1 : b.eval (.tmp 13) = .int .i64 d := ht 5 _ 13 rfl rfl (hdep 5 (by decide))
    have x2 : b.eval (.tmp 15) = .int .i64 t := ht 7 _ 15 rfl rfl (hdep 7 (by decide))
    obtain ⟨A, c, qs, x0, ho, hp⟩ := xl
    have hq9 : qs.length ≤ 900000 := by have := hg.1.len; rw [← hp, pvs_len] at this; omega
    refine call_ok 37 #[.tmp 11, .tmp 13, .tmp 15] _ rfl #[.slice A qs.length c, .int .i64 d, .int .i64 t] (by simp [x0, x1, x2]) (enters_of Try.func37 (by kernel_rfl) rfl) ((rPostings_any base A qs.length c qs d t v ho rfl hq9 hg.1.bs).mono ?_)
    rintro r v2 ⟨u, rfl, ho2, _, hb2⟩
    exact ⟨_, rfl, hg.below hb2, (show LJ v2 base PF u by rw [HPF.out, ← hp, ← pvs_filter]; exact LJ.of ho2), fun j oj d hoj hd hji hlj h => T1_keep hb2 h⟩
  · intro L b v hi hdep hcl hf hn hg ht
    have hg : GT g h base ps cl ga C w L v := hg
    have x0 : LJ v base PF (b.eval (.tmp 16)) := ht 8 _ 16 rfl rfl (hdep 8 (by decide))
    exact still_ok (b.eval (.tmp 16)) (by rw [exec_assign (.tmp 16) rfl]) hg x0 (fun j oj d hoj hd hji hlj h => T1_keep (Below.refl _ _) h)
  · intro b v hf hg ht
    have x7 : LJ v base PF (b.eval (.tmp 7)) := ht 9 _ 7 rfl rfl
    refine HQ.out b v ?_
    rw [hf.out]
    simp only [List.foldl_cons, List.foldl_nil]
    rw [HA'.out]
    generalize b.eval (.tmp 8) = u8
    generalize b.eval (.tmp 9) = u9
    generalize b.eval (.tmp 10) = u10
    generalize b.eval (.tmp 11) = u11
    generalize b.eval (.tmp 12) = u12
    generalize b.eval (.tmp 13) = u13
    generalize b.eval (.tmp 14) = u14
    generalize b.eval (.tmp 15) = u15
    generalize b.eval (.tmp 16) = u16
    generalize hu7 : b.eval (.tmp 7) = u7 at *
    simp only [Act.put, List.setIfInBounds_toArray, List.set_cons_succ, List.set_cons_zero]
    clear ht hu7 hf e1 e5 hszA HG
    have HG := Lib.hid (GT.below (L := fun i => decide (i < _)) (L' := fun _ => false) hg (Below.refl _ _))
    have H7 := Lib.hid x7
    clear hg x7 HQ HA'
    obtain ⟨w1, rfl⟩ : ∃ x, x = v := ⟨_, rfl⟩
    go_upto_region 2 with (fail)
    refine region_letters fun a Q ha hQ => ?_
    have HA' := Lib.hid ha
    have HQ := Lib.hid hQ
    have e0 : a.eval (.tmp 0) = .pointer (some ⟨g, 0, none⟩) := by rw [ha]; rfl
    have e1 : a.eval (.tmp 1) = .pointer (some ⟨h, 0, none⟩) := by rw [ha]; rfl
    have e5 : a.eval (.tmp 5) = .pointer (some ⟨ga, 0, none⟩) := by rw [ha]; rfl
    have e7 : a.eval (.tmp 7) = u7 := by rw [ha]; rfl
    have hszA : a.tmps.size = 59 := by rw [ha]; rfl
    clear ha hQ
    refine region_opsG (by kernel_rfl) [17, 18, 19, 20, 21, 22, 23, 24, 25, 26, 27, 28, 29, 30, 31, 32, 33, 34, 35, 36, 37, 38, 39, 40, 41, 42, 43, 44, 45, 46, 47, 48, 49, 50, 51, 52, 53, 54, 55, 56, 57, 58, 6] (GT2 g h base ps PF cl ga C w u7) (T2 g h base ga ps PF SF SB d t cl B) (by kernel_rfl) (fun t h => by rw [hszA] at h; simp; omega) ⟨GT.below (L := fun _ => false) HG.out ((Below.refl _ _).drew), H7.out.below ((Below.refl _ _).drew)⟩ ⟨?_, ?_, ?_, ?_, ?_, ?_, ?_, ?_, ?_, ?_, ?_, ?_, ?_, ?_, ?_, ?_, ?_, ?_, ?_, ?_, ?_, ?_, ?_, ?_, ?_, ?_, ?_, ?_, ?_, ?_, ?_, ?_, ?_, ?_, ?_, ?_, ?_, ?_, ?_, ?_, ?_, ?_, ?_, trivial⟩ ?_
    · intro L b v hi hdep hcl hf hn hg ht
      have hg : GT2 g h base ps PF cl ga C w u7 L v := hg
      have x0 : b.eval (.tmp 0) = .pointer (some ⟨g, 0, none⟩) := by rw [hf.eval (by decide)]; exact e0
      exact ⟨wanted_free rfl [] _, still_ok (.pointer (some ⟨g, 0, none⟩)) (by rw [exec_move (.tmp 0) rfl, x0]) hg (rfl) (fun j oj d hoj hd hji hlj h => T2_keep (Below.refl _ _) h)⟩
    · intro L b v hi hdep hcl hf hn hg ht
      have hg : GT2 g h base ps PF cl ga C w u7 L v := hg
      have x0 : b.eval (.tmp 5) = .pointer (some ⟨ga, 0, none⟩) := by rw [hf.eval (by decide)]; exact e5
      exact ⟨wanted_free rfl [] _, still_ok (.pointer (some ⟨ga, 1, none⟩)) (by unfold execOp; simp only [x0]; go_simp) hg (rfl) (fun j oj d hoj hd hji hlj h => T2_keep (Below.refl _ _) h)⟩
    · intro L b v hi hdep hcl hf hn hg ht
      have hg : GT2 g h base ps PF cl ga C w u7 L v := hg
      have x0 : b.eval (.tmp 18) = .pointer (some ⟨ga, 1, none⟩) := ht 1 _ 18 rfl rfl (hdep 1 (by decide))
      obtain ⟨hc1, hc2, hc3⟩ := HC1.out v hg.1.2.1
      exact ⟨wanted_free rfl [] _, still_ok (.int .i64 d) (by unfold execOp; simp only [x0]; go_simp) hg (rfl) (fun j oj d hoj hd hji hlj h => T2_keep (Below.refl _ _) h)⟩
    · intro L b v hi hdep hcl hf hn hg ht
      have hg : GT2 g h base ps PF cl ga C w u7 L v := hg
      have x0 : b.eval (.tmp 5) = .pointer (some ⟨ga, 0, none⟩) := by rw [hf.eval (by decide)]; exact e5
      exact ⟨wanted_free rfl [] _, still_ok (.pointer (some ⟨ga, 2, none⟩)) (by unfold execOp; simp only [x0]; go_simp) hg (rfl) (fun j oj d hoj hd hji hlj h => T2_keep (Below.refl _ _) h)⟩
    · intro L b v hi hdep hcl hf hn hg ht
      have hg : GT2 g h base ps PF cl ga C w u7 L v := hg
      have x0 : b.eval (.tmp 20) = .pointer (some ⟨ga, 2, none⟩) := ht 3 _ 20 rfl rfl (hdep 3 (by decide))
      obtain ⟨hc1, hc2, hc3⟩ := HC1.out v hg.1.2.1
      exact ⟨wanted_free rfl [] _, still_ok (.int .i64 t) (by unfold execOp; simp only [x0]; go_simp) hg (rfl) (fun j oj d hoj hd hji hlj h => T2_keep (Below.refl _ _) h)⟩
    · intro L b v hi hdep hcl hf hn hg ht
      have hg : GT2 g h base ps PF cl ga C w u7 L v := hg
      have x0 : b.eval (.tmp 17) = .pointer (some ⟨g, 0, none⟩) := ht 0 _ 17 rfl rfl (hdep 0 (by decide))
      have x1 : b.eval (.tmp 19) = .int .i64 d := ht 2 _ 19 rfl rfl (hdep 2 (by decide))
      have x2 : b.eval (.tmp 21) = .int .i64 t := ht 4 _ 21 rfl rfl (hdep 4 (by decide))
      refine ⟨wanted_free rfl [] _, call_ok 16 #[.tmp 17, .tmp 19, .tmp 21] _ rfl #[.pointer (some ⟨g, 0, none⟩), .int .i64 d, .int .i64 t] (by simp [x0, x1, x2]) (enters_of Try.func16 (by kernel_rfl) rfl) ((Postings_jw v g base 0 0 ps cl d t hg.1.1.jw).mono ?_)⟩
      rintro r v2 ⟨u, qs, rfl, hp, ho, hb2⟩
      exact ⟨_, rfl, hg.below hb2, (show LJ v2 base PF u by rw [HPF.out, ← hp]; exact LJ.of (ho.lower hg.1.1.bs)), fun j oj d hoj hd hji hlj h => T2_keep hb2 h⟩
    · intro L b v hi hdep hcl hf hn hg ht
      have hg : GT2 g h base ps PF cl ga C w u7 L v := hg
      have x0 : b.eval (.tmp 7) = u7 := by rw [hf.eval (by decide)]; exact e7
      exact ⟨wanted_free rfl [] _, still_ok u7 (by rw [exec_move (.tmp 7) rfl, x0]) hg (show LJ v base PF u7 from hg.2) (fun j oj d hoj hd hji hlj h => T2_keep (Below.refl _ _) h)⟩
    · intro L b v hi hdep hcl hf hn hg ht
      have hg : GT2 g h base ps PF cl ga C w u7 L v := hg
      have y0 : LJ v base PF (b.eval (.tmp 22)) := ht 5 _ 22 rfl rfl (hdep 5 (by decide))
      have y1 : LJ v base PF (b.eval (.tmp 23)) := ht 6 _ 23 rfl rfl (hdep 6 (by decide))
      obtain ⟨A, c, x0, hr0⟩ := y0.rd
      obtain ⟨A', c', x1, hr1⟩ := y1.rd
      refine ⟨wanted_free rfl [] _, call_ok 18 #[.tmp 22, .tmp 23] _ rfl #[.slice A PF.length c, (.slice A' PF.length c')] (by simp [x0, x1]) (enters_of Try.func18 (by kernel_rfl) rfl) ((SamePostings_eq A A' PF.length c c' PF v hr0 hr1 (by have := HPL.out; omega) HP7.out).mono ?_)⟩
      rintro r v2 ⟨rfl, hd2⟩
      have hb2 := hd2.below
      exact ⟨_, rfl, hg.below hb2, rfl, fun j oj d hoj hd hji hlj h => T2_keep hb2 h⟩
    · intro L b v hi hdep hcl hf hn hg ht
      have hg : GT2 g h base ps PF cl ga C w u7 L v := hg
      have x0 : b.eval (.tmp 24) = .bool true := ht 7 _ 24 rfl rfl (hdep 7 (by decide))
      exact ⟨wanted_free rfl [] _, still_ok (.bool true) (by rw [exec_move (.tmp 24) rfl, x0]) hg (rfl) (fun j oj d hoj hd hji hlj h => T2_keep (Below.refl _ _) h)⟩
    · intro L b v hi hdep hcl hf hn hg ht
      have hg : GT2 g h base ps PF cl ga C w u7 L v := hg
      have x0 : b.eval (.tmp 0) = .pointer (some ⟨g, 0, none⟩) := by rw [hf.eval (by decide)]; exact e0
      exact ⟨wanted_at rfl rfl (show b.eval (.tmp 25) = .bool true from ht 8 _ 25 rfl rfl (hdep 8 (by decide))), still_ok (.pointer (some ⟨g, 0, none⟩)) (by rw [exec_move (.tmp 0) rfl, x0]) hg (rfl) (fun j oj d hoj hd hji hlj h => T2_keep (Below.refl _ _) h)⟩
    · intro L b v hi hdep hcl hf hn hg ht
      have hg : GT2 g h base ps PF cl ga C w u7 L v := hg
      have x0 : b.eval (.tmp 5) = .pointer (some ⟨ga, 0, none⟩) := by rw [hf.eval (by decide)]; exact e5
      exact ⟨wanted_at rfl rfl (show b.eval (.tmp 25) = .bool true from ht 8 _ 25 rfl rfl (hdep 8 (by decide))), still_ok (.pointer (some ⟨ga, 1, none⟩)) (by unfold execOp; simp only [x0]; go_simp) hg (rfl) (fun j oj d hoj hd hji hlj h => T2_keep (Below.refl _ _) h)⟩
    · intro L b v hi hdep hcl hf hn hg ht
      have hg : GT2 g h base ps PF cl ga C w u7 L v := hg
      have x0 : b.eval (.tmp 27) = .pointer (some ⟨ga, 1, none⟩) := ht 10 _ 27 rfl rfl (hdep 10 (by decide))
      obtain ⟨hc1, hc2, hc3⟩ := HC1.out v hg.1.2.1
      exact ⟨wanted_at rfl rfl (show b.eval (.tmp 25) = .bool true from ht 8 _ 25 rfl rfl (hdep 8 (by decide))), still_ok (.int .i64 d) (by unfold execOp; simp only [x0]; go_simp) hg (rfl) (fun j oj d hoj hd hji hlj h => T2_keep (Below.refl _ _) h)⟩
    · intro L b v hi hdep hcl hf hn hg ht
      have hg : GT2 g h base ps PF cl ga C w u7 L v := hg
      have x0 : b.eval (.tmp 5) = .pointer (some ⟨ga, 0, none⟩) := by rw [hf.eval (by decide)]; exact e5
      exact ⟨wanted_at rfl rfl (show b.eval (.tmp 25) = .bool true from ht 8 _ 25 rfl rfl (hdep 8 (by decide))), still_ok (.pointer (some ⟨ga, 2, none⟩)) (by unfold execOp; simp only [x0]; go_simp) hg (rfl) (fun j oj d hoj hd hji hlj h => T2_keep (Below.refl _ _) h)⟩
    · intro L b v hi hdep hcl hf hn hg ht
      have hg : GT2 g h base ps PF cl ga C w u7 L v := hg
      have x0 : b.eval (.tmp 29) = .pointer (some ⟨ga, 2, none⟩) := ht 12 _ 29 rfl rfl (hdep 12 (by decide))
      obtain ⟨hc1, hc2, hc3⟩ := HC1.out v hg.1.2.1
      exact ⟨wanted_at rfl rfl (show b.eval (.tmp 25) = .bool true from ht 8 _ 25 rfl rfl (hdep 8 (by decide))), still_ok (.int .i64 t) (by unfold execOp; simp only [x0]; go_simp) hg (rfl) (fun j oj d hoj hd hji hlj h => T2_keep (Below.refl _ _) h)⟩
    · intro L b v hi hdep hcl hf hn hg ht
      have hg : GT2 g h base ps PF cl ga C w u7 L v := hg
      have x0 : b.eval (.tmp 26) = .pointer (some ⟨g, 0, none⟩) := ht 9 _ 26 rfl rfl (hdep 9 (by decide))
      have x1 : b.eval (.tmp 28) = .int .i64 d := ht 11 _ 28 rfl rfl (hdep 11 (by decide))
      have x2 : b.eval (.tmp 30) = .int .i64 t := ht 13 _ 30 rfl rfl (hdep 13 (by decide))
      refine ⟨wanted_at rfl rfl (show b.eval (.tmp 25) = .bool true from ht 8 _ 25 rfl rfl (hdep 8 (by decide))), call_ok 17 #[.tmp 26, .tmp 28, .tmp 30] _ rfl #[.pointer (some ⟨g, 0, none⟩), .int .i64 d, .int .i64 t] (by simp [x0, x1, x2]) (enters_of Try.func17 (by kernel_rfl) rfl) ((Trial_jw v g base 0 0 ps cl d t hg.1.1.jw).mono ?_)⟩
      rintro r v2 ⟨u, rfl, ho, hb2⟩
      exact ⟨_, rfl, hg.below hb2, (show LL v2 SF u by rw [HSF.out, HPF.out]; exact LL.of ho), fun j oj d hoj hd hji hlj h => T2_keep hb2 h⟩
    · intro L b v hi hdep hcl hf hn hg ht
      have hg : GT2 g h base ps PF cl ga C w u7 L v := hg
      have x0 : b.eval (.tmp 7) = u7 := by rw [hf.eval (by decide)]; exact e7
      exact ⟨wanted_at rfl rfl (show b.eval (.tmp 25) = .bool true from ht 8 _ 25 rfl rfl (hdep 8 (by decide))), still_ok u7 (by rw [exec_move (.tmp 7) rfl, x0]) hg (show LJ v base PF u7 from hg.2) (fun j oj d hoj hd hji hlj h => T2_keep (Below.refl _ _) h)⟩
    · intro L b v hi hdep hcl hf hn hg ht
      have hg : GT2 g h base ps PF cl ga C w u7 L v := hg
      have y0 : LJ v base PF (b.eval (.tmp 32)) := ht 15 _ 32 rfl rfl (hdep 15 (by decide))
      obtain ⟨A, c, x0, hr0⟩ := y0.rd
      refine ⟨wanted_at rfl rfl (show b.eval (.tmp 25) = .bool true from ht 8 _ 25 rfl rfl (hdep 8 (by decide))), call_ok 38 #[.tmp 32] _ rfl #[.slice A PF.length c] (by simp [x0]) (enters_of Try.func38 (by kernel_rfl) rfl) ((rSums_any A PF.length c PF v hr0 (by have := HPL.out; omega) HP7.out).mono ?_)⟩
      rintro r v2 ⟨u, rfl, ho, hb2⟩
      exact ⟨_, rfl, hg.below hb2, (show LL v2 SF u by rw [HSF.out]; exact LL.of ho), fun j oj d hoj hd hji hlj h => T2_keep hb2 h⟩
    · intro L b v hi hdep hcl hf hn hg ht
      have hg : GT2 g h base ps PF cl ga C w u7 L v := hg
      have y0 : LL v SF (b.eval (.tmp 31)) := ht 14 _ 31 rfl rfl (hdep 14 (by decide))
      have y1 : LL v SF (b.eval (.tmp 33)) := ht 16 _ 33 rfl rfl (hdep 16 (by decide))
      obtain ⟨A, c, x0, hr0⟩ := y0
      obtain ⟨A', c', x1, hr1⟩ := y1
      refine ⟨wanted_at rfl rfl (show b.eval (.tmp 25) = .bool true from ht 8 _ 25 rfl rfl (hdep 8 (by decide))), call_ok 12 #[.tmp 31, .tmp 33] _ rfl #[.slice A SF.length c, (.slice A' SF.length c')] (by simp [x0, x1]) (enters_of Try.func12 (by kernel_rfl) rfl) ((Same_eq A A' SF.length c c' SF v hr0 hr1 HS7.out).mono ?_)⟩
      rintro r v2 ⟨rfl, hd2⟩
      have hb2 := hd2.below
      exact ⟨_, rfl, hg.below hb2, rfl, fun j oj d hoj hd hji hlj h => T2_keep hb2 h⟩
    · intro L b v hi hdep hcl hf hn hg ht
      have hg : GT2 g h base ps PF cl ga C w u7 L v := hg
      have x0 : b.eval (.tmp 25) = .bool true := ht 8 _ 25 rfl rfl (hdep 8 (by decide))
      have x1 : b.eval (.tmp 34) = .bool true := ht 17 _ 34 rfl rfl (hdep 17 (by decide))
      exact ⟨wanted_free rfl [] _, still_ok (.bool true) (by unfold execOp; simp only [x0, x1]; go_simp) hg (rfl) (fun j oj d hoj hd hji hlj h => T2_keep (Below.refl _ _) h)⟩
    · intro L b v hi hdep hcl hf hn hg ht
      have hg : GT2 g h base ps PF cl ga C w u7 L v := hg
      have x0 : b.eval (.tmp 35) = .bool true := ht 18 _ 35 rfl rfl (hdep 18 (by decide))
      exact ⟨wanted_free rfl [] _, still_ok (.bool true) (by rw [exec_move (.tmp 35) rfl, x0]) hg (rfl) (fun j oj d hoj hd hji hlj h => T2_keep (Below.refl _ _) h)⟩
    · intro L b v hi hdep hcl hf hn hg ht
      have hg : GT2 g h base ps PF cl ga C w u7 L v := hg
      have x0 : b.eval (.tmp 0) = .pointer (some ⟨g, 0, none⟩) := by rw [hf.eval (by decide)]; exact e0
      exact ⟨wanted_at rfl rfl (show b.eval (.tmp 36) = .bool true from ht 19 _ 36 rfl rfl (hdep 19 (by decide))), still_ok (.pointer (some ⟨g, 0, none⟩)) (by rw [exec_move (.tmp 0) rfl, x0]) hg (rfl) (fun j oj d hoj hd hji hlj h => T2_keep (Below.refl _ _) h)⟩
    · intro L b v hi hdep hcl hf hn hg ht
      have hg : GT2 g h base ps PF cl ga C w u7 L v := hg
      have x0 : b.eval (.tmp 5) = .pointer (some ⟨ga, 0, none⟩) := by rw [hf.eval (by decide)]; exact e5
      exact ⟨wanted_at rfl rfl (show b.eval (.tmp 36) = .bool true from ht 19 _ 36 rfl rfl (hdep 19 (by decide))), still_ok (.pointer (some ⟨ga, 3, none⟩)) (by unfold execOp; simp only [x0]; go_simp) hg (rfl) (fun j oj d hoj hd hji hlj h => T2_keep (Below.refl _ _) h)⟩
    · intro L b v hi hdep hcl hf hn hg ht
      have hg : GT2 g h base ps PF cl ga C w u7 L v := hg
      have x0 : b.eval (.tmp 38) = .pointer (some ⟨ga, 3, none⟩) := ht 21 _ 38 rfl rfl (hdep 21 (by decide))
      obtain ⟨hc1, hc2, hc3⟩ := HC1.out v hg.1.2.1
      exact ⟨wanted_at rfl rfl (show b.eval (.tmp 36) = .bool true from ht 19 _ 36 rfl rfl (hdep 19 (by decide))), still_ok (.string B) (by unfold execOp; simp only [x0]; go_simp) hg (rfl) (fun j oj d hoj hd hji hlj h => T2_keep (Below.refl _ _) h)⟩
    · intro L b v hi hdep hcl hf hn hg ht
      have hg : GT2 g h base ps PF cl ga C w u7 L v := hg
      have x0 : b.eval (.tmp 37) = .pointer (some ⟨g, 0, none⟩) := ht 20 _ 37 rfl rfl (hdep 20 (by decide))
      have x1 : b.eval (.tmp 39) = .string B := ht 22 _ 39 rfl rfl (hdep 22 (by decide))
      refine ⟨wanted_at rfl rfl (show b.eval (.tmp 36) = .bool true from ht 19 _ 36 rfl rfl (hdep 19 (by decide))), call_ok 20 #[.tmp 37, .tmp 39] _ rfl #[.pointer (some ⟨g, 0, none⟩), .string B] (by simp [x0, x1]) (enters_of Try.func20 (by kernel_rfl) rfl) ((Balance_jw v g base 0 0 ps cl B hg.1.1.jw hg.1.1.bs).mono ?_)⟩
      rintro r v2 ⟨u, rfl, ho, hb2⟩
      exact ⟨_, rfl, hg.below hb2, (show LL v2 SB u by rw [HSB.out]; exact LL.of ho), fun j oj d hoj hd hji hlj h => T2_keep hb2 h⟩
    · intro L b v hi hdep hcl hf hn hg ht
      have hg : GT2 g h base ps PF cl ga C w u7 L v := hg
      have x0 : b.eval (.tmp 1) = .pointer (some ⟨h, 0, none⟩) := by rw [hf.eval (by decide)]; exact e1
      exact ⟨wanted_at rfl rfl (show b.eval (.tmp 36) = .bool true from ht 19 _ 36 rfl rfl (hdep 19 (by decide))), still_ok (.pointer (some ⟨h, 0, none⟩)) (by rw [exec_move (.tmp 1) rfl, x0]) hg (rfl) (fun j oj d hoj hd hji hlj h => T2_keep (Below.refl _ _) h)⟩
    · intro L b v hi hdep hcl hf hn hg ht
      have hg : GT2 g h base ps PF cl ga C w u7 L v := hg
      have x0 : b.eval (.tmp 41) = .pointer (some ⟨h, 0, none⟩) := ht 24 _ 41 rfl rfl (hdep 24 (by decide))
      exact ⟨wanted_at rfl rfl (show b.eval (.tmp 36) = .bool true from ht 19 _ 36 rfl rfl (hdep 19 (by decide))), still_ok (.pointer (some ⟨h, 0, none⟩)) (by unfold execOp; simp only [x0]; go_simp) hg (rfl) (fun j oj d hoj hd hji hlj h => T2_keep (Below.refl _ _) h)⟩
    · intro L b v hi hdep hcl hf hn hg ht
      have hg : GT2 g h base ps PF cl ga C w u7 L v := hg
      have x0 : b.eval (.tmp 42) = .pointer (some ⟨h, 0, none⟩) := ht 25 _ 42 rfl rfl (hdep 25 (by decide))
      exact ⟨wanted_at rfl rfl (show b.eval (.tmp 36) = .bool true from ht 19 _ 36 rfl rfl (hdep 19 (by decide))), still_ok (.pointer (some ⟨h, 0, none⟩)) (by unfold execOp; simp only [x0]; go_simp) hg (rfl) (fun j oj d hoj hd hji hlj h => T2_keep (Below.refl _ _) h)⟩
    · intro L b v hi hdep hcl hf hn hg ht
      have hg : GT2 g h base ps PF cl ga C w u7 L v := hg
      have x0 : b.eval (.tmp 43) = .pointer (some ⟨h, 0, none⟩) := ht 26 _ 43 rfl rfl (hdep 26 (by decide))
      obtain ⟨⟨u, hc, hlj⟩, _⟩ := hg.1.1.rcell
      exact ⟨wanted_at rfl rfl (show b.eval (.tmp 36) = .bool true from ht 19 _ 36 rfl rfl (hdep 19 (by decide))), still_ok u (by unfold execOp; simp only [x0]; go_simp) hg (show LJ v base ps u from hlj) (fun j oj d hoj hd hji hlj h => T2_keep (Below.refl _ _) h)⟩
    · intro L b v hi hdep hcl hf hn hg ht
      have hg : GT2 g h base ps PF cl ga C w u7 L v := hg
      have x0 : b.eval (.tmp 5) = .pointer (some ⟨ga, 0, none⟩) := by rw [hf.eval (by decide)]; exact e5
      exact ⟨wanted_at rfl rfl (show b.eval (.tmp 36) = .bool true from ht 19 _ 36 rfl rfl (hdep 19 (by decide))), still_ok (.pointer (some ⟨ga, 3, none⟩)) (by unfold execOp; simp only [x0]; go_simp) hg (rfl) (fun j oj d hoj hd hji hlj h => T2_keep (Below.refl _ _) h)⟩
    · intro L b v hi hdep hcl hf hn hg ht
      have hg : GT2 g h base ps PF cl ga C w u7 L v := hg
      have x0 : b.eval (.tmp 45) = .pointer (some ⟨ga, 3, none⟩) := ht 28 _ 45 rfl rfl (hdep 28 (by decide))
      obtain ⟨hc1, hc2, hc3⟩ := HC1.out v hg.1.2.1
      exact ⟨wanted_at rfl rfl (show b.eval (.tmp 36) = .bool true from ht 19 _ 36 rfl rfl (hdep 19 (by decide))), still_ok (.string B) (by unfold execOp; simp only [x0]; go_simp) hg (rfl) (fun j oj d hoj hd hji hlj h => T2_keep (Below.refl _ _) h)⟩
    · intro L b v hi hdep hcl hf hn hg ht
      have hg : GT2 g h base ps PF cl ga C w u7 L v := hg
      have y0 : LJ v base ps (b.eval (.tmp 44)) := ht 27 _ 44 rfl rfl (hdep 27 (by decide))
      have x1 : b.eval (.tmp 46) = .string B := ht 29 _ 46 rfl rfl (hdep 29 (by decide))
      obtain ⟨A, c, qs, x0, ho, hp⟩ := y0
      have hq9 : qs.length ≤ 900000 := by have := hg.1.1.len; rw [← hp, pvs_len] at this; omega
      have hq7 : ∀ q ∈ qs, q.p.lines.length ≤ 4398046511104 := fun q hq => by have := hg.1.1.lines q.p (by rw [← hp]; exact List.mem_map.2 ⟨q, hq, rfl⟩); omega
      refine ⟨wanted_at rfl rfl (show b.eval (.tmp 36) = .bool true from ht 19 _ 36 rfl rfl (hdep 19 (by decide))), call_ok 39 #[.tmp 44, .tmp 46] _ rfl #[.slice A qs.length c, .string B] (by simp [x0, x1]) (enters_of Try.func39 (by kernel_rfl) rfl) ((rBalance_any base A qs.length c qs B v ho rfl hq9 hq7 hg.1.1.bs).mono ?_)⟩
      rintro r v2 ⟨u, rfl, ho, hb2⟩
      exact ⟨_, rfl, hg.below hb2, (show LL v2 SB u by rw [HSB.out, ← hp]; exact LL.of ho), fun j oj d hoj hd hji hlj h => T2_keep hb2 h⟩
    · intro L b v hi hdep hcl hf hn hg ht
      have hg : GT2 g h base ps PF cl ga C w u7 L v := hg
      have y0 : LL v SB (b.eval (.tmp 40)) := ht 23 _ 40 rfl rfl (hdep 23 (by decide))
      have y1 : LL v SB (b.eval (.tmp 47)) := ht 30 _ 47 rfl rfl (hdep 30 (by decide))
      obtain ⟨A, c, x0, hr0⟩ := y0
      obtain ⟨A', c', x1, hr1⟩ := y1
      refine ⟨wanted_at rfl rfl (show b.eval (.tmp 36) = .bool true from ht 19 _ 36 rfl rfl (hdep 19 (by decide))), call_ok 12 #[.tmp 40, .tmp 47] _ rfl #[.slice A SB.length c, (.slice A' SB.length c')] (by simp [x0, x1]) (enters_of Try.func12 (by kernel_rfl) rfl) ((Same_eq A A' SB.length c c' SB v hr0 hr1 HB7.out).mono ?_)⟩
      rintro r v2 ⟨rfl, hd2⟩
      have hb2 := hd2.below
      exact ⟨_, rfl, hg.below hb2, rfl, fun j oj d hoj hd hji hlj h => T2_keep hb2 h⟩
    · intro L b v hi hdep hcl hf hn hg ht
      have hg : GT2 g h base ps PF cl ga C w u7 L v := hg
      have x0 : b.eval (.tmp 36) = .bool true := ht 19 _ 36 rfl rfl (hdep 19 (by decide))
      have x1 : b.eval (.tmp 48) = .bool true := ht 31 _ 48 rfl rfl (hdep 31 (by decide))
      exact ⟨wanted_free rfl [] _, still_ok (.bool true) (by unfold execOp; simp only [x0, x1]; go_simp) hg (rfl) (fun j oj d hoj hd hji hlj h => T2_keep (Below.refl _ _) h)⟩
    · intro L b v hi hdep hcl hf hn hg ht
      have hg : GT2 g h base ps PF cl ga C w u7 L v := hg
      have x0 : b.eval (.tmp 49) = .bool true := ht 32 _ 49 rfl rfl (hdep 32 (by decide))
      exact ⟨wanted_free rfl [] _, still_ok (.bool true) (by rw [exec_move (.tmp 49) rfl, x0]) hg (rfl) (fun j oj d hoj hd hji hlj h => T2_keep (Below.refl _ _) h)⟩
    · intro L b v hi hdep hcl hf hn hg ht
      have hg : GT2 g h base ps PF cl ga C w u7 L v := hg
      have x0 : b.eval (.tmp 0) = .pointer (some ⟨g, 0, none⟩) := by rw [hf.eval (by decide)]; exact e0
      exact ⟨wanted_at rfl rfl (show b.eval (.tmp 50) = .bool true from ht 33 _ 50 rfl rfl (hdep 33 (by decide))), still_ok (.pointer (some ⟨g, 0, none⟩)) (by rw [exec_move (.tmp 0) rfl, x0]) hg (rfl) (fun j oj d hoj hd hji hlj h => T2_keep (Below.refl _ _) h)⟩
    · intro L b v hi hdep hcl hf hn hg ht
      have hg : GT2 g h base ps PF cl ga C w u7 L v := hg
      have x0 : b.eval (.tmp 51) = .pointer (some ⟨g, 0, none⟩) := ht 34 _ 51 rfl rfl (hdep 34 (by decide))
      obtain ⟨vj, qsj, _, _, hJ, _⟩ := hg.1.1.ex
      refine ⟨wanted_at rfl rfl (show b.eval (.tmp 50) = .bool true from ht 33 _ 50 rfl rfl (hdep 33 (by decide))), call_ok 15 #[.tmp 51] _ rfl #[.pointer (some ⟨g, 0, none⟩)] (by simp [x0]) (enters_of Try.func15 (by kernel_rfl) rfl) ((Closed_any v g vj cl hJ.cell).mono ?_)⟩
      rintro r v2 ⟨rfl, rfl⟩
      have hb2 := Below.refl v2.heap.size v2
      exact ⟨_, rfl, hg.below hb2, rfl, fun j oj d hoj hd hji hlj h => T2_keep hb2 h⟩
    · intro L b v hi hdep hcl hf hn hg ht
      have hg : GT2 g h base ps PF cl ga C w u7 L v := hg
      have x0 : b.eval (.tmp 1) = .pointer (some ⟨h, 0, none⟩) := by rw [hf.eval (by decide)]; exact e1
      exact ⟨wanted_at rfl rfl (show b.eval (.tmp 50) = .bool true from ht 33 _ 50 rfl rfl (hdep 33 (by decide))), still_ok (.pointer (some ⟨h, 0, none⟩)) (by rw [exec_move (.tmp 1) rfl, x0]) hg (rfl) (fun j oj d hoj hd hji hlj h => T2_keep (Below.refl _ _) h)⟩
    · intro L b v hi hdep hcl hf hn hg ht
      have hg : GT2 g h base ps PF cl ga C w u7 L v := hg
      have x0 : b.eval (.tmp 53) = .pointer (some ⟨h, 0, none⟩) := ht 36 _ 53 rfl rfl (hdep 36 (by decide))
      exact ⟨wanted_at rfl rfl (show b.eval (.tmp 50) = .bool true from ht 33 _ 50 rfl rfl (hdep 33 (by decide))), still_ok (.pointer (some ⟨h, 0, none⟩)) (by unfold execOp; simp only [x0]; go_simp) hg (rfl) (fun j oj d hoj hd hji hlj h => T2_keep (Below.refl _ _) h)⟩
    · intro L b v hi hdep hcl hf hn hg ht
      have hg : GT2 g h base ps PF cl ga C w u7 L v := hg
      have x0 : b.eval (.tmp 54) = .pointer (some ⟨h, 0, none⟩) := ht 37 _ 54 rfl rfl (hdep 37 (by decide))
      exact ⟨wanted_at rfl rfl (show b.eval (.tmp 50) = .bool true from ht 33 _ 50 rfl rfl (hdep 33 (by decide))), still_ok (.pointer (some ⟨h, 1, none⟩)) (by unfold execOp; simp only [x0]; go_simp) hg (rfl) (fun j oj d hoj hd hji hlj h => T2_keep (Below.refl _ _) h)⟩
    · intro L b v hi hdep hcl hf hn hg ht
      have hg : GT2 g h base ps PF cl ga C w u7 L v := hg
      have x0 : b.eval (.tmp 55) = .pointer (some ⟨h, 1, none⟩) := ht 38 _ 55 rfl rfl (hdep 38 (by decide))
      have hc := hg.1.1.rcell.2
      exact ⟨wanted_at rfl rfl (show b.eval (.tmp 50) = .bool true from ht 33 _ 50 rfl rfl (hdep 33 (by decide))), still_ok (.int .i64 cl) (by unfold execOp; simp only [x0]; go_simp) hg (rfl) (fun j oj d hoj hd hji hlj h => T2_keep (Below.refl _ _) h)⟩
    · intro L b v hi hdep hcl hf hn hg ht
      have hg : GT2 g h base ps PF cl ga C w u7 L v := hg
      have x0 : b.eval (.tmp 52) = .int .i64 cl := ht 35 _ 52 rfl rfl (hdep 35 (by decide))
      have x1 : b.eval (.tmp 56) = .int .i64 cl := ht 39 _ 56 rfl rfl (hdep 39 (by decide))
      exact ⟨wanted_at rfl rfl (show b.eval (.tmp 50) = .bool true from ht 33 _ 50 rfl rfl (hdep 33 (by decide))), still_ok (.bool true) (by unfold execOp; simp only [x0, x1]; go_simp) hg (rfl) (fun j oj d hoj hd hji hlj h => T2_keep (Below.refl _ _) h)⟩
    · intro L b v hi hdep hcl hf hn hg ht
      have hg : GT2 g h base ps PF cl ga C w u7 L v := hg
      have x0 : b.eval (.tmp 50) = .bool true := ht 33 _ 50 rfl rfl (hdep 33 (by decide))
      have x1 : b.eval (.tmp 57) = .bool true := ht 40 _ 57 rfl rfl (hdep 40 (by decide))
      exact ⟨wanted_free rfl [] _, still_ok (.bool true) (by unfold execOp; simp only [x0, x1]; go_simp) hg (rfl) (fun j oj d hoj hd hji hlj h => T2_keep (Below.refl _ _) h)⟩
    · intro L b v hi hdep hcl hf hn hg ht
      have hg : GT2 g h base ps PF cl ga C w u7 L v := hg
      have x0 : b.eval (.tmp 58) = .bool true := ht 41 _ 58 rfl rfl (hdep 41 (by decide))
      exact ⟨wanted_free rfl [] _, still_ok (.bool true) (by rw [exec_assign (.tmp 58) rfl, x0]) hg (rfl) (fun j oj d hoj hd hji hlj h => T2_keep (Below.refl _ _) h)⟩
    · intro b v hf hg ht
      have hl := hg.1.2.2
      have x6 : b.eval (.tmp 6) = .bool true := ht 42 _ 6 rfl rfl
      refine HQ.out b v ?_
      rw [hf.out]
      simp only [List.foldl_cons, List.foldl_nil, x6]
      rw [HA'.out]
      generalize b.eval (.tmp 17) = u17
      generalize b.eval (.tmp 18) = u18
      generalize b.eval (.tmp 19) = u19
      generalize b.eval (.tmp 20) = u20
      generalize b.eval (.tmp 21) = u21
      generalize b.eval (.tmp 22) = u22
      generalize b.eval (.tmp 23) = u23
      generalize b.eval (.tmp 24) = u24
      generalize b.eval (.tmp 25) = u25
      generalize b.eval (.tmp 26) = u26
      generalize b.eval (.tmp 27) = u27
      generalize b.eval (.tmp 28) = u28
      generalize b.eval (.tmp 29) = u29
      generalize b.eval (.tmp 30) = u30
      generalize b.eval (.tmp 31) = u31
      generalize b.eval (.tmp 32) = u32
      generalize b.eval (.tmp 33) = u33
      generalize b.eval (.tmp 34) = u34
      generalize b.eval (.tmp 35) = u35
      generalize b.eval (.tmp 36) = u36
      generalize b.eval (.tmp 37) = u37
      generalize b.eval (.tmp 38) = u38
      generalize b.eval (.tmp 39) = u39
      generalize b.eval (.tmp 40) = u40
      generalize b.eval (.tmp 41) = u41
      generalize b.eval (.tmp 42) = u42
      generalize b.eval (.tmp 43) = u43
      generalize b.eval (.tmp 44) = u44
      generalize b.eval (.tmp 45) = u45
      generalize b.eval (.tmp 46) = u46
      generalize b.eval (.tmp 47) = u47
      generalize b.eval (.tmp 48) = u48
      generalize b.eval (.tmp 49) = u49
      generalize b.eval (.tmp 50) = u50
      generalize b.eval (.tmp 51) = u51
      generalize b.eval (.tmp 52) = u52
      generalize b.eval (.tmp 53) = u53
      generalize b.eval (.tmp 54) = u54
      generalize b.eval (.tmp 55) = u55
      generalize b.eval (.tmp 56) = u56
      generalize b.eval (.tmp 57) = u57
      generalize b.eval (.tmp 58) = u58
      simp only [Act.put, List.setIfInBounds_toArray, List.set_cons_succ, List.set_cons_zero]
      go_wp2_with fail
      go_ret
      exact ⟨rfl, hl⟩
end Go.Proofs.Ytpmbbhefcejjlaa
