/-
  The walk of command.form (printed by gen_form.py). No statement is proved here.
-/
import Derived.Deep.CutBlock
import Derived.Deep.CutRange
import Derived.Test.YthlgjbmkealjjaaGreatDoorCmQ
namespace Go.Proofs.YthlgjbmkealjjaaGreatDoor
open Go.RowKit
set_option linter.unusedVariables false
/-- A row of operands in memory. -/
def RowO (bn bt : Nat) (v : World) (f : List Kd) (A : Option Addr) : Prop := ∃ g cur, bn ≤ g ∧ A = some ⟨g, 0, none⟩ ∧ v.heap[g]? = some (.cells cur 50 (0, 0)) ∧ cur.toList.take (f.length * 3) = opCells bn bt f
/-- What form answers. -/
def FormIs (op : List UInt8) (k : Int) (w : World) (e : Ending) (w' : World) : Prop :=
  Below w.heap.size w w' ∧ ∃ bn bt, w'.heap[bn]? = some (.cells #[.func (.func 34) #[] #[]] 73 (0, 0)) ∧ w'.heap[bt]? = some (.cells #[.func (.func 35) #[] #[]] 73 (0, 0)) ∧ w.heap.size ≤ bn ∧ w.heap.size ≤ bt ∧
    (match formOf op k with
      | none => e = .returned (.tuple #[.slice none 0 0, .bool false])
      | some f => ∃ A c, e = .returned (.tuple #[.slice A f.length c, .bool true]) ∧ f.length ≤ c ∧ RowO bn bt w' f A)
theorem opCells_len (bn bt : Nat) (f : List Kd) : (opCells bn bt f).length = f.length * 3 := by
  unfold opCells
  induction f with
  | nil => rfl
  | cons k f ih => rw [List.flatMap_cons, List.length_append, ih, Array.length_toList, kc_size, List.length_cons]; omega
theorem form_off {op : List UInt8} {k : Int} (h : ¬ (op = prodB ∧ 7 ≤ k ∧ k ≤ 15)) : formOf op k = formTab op := by unfold formOf; rw [if_neg h]
theorem zero_ops : ∀ w, (zeroValue 41).run Tryz.prog w = .ok (.slice none 0 0) w := by
  intro w
  go_simp
theorem form_look {bn bt B : Nat} {u : Value} {v : World} (h : MapV bn bt B (fun _ => true) u v) (op : ByteArray) :
    ∃ (A : Option Addr) (n c : Nat) (b : Bool), (Instr.lookup 75 u (.string op) true).run Tryz.prog v = .ok (.tuple #[.slice A n c, .bool b]) v ∧
      (match formTab op.data.toList with
        | none => A = none ∧ n = 0 ∧ c = 0 ∧ b = false
        | some f => b = true ∧ n = f.length ∧ f.length ≤ c ∧ RowO bn bt v f A) := by
  obtain ⟨gm, l, rfl, h2, h3, h4⟩ := h
  have hl := look_two keS id (keyOk_str id Tryz.prog 9 (by kernel_rfl)) info_map (.slice none 0 0) zero_ops v gm l l.length op h3
  have h5 := h4 op
  rw [← ins_tab]
  cases hi : insOf op.data.toList with
  | none =>
    rw [hi] at h5
    dsimp only at h5
    rw [h5] at hl
    exact ⟨none, 0, 0, false, hl, rfl, rfl, rfl, rfl⟩
  | some p =>
    obtain ⟨j, f⟩ := p
    rw [hi] at h5
    dsimp only at h5
    obtain ⟨u, e1, g, e0, e2, e3⟩ := h5.2 rfl
    rw [e1] at hl
    subst e2
    exact ⟨some ⟨g, 0, none⟩, f.length, f.length, true, hl, rfl, rfl, Nat.le_refl _, g, _, e0, rfl, e3, List.take_of_length_le (Nat.le_of_eq (opCells_len bn bt f))⟩
theorem form_none {op : List UInt8} {k : Int} {bn bt : Nat} {w w' : World} {e : Ending} (hb : Below w.heap.size w w') (h1 : w'.heap[bn]? = some (.cells #[.func (.func 34) #[] #[]] 73 (0, 0))) (h2 : w'.heap[bt]? = some (.cells #[.func (.func 35) #[] #[]] 73 (0, 0))) (h3 : w.heap.size ≤ bn ∧ w.heap.size ≤ bt)
    {A : Option Addr} {n c : Nat} {b : Bool} (he : e = .returned (.tuple #[.slice A n c, .bool b])) (hf : formOf op k = formTab op) (h : match formTab op with
        | none => A = none ∧ n = 0 ∧ c = 0 ∧ b = false
        | some f => b = true ∧ n = f.length ∧ f.length ≤ c ∧ RowO bn bt w' f A) : FormIs op k w e w' := by
  refine ⟨hb, bn, bt, h1, h2, h3.1, h3.2, ?_⟩
  rw [hf]
  cases ht : formTab op with
  | none =>
    rw [ht] at h
    obtain ⟨rfl, rfl, rfl, rfl⟩ := h
    exact he
  | some f =>
    rw [ht] at h
    obtain ⟨rfl, rfl, k3, k4⟩ := h
    exact ⟨A, c, he, k3, k4⟩
/-! ### region 5: a product -/
theorem lit_i {v : World} : (Instr.buildSlice 41 1 #[(0, .agg (kcI))]).run Tryz.prog v = .ok (.slice (some ⟨v.heap.size, 0, none⟩) 1 1) (v.alloc (.cells kcI 50)) := by
  unfold kcI
  go_simp
def G5 (B : Nat) (w1 : World) (_ : Nat → Bool) (v : World) : Prop := Below B w1 v
def T5 (bn bt B k : Nat) (L : Nat → Bool) (i : Nat) (u : Value) (v : World) : Prop :=
  match i with
  | 0 => u = .agg (kcN bn)
  | 1 => L 6 = false → LitW 50 (kcN bn) 1 B u v
  | 2 => u = .agg kcI
  | 3 => L 6 = false → LitW 50 kcI 1 B u v
  | 4 => u = .int .i64 (k : Int)
  | 5 => L 6 = false → ∃ gq, u = .slice (some ⟨gq, 0, none⟩) k k ∧ B ≤ gq ∧ Fill v gq k kcI.toList k
  | 6 => v.ownsRow B 50 3 u (k + 1) (opCells bn bt (.n :: List.replicate k .i))
  | 7 => v.ownsRow B 50 3 u (k + 1) (opCells bn bt (.n :: List.replicate k .i))
  | 8 => u = .bool true
  | _ => True
theorem Fill.below {v v2 : World} {g n q : Nat} {C : List Value} (h : Fill v g n C q) (hb : Below v.heap.size v v2) : Fill v2 g n C q := by
  have he := hb.block g h.1.lt
  exact ⟨h.1.same he, fun e h1 i u h2 => by rw [World.cell?_of_block (a := ⟨g, e * 3 + i, none⟩) he]; exact h.2 e h1 i u h2⟩
theorem T5_keep {bn bt B k i jj : Nat} {L : Nat → Bool} {u : Value} {v v2 : World} (hb : Below v.heap.size v v2) (h : T5 bn bt B k L jj u v) : T5 bn bt B k (upd L i) jj u v2 := by
  unfold T5 at h ⊢
  split at h <;> first
    | exact h
    | exact fun h0 => (h (upd_false h0)).below hb
    | exact own_below' h hb
    | (intro h0; obtain ⟨gq, e1, e2, e3⟩ := h (upd_false h0); exact ⟨gq, e1, e2, e3.below hb⟩)
theorem own_lit3 {w : World} {g base : Nat} {C : Array Value} (hC : C.size = 3) (h : w.heap[g]? = some (.cells C 50 (0, 0))) (hb : base ≤ g) : w.ownsRow base 50 3 (.slice (some ⟨g, 0, none⟩) 1 1) 1 C.toList :=
  ⟨by simpa using hC, .inr ⟨g, 1, C, rfl, hb, h, Nat.le_refl _, by unfold maxLen; omega, by rw [hC], List.take_of_length_le (by simp [hC])⟩⟩
theorem opCells_rep (bn bt k : Nat) : opCells bn bt (List.replicate k .i) = (List.replicate k kcI.toList).flatten := by
  unfold opCells
  induction k with
  | zero => rfl
  | succ k ih => rw [List.replicate_succ, List.flatMap_cons, ih, List.replicate_succ, List.flatten_cons]; rfl
theorem own_rowO {bn bt B n : Nat} {u : Value} {v : World} {f : List Kd} (h : v.ownsRow B 50 3 u n (opCells bn bt f)) (hn : n = f.length) (h0 : 0 < n) (hbn : bn ≤ B) : ∃ A c, u = .slice A n c ∧ n ≤ c ∧ RowO bn bt v f A := by
  rcases h.2 with ⟨_, e⟩ | ⟨g, cap, cur, e1, e2, e3, e4, _, _, e6⟩
  · omega
  · exact ⟨_, cap, e1, e4, g, cur, Nat.le_trans hbn e2, rfl, e3, by rw [← hn]; exact e6⟩
theorem opCells_one (bn bt : Nat) (f : List Kd) : ∀ u ∈ opCells bn bt f, u.oneCell' = true := by
  intro u hu
  obtain ⟨k, _, h2⟩ := List.mem_flatMap.1 hu
  have := kc_one bn bt k
  rw [Array.all_eq_true'] at this
  exact this u (by simpa using h2)
theorem infoOpd3 : (Tryz.prog.info? 50).map (fun i => (i.zero, i.size, i.bytes)) = some (some (.agg #[.nilFunc, .nilFunc, .bool false]), 3, 24) := by kernel_rfl
theorem app_opd {bn bt : Nat} {w : World} {base n k c : Nat} {v : Value} {f : List Kd} {E : Option Addr} (ho : w.ownsRow base 50 3 v n (opCells bn bt f)) (hE : Rd w 3 E k (opCells bn bt (List.replicate k .i))) (hk : n + k ≤ 1000) (hb : base ≤ w.heap.size) :
    ∃ v' w', (Builtin.append_ #[41, 41] 41 #[v, .slice E k c]).run Tryz.prog w = .ok v' w' ∧ w'.ownsRow base 50 3 v' (n + k) (opCells bn bt (f ++ List.replicate k .i)) ∧ w.grownBy w' v.ownBlock := by
  obtain ⟨i0, hi, hz0, hz1, hz2⟩ := info_parts infoOpd3
  obtain ⟨v', w', h2, h3, h4, _⟩ := run_append_rd w base 41 41 50 i0 (.agg #[.nilFunc, .nilFunc, .bool false]) 3 24 Tryz.underlying41 hi hz0 hz1 hz2 rfl (by decide) v n _ ho E k c _ hE (opCells_one bn bt _) (by unfold maxLen; omega) (by omega) hb
  exact ⟨v', w', h2, by unfold opCells at h3 ⊢; rw [List.flatMap_append]; exact h3, h4⟩
theorem fill_rd {bn bt k g : Nat} {v : World} (h : Fill v g k kcI.toList k) : Rd v 3 (some ⟨g, 0, none⟩) k (opCells bn bt (List.replicate k .i)) := by
  refine ⟨by rw [opCells_len, List.length_replicate], fun _ => ⟨g, 0, rfl, fun j u hu => ?_⟩⟩
  rw [opCells_rep] at hu
  exact h.read rfl k (Nat.le_refl _) j u hu
set_option maxRecDepth 100000 in
set_option maxHeartbeats 8000000 in
theorem form_any (op : ByteArray) (k : Int) (w0 : World) :
    Calls Tryz.prog 16 #[.string op, .int .i64 k] w0 (FormIs op.data.toList k w0) := by
  have hz3 := zsize_opd
  have hi3 := info_opd
  go_enter Tryz.func16, Tryz.ntmps16
  go_upto_region 2 with (first
    | (go_at_call 33; refine (name_any _ _).mono ?_; rintro e w1 ⟨rfl, hx1, hb1⟩)
    | (refine alloc_store rfl rfl 50 _ _ rfl rfl rfl rfl (kcN w0.heap.size) rfl rfl hz3 hi3 (kc_one w0.heap.size 0 .n) ?_))
  obtain ⟨g6, hg6⟩ : ∃ g6, g6 = w1.heap.size := ⟨_, rfl⟩
  rw [← hg6]
  refine wp_at (fun wx => wx.heap[g6]? = some (.cells (kcN w0.heap.size) 50 (0, 0)) ∧ Below w1.heap.size w1 wx) (by rw [hg6]; exact ⟨heap_alloc_new _ _, (Below.refl _ _).alloc (Nat.le_refl _) _⟩) ?_
  rintro w2 ⟨h6, hb2⟩
  have hx2 := CellsK.below hb2 _ _ _ _ hx1
  have hb02 := hb1.trans (hb2.mono hb1.size)
  obtain ⟨bt, hbt⟩ : ∃ bt, bt = w2.heap.size := ⟨_, rfl⟩
  clear hg6 hx1 hb1 hb2
  obtain ⟨bn, hbn⟩ : ∃ bn, bn = w0.heap.size := ⟨_, rfl⟩
  have hz3 := zsize_opd
  have hi3 := info_opd
  go_upto_region 3 with (first
    | (go_at_call 33; refine (name_any _ _).mono ?_; rintro e w3 ⟨rfl, hx3, hb3⟩)
    | (refine alloc_store rfl rfl 50 _ _ rfl rfl rfl rfl (kcN w2.heap.size) rfl rfl hz3 hi3 (kc_one w2.heap.size 0 .n) ?_))
  obtain ⟨g7, hg7⟩ : ∃ g7, g7 = w3.heap.size := ⟨_, rfl⟩
  rw [← hg7]
  refine wp_at (fun wx => wx.heap[g7]? = some (.cells (kcN w2.heap.size) 50 (0, 0)) ∧ Below w3.heap.size w3 wx) (by rw [hg7]; exact ⟨heap_alloc_new _ _, (Below.refl _ _).alloc (Nat.le_refl _) _⟩) ?_
  rintro w4 ⟨h7, hb4⟩
  have HG : Hid (GF bn bt g6 g7 w0 w4) := Lib.hid (by
    have hb34 : Below w2.heap.size w2 w4 := hb3.trans (hb4.mono hb3.size)
    rw [hbn, hbt]
    exact ⟨CellsK.below hb34 _ _ _ _ h6, h7, CellsK.below hb34 _ _ _ _ hx2, CellsK.below hb4 _ _ _ _ hx3, hb02.trans (hb34.mono hb02.size)⟩)
  have HBN : Hid (w0.heap.size ≤ bn ∧ w0.heap.size ≤ bt) := Lib.hid ⟨by rw [hbn]; exact Nat.le_refl _, by rw [hbt]; exact hb02.size⟩
  rw [← hbt]
  rw [← hbn]
  clear hg7 h6 h7 hx2 hx3 hb02 hb3 hb4 hz3 hi3 hbt
  refine region_letters fun a Q ha hQ => ?_
  have HA' := Lib.hid ha
  have HQ := Lib.hid hQ
  have e6 : a.eval (.tmp 6) = .pointer (some ⟨g6, 0, none⟩) := by rw [ha]; rfl
  have e7 : a.eval (.tmp 7) = .pointer (some ⟨g7, 0, none⟩) := by rw [ha]; rfl
  have hszA : a.tmps.size = 78 := by rw [ha]; rfl
  clear ha hQ
  refine region_opsN (by kernel_rfl) [13, 14, 15, 16, 17, 18, 19, 20, 21, 22, 23, 24, 25, 26, 27, 28, 29, 30, 31, 32, 33, 34, 35, 36, 37, 38, 39, 40, 41, 42, 43, 44, 45, 46, 47, 48, 49, 50, 51, 52, 8] (GFL bn bt g6 g7 w0) (TF bn bt w0.heap.size) (by kernel_rfl) (fun t h => by rw [hszA] at h; simp; omega) (HG.out.below ((Below.refl _ _).drew)) ⟨?_, ?_, ?_, ?_, ?_, ?_, ?_, ?_, ?_, ?_, ?_, ?_, ?_, ?_, ?_, ?_, ?_, ?_, ?_, ?_, ?_, ?_, ?_, ?_, ?_, ?_, ?_, ?_, ?_, ?_, ?_, ?_, ?_, ?_, ?_, ?_, ?_, ?_, ?_, ?_, ?_, ?_, ?_, ?_, ?_, ?_, ?_, ?_, ?_, ?_, ?_, ?_, ?_, ?_, trivial⟩ ?_
  · intro L b v hi hdep hcl hf hn hg ht
    have hg : GF bn bt g6 g7 w0 v := hg
    have n4 : L 4 = false := by
      cases h0 : L 4 with
      | false => rfl
      | true => exact absurd (hcl 4 _ 0 rfl h0 (by decide)) (by rw [hi]; decide)
    have n9 : L 9 = false := by
      cases h0 : L 9 with
      | false => rfl
      | true => exact absurd (hcl 9 _ 0 rfl h0 (by decide)) (by rw [hi]; decide)
    have n14 : L 14 = false := by
      cases h0 : L 14 with
      | false => rfl
      | true => exact absurd (hcl 14 _ 0 rfl h0 (by decide)) (by rw [hi]; decide)
    have n19 : L 19 = false := by
      cases h0 : L 19 with
      | false => rfl
      | true => exact absurd (hcl 19 _ 0 rfl h0 (by decide)) (by rw [hi]; decide)
    have n24 : L 24 = false := by
      cases h0 : L 24 with
      | false => rfl
      | true => exact absurd (hcl 24 _ 0 rfl h0 (by decide)) (by rw [hi]; decide)
    have n29 : L 29 = false := by
      cases h0 : L 29 with
      | false => rfl
      | true => exact absurd (hcl 29 _ 0 rfl h0 (by decide)) (by rw [hi]; decide)
    have n33 : L 33 = false := by
      cases h0 : L 33 with
      | false => rfl
      | true => exact absurd (hcl 33 _ 0 rfl h0 (by decide)) (by rw [hi]; decide)
    have n36 : L 36 = false := by
      cases h0 : L 36 with
      | false => rfl
      | true => exact absurd (hcl 36 _ 0 rfl h0 (by decide)) (by rw [hi]; decide)
    have n39 : L 39 = false := by
      cases h0 : L 39 with
      | false => rfl
      | true => exact absurd (hcl 39 _ 0 rfl h0 (by decide)) (by rw [hi]; decide)
    have n42 : L 42 = false := by
      cases h0 : L 42 with
      | false => rfl
      | true => exact absurd (hcl 42 _ 0 rfl h0 (by decide)) (by rw [hi]; decide)
    have n45 : L 45 = false := by
      cases h0 : L 45 with
      | false => rfl
      | true => exact absurd (hcl 45 _ 0 rfl h0 (by decide)) (by rw [hi]; decide)
    have n49 : L 49 = false := by
      cases h0 : L 49 with
      | false => rfl
      | true => exact absurd (hcl 49 _ 0 rfl h0 (by decide)) (by rw [hi]; decide)
    have n51 : L 51 = false := by
      cases h0 : L 51 with
      | false => rfl
      | true => exact absurd (hcl 51 _ 0 rfl h0 (by decide)) (by rw [hi]; decide)
    have hno : ∀ op j f, insOf op = some (j, f) → L j = false := fun op j f h => ins_all (p := fun j => L j = false) ⟨n4, n9, n14, n19, n24, n29, n33, n36, n39, n42, n45, n49, n51⟩ h
    exact makes_ok (.map (some v.heap.size)) (exec_mkmap rfl) (hg.below ((Below.refl _ _).alloc (Nat.le_refl _) _)) (MapV.new hg.size (fun op j f h => by rw [upd_other (no_ins 0 (by decide) op j f h)]; exact hno op j f h)) (fun j oj d hoj hd hji hlj h => TF_keep ((Below.refl _ _).alloc (Nat.le_refl _) _) (no_ins 0 (by decide)) h)
  · intro L b v hi hdep hcl hf hn hg ht
    have hg : GF bn bt g6 g7 w0 v := hg
    have x0 : b.eval (.tmp 6) = .pointer (some ⟨g6, 0, none⟩) := by rw [hf.eval (by decide)]; exact e6
    exact still_ok (.agg (kcN bn)) (exec_row 50 (.tmp 6) rfl g6 x0 _ _ _ _ hg.row6 Tryz.underlying50 rfl info_opd) (hg) (rfl) (fun j oj d hoj hd hji hlj h => TF_keep (Below.refl _ _) (no_ins 1 (by decide)) h)
  · intro L b v hi hdep hcl hf hn hg ht
    have hg : GF bn bt g6 g7 w0 v := hg
    have x0 : b.eval (.tmp 7) = .pointer (some ⟨g7, 0, none⟩) := by rw [hf.eval (by decide)]; exact e7
    exact still_ok (.agg (kcN bt)) (exec_row 50 (.tmp 7) rfl g7 x0 _ _ _ _ hg.row7 Tryz.underlying50 rfl info_opd) (hg) (rfl) (fun j oj d hoj hd hji hlj h => TF_keep (Below.refl _ _) (no_ins 2 (by decide)) h)
  · intro L b v hi hdep hcl hf hn hg ht
    have hg : GF bn bt g6 g7 w0 v := hg
    have x0 : b.eval (.tmp 14) = .agg (kcN bn) := ht 1 _ 14 rfl rfl (hdep 1 (by decide))
    have x1 : b.eval (.tmp 15) = .agg (kcN bt) := ht 2 _ 15 rfl rfl (hdep 2 (by decide))
    exact makes_ok (.slice (some ⟨v.heap.size, 0, none⟩) 2 2) (exec_opd2 rfl x0 x1 lit_nt) (hg.below ((Below.refl _ _).alloc (Nat.le_refl _) _)) (⟨v.heap.size, hg.bnle, rfl, heap_alloc_new _ _⟩ : OpS bn bt _ [.n, .t] _) (fun j oj d hoj hd hji hlj h => TF_keep ((Below.refl _ _).alloc (Nat.le_refl _) _) (no_ins 3 (by decide)) h)
  · intro L b v hi hdep hcl hf hn hg ht
    have hg : GF bn bt g6 g7 w0 v := hg
    have xm : MapV bn bt w0.heap.size L (b.eval (.tmp 13)) v := ht 0 _ 13 rfl rfl (hdep 0 (by decide))
    have xs : OpS bn bt v [.n, .t] (b.eval (.tmp 16)) := ht 3 _ 16 rfl rfl (hdep 3 (by decide))
    obtain ⟨gm, v2, e1, hgm, hr, hmv, hoth, hck, k1, k2, k3, k4⟩ := xm.insert (i := 4) (K := bs [111, 112, 101, 110]) (f := [.n, .t]) (by rw [bs_list]; rfl) (fun op f h => by rw [bs_list]; exact ins_uni (k := [111, 112, 101, 110]) (by decide) h) xs
    refine skip_ok (exec_insert rfl rfl rfl hr) (hg.insert hgm hoth hck k1 k2 k3 k4) trivial (fun j oj d hoj hd hji hlj h => ?_)
    by_cases e0 : j = 0
    · subst e0
      have ed := dst_at hoj hd (k := some 13) rfl
      injection ed with ed
      subst ed
      exact hmv
    by_cases e52 : j = 52
    · subst e52
      exact absurd (hcl 52 _ 4 rfl hlj (by decide)) (by rw [hi]; decide)
    by_cases e53 : j = 53
    · subst e53
      exact absurd (hcl 52 _ 4 rfl (hcl 53 _ 52 rfl hlj (by decide)) (by decide)) (by rw [hi]; decide)
    exact TF_ins hck e0 e52 e53 h
  · intro L b v hi hdep hcl hf hn hg ht
    have hg : GF bn bt g6 g7 w0 v := hg
    have x0 : b.eval (.tmp 6) = .pointer (some ⟨g6, 0, none⟩) := by rw [hf.eval (by decide)]; exact e6
    exact still_ok (.agg (kcN bn)) (exec_row 50 (.tmp 6) rfl g6 x0 _ _ _ _ hg.row6 Tryz.underlying50 rfl info_opd) (hg) (rfl) (fun j oj d hoj hd hji hlj h => TF_keep (Below.refl _ _) (no_ins 5 (by decide)) h)
  · intro L b v hi hdep hcl hf hn hg ht
    have hg : GF bn bt g6 g7 w0 v := hg
    refine call_ok 36 #[] _ rfl #[] (by simp) (enters_of Tryz.func36 (by kernel_rfl) rfl) ((date_any v).mono ?_)
    rintro r v2 ⟨rfl, hb2⟩
    exact ⟨_, rfl, hg.below hb2, rfl, fun j oj d hoj hd hji hlj h => TF_keep hb2 (no_ins 6 (by decide)) h⟩
  · intro L b v hi hdep hcl hf hn hg ht
    have hg : GF bn bt g6 g7 w0 v := hg
    refine call_ok 37 #[] _ rfl #[] (by simp) (enters_of Tryz.func37 (by kernel_rfl) rfl) ((money_any v).mono ?_)
    rintro r v2 ⟨rfl, hb2⟩
    exact ⟨_, rfl, hg.below hb2, rfl, fun j oj d hoj hd hji hlj h => TF_keep hb2 (no_ins 7 (by decide)) h⟩
  · intro L b v hi hdep hcl hf hn hg ht
    have hg : GF bn bt g6 g7 w0 v := hg
    have x0 : b.eval (.tmp 17) = .agg (kcN bn) := ht 5 _ 17 rfl rfl (hdep 5 (by decide))
    have x1 : b.eval (.tmp 18) = .agg (kcD) := ht 6 _ 18 rfl rfl (hdep 6 (by decide))
    have x2 : b.eval (.tmp 19) = .agg (kcM) := ht 7 _ 19 rfl rfl (hdep 7 (by decide))
    exact makes_ok (.slice (some ⟨v.heap.size, 0, none⟩) 3 3) (exec_opd3 rfl x0 x1 x2 lit_ndm) (hg.below ((Below.refl _ _).alloc (Nat.le_refl _) _)) (⟨v.heap.size, hg.bnle, rfl, heap_alloc_new _ _⟩ : OpS bn bt _ [.n, .d, .m] _) (fun j oj d hoj hd hji hlj h => TF_keep ((Below.refl _ _).alloc (Nat.le_refl _) _) (no_ins 8 (by decide)) h)
  · intro L b v hi hdep hcl hf hn hg ht
    have hg : GF bn bt g6 g7 w0 v := hg
    have xm : MapV bn bt w0.heap.size L (b.eval (.tmp 13)) v := ht 0 _ 13 rfl rfl (hdep 0 (by decide))
    have xs : OpS bn bt v [.n, .d, .m] (b.eval (.tmp 20)) := ht 8 _ 20 rfl rfl (hdep 8 (by decide))
    obtain ⟨gm, v2, e1, hgm, hr, hmv, hoth, hck, k1, k2, k3, k4⟩ := xm.insert (i := 9) (K := bs [111, 117, 116]) (f := [.n, .d, .m]) (by rw [bs_list]; rfl) (fun op f h => by rw [bs_list]; exact ins_uni (k := [111, 117, 116]) (by decide) h) xs
    refine skip_ok (exec_insert rfl rfl rfl hr) (hg.insert hgm hoth hck k1 k2 k3 k4) trivial (fun j oj d hoj hd hji hlj h => ?_)
    by_cases e0 : j = 0
    · subst e0
      have ed := dst_at hoj hd (k := some 13) rfl
      injection ed with ed
      subst ed
      exact hmv
    by_cases e52 : j = 52
    · subst e52
      exact absurd (hcl 52 _ 9 rfl hlj (by decide)) (by rw [hi]; decide)
    by_cases e53 : j = 53
    · subst e53
      exact absurd (hcl 52 _ 9 rfl (hcl 53 _ 52 rfl hlj (by decide)) (by decide)) (by rw [hi]; decide)
    exact TF_ins hck e0 e52 e53 h
  · intro L b v hi hdep hcl hf hn hg ht
    have hg : GF bn bt g6 g7 w0 v := hg
    have x0 : b.eval (.tmp 6) = .pointer (some ⟨g6, 0, none⟩) := by rw [hf.eval (by decide)]; exact e6
    exact still_ok (.agg (kcN bn)) (exec_row 50 (.tmp 6) rfl g6 x0 _ _ _ _ hg.row6 Tryz.underlying50 rfl info_opd) (hg) (rfl) (fun j oj d hoj hd hji hlj h => TF_keep (Below.refl _ _) (no_ins 10 (by decide)) h)
  · intro L b v hi hdep hcl hf hn hg ht
    have hg : GF bn bt g6 g7 w0 v := hg
    refine call_ok 36 #[] _ rfl #[] (by simp) (enters_of Tryz.func36 (by kernel_rfl) rfl) ((date_any v).mono ?_)
    rintro r v2 ⟨rfl, hb2⟩
    exact ⟨_, rfl, hg.below hb2, rfl, fun j oj d hoj hd hji hlj h => TF_keep hb2 (no_ins 11 (by decide)) h⟩
  · intro L b v hi hdep hcl hf hn hg ht
    have hg : GF bn bt g6 g7 w0 v := hg
    refine call_ok 37 #[] _ rfl #[] (by simp) (enters_of Tryz.func37 (by kernel_rfl) rfl) ((money_any v).mono ?_)
    rintro r v2 ⟨rfl, hb2⟩
    exact ⟨_, rfl, hg.below hb2, rfl, fun j oj d hoj hd hji hlj h => TF_keep hb2 (no_ins 12 (by decide)) h⟩
  · intro L b v hi hdep hcl hf hn hg ht
    have hg : GF bn bt g6 g7 w0 v := hg
    have x0 : b.eval (.tmp 21) = .agg (kcN bn) := ht 10 _ 21 rfl rfl (hdep 10 (by decide))
    have x1 : b.eval (.tmp 22) = .agg (kcD) := ht 11 _ 22 rfl rfl (hdep 11 (by decide))
    have x2 : b.eval (.tmp 23) = .agg (kcM) := ht 12 _ 23 rfl rfl (hdep 12 (by decide))
    exact makes_ok (.slice (some ⟨v.heap.size, 0, none⟩) 3 3) (exec_opd3 rfl x0 x1 x2 lit_ndm) (hg.below ((Below.refl _ _).alloc (Nat.le_refl _) _)) (⟨v.heap.size, hg.bnle, rfl, heap_alloc_new _ _⟩ : OpS bn bt _ [.n, .d, .m] _) (fun j oj d hoj hd hji hlj h => TF_keep ((Below.refl _ _).alloc (Nat.le_refl _) _) (no_ins 13 (by decide)) h)
  · intro L b v hi hdep hcl hf hn hg ht
    have hg : GF bn bt g6 g7 w0 v := hg
    have xm : MapV bn bt w0.heap.size L (b.eval (.tmp 13)) v := ht 0 _ 13 rfl rfl (hdep 0 (by decide))
    have xs : OpS bn bt v [.n, .d, .m] (b.eval (.tmp 24)) := ht 13 _ 24 rfl rfl (hdep 13 (by decide))
    obtain ⟨gm, v2, e1, hgm, hr, hmv, hoth, hck, k1, k2, k3, k4⟩ := xm.insert (i := 14) (K := bs [112, 97, 121]) (f := [.n, .d, .m]) (by rw [bs_list]; rfl) (fun op f h => by rw [bs_list]; exact ins_uni (k := [112, 97, 121]) (by decide) h) xs
    refine skip_ok (exec_insert rfl rfl rfl hr) (hg.insert hgm hoth hck k1 k2 k3 k4) trivial (fun j oj d hoj hd hji hlj h => ?_)
    by_cases e0 : j = 0
    · subst e0
      have ed := dst_at hoj hd (k := some 13) rfl
      injection ed with ed
      subst ed
      exact hmv
    by_cases e52 : j = 52
    · subst e52
      exact absurd (hcl 52 _ 14 rfl hlj (by decide)) (by rw [hi]; decide)
    by_cases e53 : j = 53
    · subst e53
      exact absurd (hcl 52 _ 14 rfl (hcl 53 _ 52 rfl hlj (by decide)) (by decide)) (by rw [hi]; decide)
    exact TF_ins hck e0 e52 e53 h
  · intro L b v hi hdep hcl hf hn hg ht
    have hg : GF bn bt g6 g7 w0 v := hg
    have x0 : b.eval (.tmp 6) = .pointer (some ⟨g6, 0, none⟩) := by rw [hf.eval (by decide)]; exact e6
    exact still_ok (.agg (kcN bn)) (exec_row 50 (.tmp 6) rfl g6 x0 _ _ _ _ hg.row6 Tryz.underlying50 rfl info_opd) (hg) (rfl) (fun j oj d hoj hd hji hlj h => TF_keep (Below.refl _ _) (no_ins 15 (by decide)) h)
  · intro L b v hi hdep hcl hf hn hg ht
    have hg : GF bn bt g6 g7 w0 v := hg
    refine call_ok 36 #[] _ rfl #[] (by simp) (enters_of Tryz.func36 (by kernel_rfl) rfl) ((date_any v).mono ?_)
    rintro r v2 ⟨rfl, hb2⟩
    exact ⟨_, rfl, hg.below hb2, rfl, fun j oj d hoj hd hji hlj h => TF_keep hb2 (no_ins 16 (by decide)) h⟩
  · intro L b v hi hdep hcl hf hn hg ht
    have hg : GF bn bt g6 g7 w0 v := hg
    refine call_ok 37 #[] _ rfl #[] (by simp) (enters_of Tryz.func37 (by kernel_rfl) rfl) ((money_any v).mono ?_)
    rintro r v2 ⟨rfl, hb2⟩
    exact ⟨_, rfl, hg.below hb2, rfl, fun j oj d hoj hd hji hlj h => TF_keep hb2 (no_ins 17 (by decide)) h⟩
  · intro L b v hi hdep hcl hf hn hg ht
    have hg : GF bn bt g6 g7 w0 v := hg
    have x0 : b.eval (.tmp 25) = .agg (kcN bn) := ht 15 _ 25 rfl rfl (hdep 15 (by decide))
    have x1 : b.eval (.tmp 26) = .agg (kcD) := ht 16 _ 26 rfl rfl (hdep 16 (by decide))
    have x2 : b.eval (.tmp 27) = .agg (kcM) := ht 17 _ 27 rfl rfl (hdep 17 (by decide))
    exact makes_ok (.slice (some ⟨v.heap.size, 0, none⟩) 3 3) (exec_opd3 rfl x0 x1 x2 lit_ndm) (hg.below ((Below.refl _ _).alloc (Nat.le_refl _) _)) (⟨v.heap.size, hg.bnle, rfl, heap_alloc_new _ _⟩ : OpS bn bt _ [.n, .d, .m] _) (fun j oj d hoj hd hji hlj h => TF_keep ((Below.refl _ _).alloc (Nat.le_refl _) _) (no_ins 18 (by decide)) h)
  · intro L b v hi hdep hcl hf hn hg ht
    have hg : GF bn bt g6 g7 w0 v := hg
    have xm : MapV bn bt w0.heap.size L (b.eval (.tmp 13)) v := ht 0 _ 13 rfl rfl (hdep 0 (by decide))
    have xs : OpS bn bt v [.n, .d, .m] (b.eval (.tmp 28)) := ht 18 _ 28 rfl rfl (hdep 18 (by decide))
    obtain ⟨gm, v2, e1, hgm, hr, hmv, hoth, hck, k1, k2, k3, k4⟩ := xm.insert (i := 19) (K := bs [102, 101, 101]) (f := [.n, .d, .m]) (by rw [bs_list]; rfl) (fun op f h => by rw [bs_list]; exact ins_uni (k := [102, 101, 101]) (by decide) h) xs
    refine skip_ok (exec_insert rfl rfl rfl hr) (hg.insert hgm hoth hck k1 k2 k3 k4) trivial (fun j oj d hoj hd hji hlj h => ?_)
    by_cases e0 : j = 0
    · subst e0
      have ed := dst_at hoj hd (k := some 13) rfl
      injection ed with ed
      subst ed
      exact hmv
    by_cases e52 : j = 52
    · subst e52
      exact absurd (hcl 52 _ 19 rfl hlj (by decide)) (by rw [hi]; decide)
    by_cases e53 : j = 53
    · subst e53
      exact absurd (hcl 52 _ 19 rfl (hcl 53 _ 52 rfl hlj (by decide)) (by decide)) (by rw [hi]; decide)
    exact TF_ins hck e0 e52 e53 h
  · intro L b v hi hdep hcl hf hn hg ht
    have hg : GF bn bt g6 g7 w0 v := hg
    have x0 : b.eval (.tmp 6) = .pointer (some ⟨g6, 0, none⟩) := by rw [hf.eval (by decide)]; exact e6
    exact still_ok (.agg (kcN bn)) (exec_row 50 (.tmp 6) rfl g6 x0 _ _ _ _ hg.row6 Tryz.underlying50 rfl info_opd) (hg) (rfl) (fun j oj d hoj hd hji hlj h => TF_keep (Below.refl _ _) (no_ins 20 (by decide)) h)
  · intro L b v hi hdep hcl hf hn hg ht
    have hg : GF bn bt g6 g7 w0 v := hg
    refine call_ok 36 #[] _ rfl #[] (by simp) (enters_of Tryz.func36 (by kernel_rfl) rfl) ((date_any v).mono ?_)
    rintro r v2 ⟨rfl, hb2⟩
    exact ⟨_, rfl, hg.below hb2, rfl, fun j oj d hoj hd hji hlj h => TF_keep hb2 (no_ins 21 (by decide)) h⟩
  · intro L b v hi hdep hcl hf hn hg ht
    have hg : GF bn bt g6 g7 w0 v := hg
    refine call_ok 38 #[] _ rfl #[] (by simp) (enters_of Tryz.func38 (by kernel_rfl) rfl) ((number_any v).mono ?_)
    rintro r v2 ⟨rfl, hb2⟩
    exact ⟨_, rfl, hg.below hb2, rfl, fun j oj d hoj hd hji hlj h => TF_keep hb2 (no_ins 22 (by decide)) h⟩
  · intro L b v hi hdep hcl hf hn hg ht
    have hg : GF bn bt g6 g7 w0 v := hg
    have x0 : b.eval (.tmp 29) = .agg (kcN bn) := ht 20 _ 29 rfl rfl (hdep 20 (by decide))
    have x1 : b.eval (.tmp 30) = .agg (kcD) := ht 21 _ 30 rfl rfl (hdep 21 (by decide))
    have x2 : b.eval (.tmp 31) = .agg (kcI) := ht 22 _ 31 rfl rfl (hdep 22 (by decide))
    exact makes_ok (.slice (some ⟨v.heap.size, 0, none⟩) 3 3) (exec_opd3 rfl x0 x1 x2 lit_ndi) (hg.below ((Below.refl _ _).alloc (Nat.le_refl _) _)) (⟨v.heap.size, hg.bnle, rfl, heap_alloc_new _ _⟩ : OpS bn bt _ [.n, .d, .i] _) (fun j oj d hoj hd hji hlj h => TF_keep ((Below.refl _ _).alloc (Nat.le_refl _) _) (no_ins 23 (by decide)) h)
  · intro L b v hi hdep hcl hf hn hg ht
    have hg : GF bn bt g6 g7 w0 v := hg
    have xm : MapV bn bt w0.heap.size L (b.eval (.tmp 13)) v := ht 0 _ 13 rfl rfl (hdep 0 (by decide))
    have xs : OpS bn bt v [.n, .d, .i] (b.eval (.tmp 32)) := ht 23 _ 32 rfl rfl (hdep 23 (by decide))
    obtain ⟨gm, v2, e1, hgm, hr, hmv, hoth, hck, k1, k2, k3, k4⟩ := xm.insert (i := 24) (K := bs [114, 97, 116, 101]) (f := [.n, .d, .i]) (by rw [bs_list]; rfl) (fun op f h => by rw [bs_list]; exact ins_uni (k := [114, 97, 116, 101]) (by decide) h) xs
    refine skip_ok (exec_insert rfl rfl rfl hr) (hg.insert hgm hoth hck k1 k2 k3 k4) trivial (fun j oj d hoj hd hji hlj h => ?_)
    by_cases e0 : j = 0
    · subst e0
      have ed := dst_at hoj hd (k := some 13) rfl
      injection ed with ed
      subst ed
      exact hmv
    by_cases e52 : j = 52
    · subst e52
      exact absurd (hcl 52 _ 24 rfl hlj (by decide)) (by rw [hi]; decide)
    by_cases e53 : j = 53
    · subst e53
      exact absurd (hcl 52 _ 24 rfl (hcl 53 _ 52 rfl hlj (by decide)) (by decide)) (by rw [hi]; decide)
    exact TF_ins hck e0 e52 e53 h
  · intro L b v hi hdep hcl hf hn hg ht
    have hg : GF bn bt g6 g7 w0 v := hg
    have x0 : b.eval (.tmp 6) = .pointer (some ⟨g6, 0, none⟩) := by rw [hf.eval (by decide)]; exact e6
    exact still_ok (.agg (kcN bn)) (exec_row 50 (.tmp 6) rfl g6 x0 _ _ _ _ hg.row6 Tryz.underlying50 rfl info_opd) (hg) (rfl) (fun j oj d hoj hd hji hlj h => TF_keep (Below.refl _ _) (no_ins 25 (by decide)) h)
  · intro L b v hi hdep hcl hf hn hg ht
    have hg : GF bn bt g6 g7 w0 v := hg
    refine call_ok 36 #[] _ rfl #[] (by simp) (enters_of Tryz.func36 (by kernel_rfl) rfl) ((date_any v).mono ?_)
    rintro r v2 ⟨rfl, hb2⟩
    exact ⟨_, rfl, hg.below hb2, rfl, fun j oj d hoj hd hji hlj h => TF_keep hb2 (no_ins 26 (by decide)) h⟩
  · intro L b v hi hdep hcl hf hn hg ht
    have hg : GF bn bt g6 g7 w0 v := hg
    refine call_ok 38 #[] _ rfl #[] (by simp) (enters_of Tryz.func38 (by kernel_rfl) rfl) ((number_any v).mono ?_)
    rintro r v2 ⟨rfl, hb2⟩
    exact ⟨_, rfl, hg.below hb2, rfl, fun j oj d hoj hd hji hlj h => TF_keep hb2 (no_ins 27 (by decide)) h⟩
  · intro L b v hi hdep hcl hf hn hg ht
    have hg : GF bn bt g6 g7 w0 v := hg
    have x0 : b.eval (.tmp 33) = .agg (kcN bn) := ht 25 _ 33 rfl rfl (hdep 25 (by decide))
    have x1 : b.eval (.tmp 34) = .agg (kcD) := ht 26 _ 34 rfl rfl (hdep 26 (by decide))
    have x2 : b.eval (.tmp 35) = .agg (kcI) := ht 27 _ 35 rfl rfl (hdep 27 (by decide))
    exact makes_ok (.slice (some ⟨v.heap.size, 0, none⟩) 3 3) (exec_opd3 rfl x0 x1 x2 lit_ndi) (hg.below ((Below.refl _ _).alloc (Nat.le_refl _) _)) (⟨v.heap.size, hg.bnle, rfl, heap_alloc_new _ _⟩ : OpS bn bt _ [.n, .d, .i] _) (fun j oj d hoj hd hji hlj h => TF_keep ((Below.refl _ _).alloc (Nat.le_refl _) _) (no_ins 28 (by decide)) h)
  · intro L b v hi hdep hcl hf hn hg ht
    have hg : GF bn bt g6 g7 w0 v := hg
    have xm : MapV bn bt w0.heap.size L (b.eval (.tmp 13)) v := ht 0 _ 13 rfl rfl (hdep 0 (by decide))
    have xs : OpS bn bt v [.n, .d, .i] (b.eval (.tmp 36)) := ht 28 _ 36 rfl rfl (hdep 28 (by decide))
    obtain ⟨gm, v2, e1, hgm, hr, hmv, hoth, hck, k1, k2, k3, k4⟩ := xm.insert (i := 29) (K := bs [115, 116, 97, 116, 101]) (f := [.n, .d, .i]) (by rw [bs_list]; rfl) (fun op f h => by rw [bs_list]; exact ins_uni (k := [115, 116, 97, 116, 101]) (by decide) h) xs
    refine skip_ok (exec_insert rfl rfl rfl hr) (hg.insert hgm hoth hck k1 k2 k3 k4) trivial (fun j oj d hoj hd hji hlj h => ?_)
    by_cases e0 : j = 0
    · subst e0
      have ed := dst_at hoj hd (k := some 13) rfl
      injection ed with ed
      subst ed
      exact hmv
    by_cases e52 : j = 52
    · subst e52
      exact absurd (hcl 52 _ 29 rfl hlj (by decide)) (by rw [hi]; decide)
    by_cases e53 : j = 53
    · subst e53
      exact absurd (hcl 52 _ 29 rfl (hcl 53 _ 52 rfl hlj (by decide)) (by decide)) (by rw [hi]; decide)
    exact TF_ins hck e0 e52 e53 h
  · intro L b v hi hdep hcl hf hn hg ht
    have hg : GF bn bt g6 g7 w0 v := hg
    have x0 : b.eval (.tmp 6) = .pointer (some ⟨g6, 0, none⟩) := by rw [hf.eval (by decide)]; exact e6
    exact still_ok (.agg (kcN bn)) (exec_row 50 (.tmp 6) rfl g6 x0 _ _ _ _ hg.row6 Tryz.underlying50 rfl info_opd) (hg) (rfl) (fun j oj d hoj hd hji hlj h => TF_keep (Below.refl _ _) (no_ins 30 (by decide)) h)
  · intro L b v hi hdep hcl hf hn hg ht
    have hg : GF bn bt g6 g7 w0 v := hg
    refine call_ok 38 #[] _ rfl #[] (by simp) (enters_of Tryz.func38 (by kernel_rfl) rfl) ((number_any v).mono ?_)
    rintro r v2 ⟨rfl, hb2⟩
    exact ⟨_, rfl, hg.below hb2, rfl, fun j oj d hoj hd hji hlj h => TF_keep hb2 (no_ins 31 (by decide)) h⟩
  · intro L b v hi hdep hcl hf hn hg ht
    have hg : GF bn bt g6 g7 w0 v := hg
    have x0 : b.eval (.tmp 37) = .agg (kcN bn) := ht 30 _ 37 rfl rfl (hdep 30 (by decide))
    have x1 : b.eval (.tmp 38) = .agg (kcI) := ht 31 _ 38 rfl rfl (hdep 31 (by decide))
    exact makes_ok (.slice (some ⟨v.heap.size, 0, none⟩) 2 2) (exec_opd2 rfl x0 x1 lit_ni) (hg.below ((Below.refl _ _).alloc (Nat.le_refl _) _)) (⟨v.heap.size, hg.bnle, rfl, heap_alloc_new _ _⟩ : OpS bn bt _ [.n, .i] _) (fun j oj d hoj hd hji hlj h => TF_keep ((Below.refl _ _).alloc (Nat.le_refl _) _) (no_ins 32 (by decide)) h)
  · intro L b v hi hdep hcl hf hn hg ht
    have hg : GF bn bt g6 g7 w0 v := hg
    have xm : MapV bn bt w0.heap.size L (b.eval (.tmp 13)) v := ht 0 _ 13 rfl rfl (hdep 0 (by decide))
    have xs : OpS bn bt v [.n, .i] (b.eval (.tmp 39)) := ht 32 _ 39 rfl rfl (hdep 32 (by decide))
    obtain ⟨gm, v2, e1, hgm, hr, hmv, hoth, hck, k1, k2, k3, k4⟩ := xm.insert (i := 33) (K := bs [114, 101, 118, 101, 114, 115, 101]) (f := [.n, .i]) (by rw [bs_list]; rfl) (fun op f h => by rw [bs_list]; exact ins_uni (k := [114, 101, 118, 101, 114, 115, 101]) (by decide) h) xs
    refine skip_ok (exec_insert rfl rfl rfl hr) (hg.insert hgm hoth hck k1 k2 k3 k4) trivial (fun j oj d hoj hd hji hlj h => ?_)
    by_cases e0 : j = 0
    · subst e0
      have ed := dst_at hoj hd (k := some 13) rfl
      injection ed with ed
      subst ed
      exact hmv
    by_cases e52 : j = 52
    · subst e52
      exact absurd (hcl 52 _ 33 rfl hlj (by decide)) (by rw [hi]; decide)
    by_cases e53 : j = 53
    · subst e53
      exact absurd (hcl 52 _ 33 rfl (hcl 53 _ 52 rfl hlj (by decide)) (by decide)) (by rw [hi]; decide)
    exact TF_ins hck e0 e52 e53 h
  · intro L b v hi hdep hcl hf hn hg ht
    have hg : GF bn bt g6 g7 w0 v := hg
    refine call_ok 36 #[] _ rfl #[] (by simp) (enters_of Tryz.func36 (by kernel_rfl) rfl) ((date_any v).mono ?_)
    rintro r v2 ⟨rfl, hb2⟩
    exact ⟨_, rfl, hg.below hb2, rfl, fun j oj d hoj hd hji hlj h => TF_keep hb2 (no_ins 34 (by decide)) h⟩
  · intro L b v hi hdep hcl hf hn hg ht
    have hg : GF bn bt g6 g7 w0 v := hg
    have x0 : b.eval (.tmp 40) = .agg (kcD) := ht 34 _ 40 rfl rfl (hdep 34 (by decide))
    exact makes_ok (.slice (some ⟨v.heap.size, 0, none⟩) 1 1) (exec_opd1 rfl x0 lit_d) (hg.below ((Below.refl _ _).alloc (Nat.le_refl _) _)) (⟨v.heap.size, hg.bnle, rfl, heap_alloc_new _ _⟩ : OpS bn bt _ [.d] _) (fun j oj d hoj hd hji hlj h => TF_keep ((Below.refl _ _).alloc (Nat.le_refl _) _) (no_ins 35 (by decide)) h)
  · intro L b v hi hdep hcl hf hn hg ht
    have hg : GF bn bt g6 g7 w0 v := hg
    have xm : MapV bn bt w0.heap.size L (b.eval (.tmp 13)) v := ht 0 _ 13 rfl rfl (hdep 0 (by decide))
    have xs : OpS bn bt v [.d] (b.eval (.tmp 41)) := ht 35 _ 41 rfl rfl (hdep 35 (by decide))
    obtain ⟨gm, v2, e1, hgm, hr, hmv, hoth, hck, k1, k2, k3, k4⟩ := xm.insert (i := 36) (K := bs [100, 97, 121]) (f := [.d]) (by rw [bs_list]; rfl) (fun op f h => by rw [bs_list]; exact ins_uni (k := [100, 97, 121]) (by decide) h) xs
    refine skip_ok (exec_insert rfl rfl rfl hr) (hg.insert hgm hoth hck k1 k2 k3 k4) trivial (fun j oj d hoj hd hji hlj h => ?_)
    by_cases e0 : j = 0
    · subst e0
      have ed := dst_at hoj hd (k := some 13) rfl
      injection ed with ed
      subst ed
      exact hmv
    by_cases e52 : j = 52
    · subst e52
      exact absurd (hcl 52 _ 36 rfl hlj (by decide)) (by rw [hi]; decide)
    by_cases e53 : j = 53
    · subst e53
      exact absurd (hcl 52 _ 36 rfl (hcl 53 _ 52 rfl hlj (by decide)) (by decide)) (by rw [hi]; decide)
    exact TF_ins hck e0 e52 e53 h
  · intro L b v hi hdep hcl hf hn hg ht
    have hg : GF bn bt g6 g7 w0 v := hg
    refine call_ok 36 #[] _ rfl #[] (by simp) (enters_of Tryz.func36 (by kernel_rfl) rfl) ((date_any v).mono ?_)
    rintro r v2 ⟨rfl, hb2⟩
    exact ⟨_, rfl, hg.below hb2, rfl, fun j oj d hoj hd hji hlj h => TF_keep hb2 (no_ins 37 (by decide)) h⟩
  · intro L b v hi hdep hcl hf hn hg ht
    have hg : GF bn bt g6 g7 w0 v := hg
    have x0 : b.eval (.tmp 42) = .agg (kcD) := ht 37 _ 42 rfl rfl (hdep 37 (by decide))
    exact makes_ok (.slice (some ⟨v.heap.size, 0, none⟩) 1 1) (exec_opd1 rfl x0 lit_d) (hg.below ((Below.refl _ _).alloc (Nat.le_refl _) _)) (⟨v.heap.size, hg.bnle, rfl, heap_alloc_new _ _⟩ : OpS bn bt _ [.d] _) (fun j oj d hoj hd hji hlj h => TF_keep ((Below.refl _ _).alloc (Nat.le_refl _) _) (no_ins 38 (by decide)) h)
  · intro L b v hi hdep hcl hf hn hg ht
    have hg : GF bn bt g6 g7 w0 v := hg
    have xm : MapV bn bt w0.heap.size L (b.eval (.tmp 13)) v := ht 0 _ 13 rfl rfl (hdep 0 (by decide))
    have xs : OpS bn bt v [.d] (b.eval (.tmp 43)) := ht 38 _ 43 rfl rfl (hdep 38 (by decide))
    obtain ⟨gm, v2, e1, hgm, hr, hmv, hoth, hck, k1, k2, k3, k4⟩ := xm.insert (i := 39) (K := bs [99, 108, 111, 115, 101]) (f := [.d]) (by rw [bs_list]; rfl) (fun op f h => by rw [bs_list]; exact ins_uni (k := [99, 108, 111, 115, 101]) (by decide) h) xs
    refine skip_ok (exec_insert rfl rfl rfl hr) (hg.insert hgm hoth hck k1 k2 k3 k4) trivial (fun j oj d hoj hd hji hlj h => ?_)
    by_cases e0 : j = 0
    · subst e0
      have ed := dst_at hoj hd (k := some 13) rfl
      injection ed with ed
      subst ed
      exact hmv
    by_cases e52 : j = 52
    · subst e52
      exact absurd (hcl 52 _ 39 rfl hlj (by decide)) (by rw [hi]; decide)
    by_cases e53 : j = 53
    · subst e53
      exact absurd (hcl 52 _ 39 rfl (hcl 53 _ 52 rfl hlj (by decide)) (by decide)) (by rw [hi]; decide)
    exact TF_ins hck e0 e52 e53 h
  · intro L b v hi hdep hcl hf hn hg ht
    have hg : GF bn bt g6 g7 w0 v := hg
    have x0 : b.eval (.tmp 6) = .pointer (some ⟨g6, 0, none⟩) := by rw [hf.eval (by decide)]; exact e6
    exact still_ok (.agg (kcN bn)) (exec_row 50 (.tmp 6) rfl g6 x0 _ _ _ _ hg.row6 Tryz.underlying50 rfl info_opd) (hg) (rfl) (fun j oj d hoj hd hji hlj h => TF_keep (Below.refl _ _) (no_ins 40 (by decide)) h)
  · intro L b v hi hdep hcl hf hn hg ht
    have hg : GF bn bt g6 g7 w0 v := hg
    have x0 : b.eval (.tmp 44) = .agg (kcN bn) := ht 40 _ 44 rfl rfl (hdep 40 (by decide))
    exact makes_ok (.slice (some ⟨v.heap.size, 0, none⟩) 1 1) (exec_opd1 rfl x0 lit_n) (hg.below ((Below.refl _ _).alloc (Nat.le_refl _) _)) (⟨v.heap.size, hg.bnle, rfl, heap_alloc_new _ _⟩ : OpS bn bt _ [.n] _) (fun j oj d hoj hd hji hlj h => TF_keep ((Below.refl _ _).alloc (Nat.le_refl _) _) (no_ins 41 (by decide)) h)
  · intro L b v hi hdep hcl hf hn hg ht
    have hg : GF bn bt g6 g7 w0 v := hg
    have xm : MapV bn bt w0.heap.size L (b.eval (.tmp 13)) v := ht 0 _ 13 rfl rfl (hdep 0 (by decide))
    have xs : OpS bn bt v [.n] (b.eval (.tmp 45)) := ht 41 _ 45 rfl rfl (hdep 41 (by decide))
    obtain ⟨gm, v2, e1, hgm, hr, hmv, hoth, hck, k1, k2, k3, k4⟩ := xm.insert (i := 42) (K := bs [97, 99, 99, 114, 117, 101]) (f := [.n]) (by rw [bs_list]; rfl) (fun op f h => by rw [bs_list]; exact ins_uni (k := [97, 99, 99, 114, 117, 101]) (by decide) h) xs
    refine skip_ok (exec_insert rfl rfl rfl hr) (hg.insert hgm hoth hck k1 k2 k3 k4) trivial (fun j oj d hoj hd hji hlj h => ?_)
    by_cases e0 : j = 0
    · subst e0
      have ed := dst_at hoj hd (k := some 13) rfl
      injection ed with ed
      subst ed
      exact hmv
    by_cases e52 : j = 52
    · subst e52
      exact absurd (hcl 52 _ 42 rfl hlj (by decide)) (by rw [hi]; decide)
    by_cases e53 : j = 53
    · subst e53
      exact absurd (hcl 52 _ 42 rfl (hcl 53 _ 52 rfl hlj (by decide)) (by decide)) (by rw [hi]; decide)
    exact TF_ins hck e0 e52 e53 h
  · intro L b v hi hdep hcl hf hn hg ht
    have hg : GF bn bt g6 g7 w0 v := hg
    have x0 : b.eval (.tmp 6) = .pointer (some ⟨g6, 0, none⟩) := by rw [hf.eval (by decide)]; exact e6
    exact still_ok (.agg (kcN bn)) (exec_row 50 (.tmp 6) rfl g6 x0 _ _ _ _ hg.row6 Tryz.underlying50 rfl info_opd) (hg) (rfl) (fun j oj d hoj hd hji hlj h => TF_keep (Below.refl _ _) (no_ins 43 (by decide)) h)
  · intro L b v hi hdep hcl hf hn hg ht
    have hg : GF bn bt g6 g7 w0 v := hg
    have x0 : b.eval (.tmp 46) = .agg (kcN bn) := ht 43 _ 46 rfl rfl (hdep 43 (by decide))
    exact makes_ok (.slice (some ⟨v.heap.size, 0, none⟩) 1 1) (exec_opd1 rfl x0 lit_n) (hg.below ((Below.refl _ _).alloc (Nat.le_refl _) _)) (⟨v.heap.size, hg.bnle, rfl, heap_alloc_new _ _⟩ : OpS bn bt _ [.n] _) (fun j oj d hoj hd hji hlj h => TF_keep ((Below.refl _ _).alloc (Nat.le_refl _) _) (no_ins 44 (by decide)) h)
  · intro L b v hi hdep hcl hf hn hg ht
    have hg : GF bn bt g6 g7 w0 v := hg
    have xm : MapV bn bt w0.heap.size L (b.eval (.tmp 13)) v := ht 0 _ 13 rfl rfl (hdep 0 (by decide))
    have xs : OpS bn bt v [.n] (b.eval (.tmp 47)) := ht 44 _ 47 rfl rfl (hdep 44 (by decide))
    obtain ⟨gm, v2, e1, hgm, hr, hmv, hoth, hck, k1, k2, k3, k4⟩ := xm.insert (i := 45) (K := bs [101, 118, 101, 110, 116, 115]) (f := [.n]) (by rw [bs_list]; rfl) (fun op f h => by rw [bs_list]; exact ins_uni (k := [101, 118, 101, 110, 116, 115]) (by decide) h) xs
    refine skip_ok (exec_insert rfl rfl rfl hr) (hg.insert hgm hoth hck k1 k2 k3 k4) trivial (fun j oj d hoj hd hji hlj h => ?_)
    by_cases e0 : j = 0
    · subst e0
      have ed := dst_at hoj hd (k := some 13) rfl
      injection ed with ed
      subst ed
      exact hmv
    by_cases e52 : j = 52
    · subst e52
      exact absurd (hcl 52 _ 45 rfl hlj (by decide)) (by rw [hi]; decide)
    by_cases e53 : j = 53
    · subst e53
      exact absurd (hcl 52 _ 45 rfl (hcl 53 _ 52 rfl hlj (by decide)) (by decide)) (by rw [hi]; decide)
    exact TF_ins hck e0 e52 e53 h
  · intro L b v hi hdep hcl hf hn hg ht
    have hg : GF bn bt g6 g7 w0 v := hg
    refine call_ok 36 #[] _ rfl #[] (by simp) (enters_of Tryz.func36 (by kernel_rfl) rfl) ((date_any v).mono ?_)
    rintro r v2 ⟨rfl, hb2⟩
    exact ⟨_, rfl, hg.below hb2, rfl, fun j oj d hoj hd hji hlj h => TF_keep hb2 (no_ins 46 (by decide)) h⟩
  · intro L b v hi hdep hcl hf hn hg ht
    have hg : GF bn bt g6 g7 w0 v := hg
    refine call_ok 36 #[] _ rfl #[] (by simp) (enters_of Tryz.func36 (by kernel_rfl) rfl) ((date_any v).mono ?_)
    rintro r v2 ⟨rfl, hb2⟩
    exact ⟨_, rfl, hg.below hb2, rfl, fun j oj d hoj hd hji hlj h => TF_keep hb2 (no_ins 47 (by decide)) h⟩
  · intro L b v hi hdep hcl hf hn hg ht
    have hg : GF bn bt g6 g7 w0 v := hg
    have x0 : b.eval (.tmp 48) = .agg (kcD) := ht 46 _ 48 rfl rfl (hdep 46 (by decide))
    have x1 : b.eval (.tmp 49) = .agg (kcD) := ht 47 _ 49 rfl rfl (hdep 47 (by decide))
    exact makes_ok (.slice (some ⟨v.heap.size, 0, none⟩) 2 2) (exec_opd2 rfl x0 x1 lit_dd) (hg.below ((Below.refl _ _).alloc (Nat.le_refl _) _)) (⟨v.heap.size, hg.bnle, rfl, heap_alloc_new _ _⟩ : OpS bn bt _ [.d, .d] _) (fun j oj d hoj hd hji hlj h => TF_keep ((Below.refl _ _).alloc (Nat.le_refl _) _) (no_ins 48 (by decide)) h)
  · intro L b v hi hdep hcl hf hn hg ht
    have hg : GF bn bt g6 g7 w0 v := hg
    have xm : MapV bn bt w0.heap.size L (b.eval (.tmp 13)) v := ht 0 _ 13 rfl rfl (hdep 0 (by decide))
    have xs : OpS bn bt v [.d, .d] (b.eval (.tmp 50)) := ht 48 _ 50 rfl rfl (hdep 48 (by decide))
    obtain ⟨gm, v2, e1, hgm, hr, hmv, hoth, hck, k1, k2, k3, k4⟩ := xm.insert (i := 49) (K := bs [116, 114, 105, 97, 108]) (f := [.d, .d]) (by rw [bs_list]; rfl) (fun op f h => by rw [bs_list]; exact ins_uni (k := [116, 114, 105, 97, 108]) (by decide) h) xs
    refine skip_ok (exec_insert rfl rfl rfl hr) (hg.insert hgm hoth hck k1 k2 k3 k4) trivial (fun j oj d hoj hd hji hlj h => ?_)
    by_cases e0 : j = 0
    · subst e0
      have ed := dst_at hoj hd (k := some 13) rfl
      injection ed with ed
      subst ed
      exact hmv
    by_cases e52 : j = 52
    · subst e52
      exact absurd (hcl 52 _ 49 rfl hlj (by decide)) (by rw [hi]; decide)
    by_cases e53 : j = 53
    · subst e53
      exact absurd (hcl 52 _ 49 rfl (hcl 53 _ 52 rfl hlj (by decide)) (by decide)) (by rw [hi]; decide)
    exact TF_ins hck e0 e52 e53 h
  · intro L b v hi hdep hcl hf hn hg ht
    have hg : GF bn bt g6 g7 w0 v := hg
    exact makes_ok (.slice (some ⟨v.heap.size, 0, none⟩) 0 0) (exec_opd0 rfl lit_e) (hg.below ((Below.refl _ _).alloc (Nat.le_refl _) _)) (⟨v.heap.size, hg.bnle, rfl, heap_alloc_new _ _⟩ : OpS bn bt _ [] _) (fun j oj d hoj hd hji hlj h => TF_keep ((Below.refl _ _).alloc (Nat.le_refl _) _) (no_ins 50 (by decide)) h)
  · intro L b v hi hdep hcl hf hn hg ht
    have hg : GF bn bt g6 g7 w0 v := hg
    have xm : MapV bn bt w0.heap.size L (b.eval (.tmp 13)) v := ht 0 _ 13 rfl rfl (hdep 0 (by decide))
    have xs : OpS bn bt v [] (b.eval (.tmp 51)) := ht 50 _ 51 rfl rfl (hdep 50 (by decide))
    obtain ⟨gm, v2, e1, hgm, hr, hmv, hoth, hck, k1, k2, k3, k4⟩ := xm.insert (i := 51) (K := bs [108, 97, 115, 116]) (f := []) (by rw [bs_list]; rfl) (fun op f h => by rw [bs_list]; exact ins_uni (k := [108, 97, 115, 116]) (by decide) h) xs
    refine skip_ok (exec_insert rfl rfl rfl hr) (hg.insert hgm hoth hck k1 k2 k3 k4) trivial (fun j oj d hoj hd hji hlj h => ?_)
    by_cases e0 : j = 0
    · subst e0
      have ed := dst_at hoj hd (k := some 13) rfl
      injection ed with ed
      subst ed
      exact hmv
    by_cases e52 : j = 52
    · subst e52
      exact absurd (hcl 52 _ 51 rfl hlj (by decide)) (by rw [hi]; decide)
    by_cases e53 : j = 53
    · subst e53
      exact absurd (hcl 52 _ 51 rfl (hcl 53 _ 52 rfl hlj (by decide)) (by decide)) (by rw [hi]; decide)
    exact TF_ins hck e0 e52 e53 h
  · intro L b v hi hdep hcl hf hn hg ht
    have hg : GF bn bt g6 g7 w0 v := hg
    have xm : MapV bn bt w0.heap.size L (b.eval (.tmp 13)) v := ht 0 _ 13 rfl rfl (hdep 0 (by decide))
    have hall : ∀ op j f, insOf op = some (j, f) → (fun _ => true) j = L j := fun op j f h => ins_all (p := fun j => true = L j) ⟨(hdep 4 (by decide)).symm, (hdep 9 (by decide)).symm, (hdep 14 (by decide)).symm, (hdep 19 (by decide)).symm, (hdep 24 (by decide)).symm, (hdep 29 (by decide)).symm, (hdep 33 (by decide)).symm, (hdep 36 (by decide)).symm, (hdep 39 (by decide)).symm, (hdep 42 (by decide)).symm, (hdep 45 (by decide)).symm, (hdep 49 (by decide)).symm, (hdep 51 (by decide)).symm⟩ h
    exact still_ok (b.eval (.tmp 13)) (by rw [exec_move (.tmp 13) rfl]) hg (xm.keep (Below.refl _ _) hall) (fun j oj d hoj hd hji hlj h => TF_keep (Below.refl _ _) (no_ins 52 (by decide)) h)
  · intro L b v hi hdep hcl hf hn hg ht
    have hg : GF bn bt g6 g7 w0 v := hg
    have xm : MapV bn bt w0.heap.size (fun _ => true) (b.eval (.tmp 52)) v := ht 52 _ 52 rfl rfl (hdep 52 (by decide))
    exact still_ok (b.eval (.tmp 52)) (by rw [exec_assign (.tmp 52) rfl]) hg xm (fun j oj d hoj hd hji hlj h => TF_keep (Below.refl _ _) (no_ins 53 (by decide)) h)
  · intro b v hf hg ht
    have x8 : MapV bn bt w0.heap.size (fun _ => true) (b.eval (.tmp 8)) v := ht 53 _ 8 rfl rfl
    have HG2 : Hid (GF bn bt g6 g7 w0 v) := Lib.hid hg
    refine HQ.out b v ?_
    rw [hf.out]
    simp only [List.foldl_cons, List.foldl_nil]
    rw [HA'.out]
    generalize b.eval (.tmp 13) = u13 at *
    generalize b.eval (.tmp 14) = u14 at *
    generalize b.eval (.tmp 15) = u15 at *
    generalize b.eval (.tmp 16) = u16 at *
    generalize b.eval (.tmp 17) = u17 at *
    generalize b.eval (.tmp 18) = u18 at *
    generalize b.eval (.tmp 19) = u19 at *
    generalize b.eval (.tmp 20) = u20 at *
    generalize b.eval (.tmp 21) = u21 at *
    generalize b.eval (.tmp 22) = u22 at *
    generalize b.eval (.tmp 23) = u23 at *
    generalize b.eval (.tmp 24) = u24 at *
    generalize b.eval (.tmp 25) = u25 at *
    generalize b.eval (.tmp 26) = u26 at *
    generalize b.eval (.tmp 27) = u27 at *
    generalize b.eval (.tmp 28) = u28 at *
    generalize b.eval (.tmp 29) = u29 at *
    generalize b.eval (.tmp 30) = u30 at *
    generalize b.eval (.tmp 31) = u31 at *
    generalize b.eval (.tmp 32) = u32 at *
    generalize b.eval (.tmp 33) = u33 at *
    generalize b.eval (.tmp 34) = u34 at *
    generalize b.eval (.tmp 35) = u35 at *
    generalize b.eval (.tmp 36) = u36 at *
    generalize b.eval (.tmp 37) = u37 at *
    generalize b.eval (.tmp 38) = u38 at *
    generalize b.eval (.tmp 39) = u39 at *
    generalize b.eval (.tmp 40) = u40 at *
    generalize b.eval (.tmp 41) = u41 at *
    generalize b.eval (.tmp 42) = u42 at *
    generalize b.eval (.tmp 43) = u43 at *
    generalize b.eval (.tmp 44) = u44 at *
    generalize b.eval (.tmp 45) = u45 at *
    generalize b.eval (.tmp 46) = u46 at *
    generalize b.eval (.tmp 47) = u47 at *
    generalize b.eval (.tmp 48) = u48 at *
    generalize b.eval (.tmp 49) = u49 at *
    generalize b.eval (.tmp 50) = u50 at *
    generalize b.eval (.tmp 51) = u51 at *
    generalize b.eval (.tmp 52) = u52 at *
    generalize b.eval (.tmp 8) = u8 at *
    simp only [Act.put, List.setIfInBounds_toArray, List.set_cons_succ, List.set_cons_zero]
    have HM := Lib.hid x8
    clear hg ht x8 HG e6 e7 hszA HA' HQ hf
    by_cases hp : (op == ⟨#[112, 114, 111, 100, 117, 99, 116]⟩) = true
    · have hop : op = ⟨#[112, 114, 111, 100, 117, 99, 116]⟩ := by rw [ba_beq] at hp; exact of_decide_eq_true hp
      subst hop
      clear hp
      by_cases h7 : 7 ≤ k
      · by_cases h15 : k ≤ 15
        · obtain ⟨n, rfl⟩ : ∃ n : Nat, k = (n : Int) := ⟨k.toNat, by omega⟩
          go_upto_region 5 with (fail)
          clear HM
          refine region_letters fun a Q5 ha hQ => ?_
          have HA5 := Lib.hid ha
          have HQ5 := Lib.hid hQ
          have e6 : a.eval (.tmp 6) = .pointer (some ⟨g6, 0, none⟩) := by rw [ha]; rfl
          have e1 : a.eval (.tmp 1) = .int .i64 (n : Int) := by rw [ha]; rfl
          have hszA : a.tmps.size = 78 := by rw [ha]; rfl
          clear ha hQ
          refine region_opsN (by kernel_rfl) [63, 64, 65, 66, 67, 68, 69, 4, 5] (G5 v.heap.size v) (T5 bn bt v.heap.size n) (by kernel_rfl) (fun t h => by rw [hszA] at h; simp; omega) ((Below.refl _ _).drew) ⟨?_, ?_, ?_, ?_, ?_, ?_, ?_, ?_, ?_, trivial⟩ ?_
          · intro L b v1 hi hdep hcl hf hn hg ht
            have hg : Below v.heap.size v v1 := hg
            have x0 : b.eval (.tmp 6) = .pointer (some ⟨g6, 0, none⟩) := by rw [hf.eval (by decide)]; exact e6
            exact still_ok (.agg (kcN bn)) (exec_row 50 (.tmp 6) rfl g6 x0 _ _ _ _ ((hg.block g6 (Array.getElem?_eq_some_iff.1 HG2.out.row6).1).trans HG2.out.row6) Tryz.underlying50 rfl info_opd) (hg) (rfl) (fun j oj d hoj hd hji hlj h => T5_keep (Below.refl _ _) h)
          · intro L b v1 hi hdep hcl hf hn hg ht
            have hg : Below v.heap.size v v1 := hg
            have x0 : b.eval (.tmp 63) = .agg (kcN bn) := ht 0 _ 63 rfl rfl (hdep 0 (by decide))
            exact makes_ok (.slice (some ⟨v1.heap.size, 0, none⟩) 1 1) (exec_opd1 rfl x0 (lit_n (bt := bt))) (hg.trans (((Below.refl _ _).alloc (Nat.le_refl _) _).mono hg.size)) (fun _ => ⟨v1.heap.size, rfl, hg.size, heap_alloc_new _ _⟩) (fun j oj d hoj hd hji hlj h => T5_keep ((Below.refl _ _).alloc (Nat.le_refl _) _) h)
          · intro L b v1 hi hdep hcl hf hn hg ht
            have hg : Below v.heap.size v v1 := hg
            refine call_ok 38 #[] _ rfl #[] (by simp) (enters_of Tryz.func38 (by kernel_rfl) rfl) ((number_any v1).mono ?_)
            rintro r v2 ⟨rfl, hb2⟩
            exact ⟨_, rfl, hg.trans (hb2.mono hg.size), rfl, fun j oj d hoj hd hji hlj h => T5_keep hb2 h⟩
          · intro L b v1 hi hdep hcl hf hn hg ht
            have hg : Below v.heap.size v v1 := hg
            have x0 : b.eval (.tmp 65) = .agg kcI := ht 2 _ 65 rfl rfl (hdep 2 (by decide))
            exact makes_ok (.slice (some ⟨v1.heap.size, 0, none⟩) 1 1) (exec_opd1 rfl x0 lit_i) (hg.trans (((Below.refl _ _).alloc (Nat.le_refl _) _).mono hg.size)) (fun _ => ⟨v1.heap.size, rfl, hg.size, heap_alloc_new _ _⟩) (fun j oj d hoj hd hji hlj h => T5_keep ((Below.refl _ _).alloc (Nat.le_refl _) _) h)
          · intro L b v1 hi hdep hcl hf hn hg ht
            have hg : Below v.heap.size v v1 := hg
            have x0 : b.eval (.tmp 1) = .int .i64 (n : Int) := by rw [hf.eval (by decide)]; exact e1
            exact still_ok (.int .i64 (n : Int)) (by rw [exec_move (.tmp 1) rfl, x0]) (hg) (rfl) (fun j oj d hoj hd hji hlj h => T5_keep (Below.refl _ _) h)
          · intro L b v1 hi hdep hcl hf hn hg ht
            have hg : Below v.heap.size v v1 := hg
            have x0 : L 6 = false → LitW 50 kcI 1 v.heap.size (b.eval (.tmp 66)) v1 := ht 3 _ 66 rfl rfl (hdep 3 (by decide))
            have x1 : b.eval (.tmp 67) = .int .i64 (n : Int) := ht 4 _ 67 rfl rfl (hdep 4 (by decide))
            have n6 : L 6 = false := by
              cases h0 : L 6 with
              | false => rfl
              | true => exact absurd (hcl 6 _ 5 rfl h0 (by decide)) (by rw [hi]; decide)
            obtain ⟨g3, x0, hg3, hr3⟩ := x0 n6
            refine call_ok 39 #[.tmp 66, .tmp 67] _ rfl #[.slice (some ⟨g3, 0, none⟩) 1 1, .int .i64 (n : Int)] (by simp [x0, x1]) (enters_of Tryz.func39 (by kernel_rfl) rfl) ((repeat_any kcI.toList rfl (opCells_one 0 0 [.i]) g3 n v1 (by rw [Array.toArray_toList]; exact hr3) (by omega) (by omega)).mono ?_)
            rintro r v2 ⟨gq, rfl, hq, hb2, hfill⟩
            exact ⟨_, rfl, hg.trans (hb2.mono hg.size), fun _ => ⟨gq, rfl, Nat.le_trans hg.size hq, hfill⟩, fun j oj d hoj hd hji hlj h => T5_keep hb2 h⟩
          · intro L b v1 hi hdep hcl hf hn hg ht
            have hg : Below v.heap.size v v1 := hg
            have x0 : L 6 = false → LitW 50 (kcN bn) 1 v.heap.size (b.eval (.tmp 64)) v1 := ht 1 _ 64 rfl rfl (hdep 1 (by decide))
            have x1 : L 6 = false → ∃ gq, b.eval (.tmp 68) = .slice (some ⟨gq, 0, none⟩) n n ∧ v.heap.size ≤ gq ∧ Fill v1 gq n kcI.toList n := ht 5 _ 68 rfl rfl (hdep 5 (by decide))
            obtain ⟨g1, x0, hg1, hr1⟩ := x0 hi
            obtain ⟨gq, x1, hgq, hfl⟩ := x1 hi
            have ho := own_lit3 (base := v.heap.size) (by rfl) hr1 hg1
            obtain ⟨u, w2, hrun, hown, hgr2⟩ := app_opd (bn := bn) (bt := bt) (f := [.n]) (c := n) (by simpa [opCells, kc] using ho) (fill_rd hfl) (by omega) hg.size
            have hb2 : Below v.heap.size v w2 := below_grown hg ho (Nat.le_refl _) hgr2 hg.size
            refine makes_ok u (exec_append (.tmp 64) (.tmp 68) 41 rfl _ _ u x0 x1 hrun) hb2 (by rw [Nat.add_comm] at hown; exact hown) (fun jj oj d hoj hd hji hlj h => ?_)
            unfold T5 at h ⊢
            split at h <;> first
              | exact h
              | exact absurd rfl hji
              | (intro h0; rw [upd_self] at h0; cases h0)
              | exact absurd (hcl 7 _ 6 rfl hlj (by decide)) (by rw [hi]; decide)
          · intro L b v1 hi hdep hcl hf hn hg ht
            have hg : Below v.heap.size v v1 := hg
            have x0 : v1.ownsRow v.heap.size 50 3 (b.eval (.tmp 69)) (n + 1) (opCells bn bt (.n :: List.replicate n .i)) := ht 6 _ 69 rfl rfl (hdep 6 (by decide))
            exact still_ok (b.eval (.tmp 69)) (by rw [exec_assign (.tmp 69) rfl]) hg x0 (fun j oj d hoj hd hji hlj h => T5_keep (Below.refl _ _) h)
          · intro L b v1 hi hdep hcl hf hn hg ht
            have hg : Below v.heap.size v v1 := hg
            exact still_ok (.bool true) (by rw [exec_assign (.const (.bool true)) rfl]; rfl) hg rfl (fun j oj d hoj hd hji hlj h => T5_keep (Below.refl _ _) h)
          · intro b5 v5 hf hg ht
            have x4 : v5.ownsRow v.heap.size 50 3 (b5.eval (.tmp 4)) (n + 1) (opCells bn bt (.n :: List.replicate n .i)) := ht 7 _ 4 rfl rfl
            have x5 : b5.eval (.tmp 5) = .bool true := ht 8 _ 5 rfl rfl
            obtain ⟨A, c, x4, hc, hro⟩ := own_rowO x4 (by simp) (by omega) HG2.out.bnle
            have hg5 : Below v.heap.size v v5 := hg
            have HRO := Lib.hid hro
            have HG5 := Lib.hid hg5
            refine HQ5.out b5 v5 ?_
            rw [hf.out]
            simp only [List.foldl_cons, List.foldl_nil, x4, x5]
            rw [HA5.out]
            generalize b5.eval (.tmp 63) = u63 at *
            generalize b5.eval (.tmp 64) = u64 at *
            generalize b5.eval (.tmp 65) = u65 at *
            generalize b5.eval (.tmp 66) = u66 at *
            generalize b5.eval (.tmp 67) = u67 at *
            generalize b5.eval (.tmp 68) = u68 at *
            generalize b5.eval (.tmp 69) = u69 at *
            simp only [Act.put, List.setIfInBounds_toArray, List.set_cons_succ, List.set_cons_zero]
            clear hf ht hg hg5 x4 x5 hro HA5 HQ5 e6 e1 hszA
            go_wp2
            go_ret2
            refine ⟨HG2.out.low.trans (HG5.out.mono HG2.out.size), bn, bt, (HG5.out.block bn (Array.getElem?_eq_some_iff.1 HG2.out.boxn).1).trans HG2.out.boxn, (HG5.out.block bt (Array.getElem?_eq_some_iff.1 HG2.out.boxt).1).trans HG2.out.boxt, HBN.out.1, HBN.out.2, ?_⟩
            unfold formOf
            rw [if_pos ⟨rfl, h7, h15⟩]
            exact ⟨A, c, by rw [List.length_cons, Int.toNat_natCast, List.length_replicate]; rfl, by rw [List.length_cons, Int.toNat_natCast, List.length_replicate]; exact hc, by rw [Int.toNat_natCast]; exact HRO.out⟩
        · obtain ⟨A, n, c, b1, hlk, hfo⟩ := form_look HM.out ⟨#[112, 114, 111, 100, 117, 99, 116]⟩
          have HFO := Lib.hid hfo
          clear hfo
          go_wp2
          go_ret2
          exact form_none HG2.out.low HG2.out.boxn HG2.out.boxt HBN.out rfl (form_off fun h => absurd h.2.2 (by omega)) HFO.out
      · obtain ⟨A, n, c, b1, hlk, hfo⟩ := form_look HM.out ⟨#[112, 114, 111, 100, 117, 99, 116]⟩
        have HFO := Lib.hid hfo
        clear hfo
        go_wp2
        go_ret2
        exact form_none HG2.out.low HG2.out.boxn HG2.out.boxt HBN.out rfl (form_off fun h => absurd h.2.1 (by omega)) HFO.out
    · have hp3 : ¬ op.data.toList = prodB := fun e => hp (by rw [ba_beq]; exact decide_eq_true (ByteArray.ext (Array.toList_inj.mp e)))
      have hp2 : (op.toList == [112, 114, 111, 100, 117, 99, 116]) = false := by rw [ByteArray.toList_eq]; exact beq_eq_false_iff_ne.2 hp3
      clear hp
      obtain ⟨A, n, c, b1, hlk, hfo⟩ := form_look HM.out op
      have HFO := Lib.hid hfo
      clear hfo
      have HP3 := Lib.hid hp3
      clear hp3
      go_wp2
      go_ret2
      exact form_none HG2.out.low HG2.out.boxn HG2.out.boxt HBN.out rfl (form_off fun h => HP3.out h.1) HFO.out
end Go.Proofs.YthlgjbmkealjjaaGreatDoor
