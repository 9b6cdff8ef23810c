/-
  Joined texts: CmO CmR CmN. No statement is proved here.
-/
import Derived.Laws.EntriesVeiled
import Derived.Test.YthlgjbmkealjjaaGreatDoorCmPP
import Derived.Test.YthlgjbmkealjjaaGreatDoorRegA
import Derived.Test.YthlgjbmkealjjaaGreatDoorAmRX
import Derived.Test.YthlgjbmkealjjaaGreatDoorCivB
import Derived.Lib.SlicesS
namespace Go.Proofs.YthlgjbmkealjjaaGreatDoor
open Go.RowKit
set_option linter.unusedVariables false

def kcN (b : Nat) : Array Value := #[.func (.func 54) #[] #[.pointer (some ⟨b, 0, none⟩)], .func (.func 57) #[] #[.pointer (some ⟨b, 0, none⟩)], .bool false]
def kcD : Array Value := #[.func (.func 58) #[] #[], .func (.func 60) #[] #[], .bool true]
def kcM : Array Value := #[.func (.func 62) #[] #[], .func (.func 64) #[] #[], .bool true]
def kcI : Array Value := #[.func (.func 66) #[] #[], .func (.func 69) #[] #[], .bool true]
def kc (bn bt : Nat) : Kd → Array Value
  | .n => kcN bn
  | .t => kcN bt
  | .d => kcD
  | .m => kcM
  | .i => kcI
theorem kc_size (bn bt : Nat) (k : Kd) : (kc bn bt k).size = 3 := by cases k <;> rfl
theorem kc_one (bn bt : Nat) (k : Kd) : (kc bn bt k).all (·.oneCell') = true := by cases k <;> simp [kc, kcN, kcD, kcM, kcI, Value.oneCell']
theorem info_opd : (Tryz.prog.info? 50).map (·.size) = some 3 := by kernel_rfl
theorem zsize_opd : ((Tryz.prog.info? 50).bind (·.zero)).map (·.cells.size) = some 3 := by kernel_rfl
set_option maxRecDepth 100000 in
theorem name_any (f : Nat) (w : World) :
    Calls Tryz.prog 33 #[.func (.func f) #[] #[]] w fun e w' => e = .returned (.agg (kcN w.heap.size)) ∧ w'.heap[w.heap.size]? = some (.cells #[.func (.func f) #[] #[]] 73 (0, 0)) ∧ Below w.heap.size w w' := by
  go_enter Tryz.func33, Tryz.ntmps33
  go_wp2
  refine bodyPost_ret (results_cell_row (fn := Tryz.f33) rfl _ _ (w.heap.size + 1) 50 (kcN w.heap.size) (0, 0) _ rfl (by rw [← World.size_alloc w]; exact heap_alloc_new _ _) Tryz.underlying50 rfl info_opd) rfl ⟨rfl, ?_, ?_⟩
  · exact heapN_old (heap_alloc_new _ _)
  · exact ((Below.refl _ _).alloc (Nat.le_refl _) _).alloc (by simp) _
set_option maxRecDepth 100000 in
theorem date_any (w : World) : Calls Tryz.prog 36 #[] w fun e w' => e = .returned (.agg kcD) ∧ Below w.heap.size w w' := by
  go_enter Tryz.func36, Tryz.ntmps36
  go_wp2
  exact bodyPost_ret (results_cell_row (fn := Tryz.f36) rfl _ _ w.heap.size 50 kcD (0, 0) _ rfl (heap_alloc_new _ _) Tryz.underlying50 rfl info_opd) rfl ⟨rfl, (Below.refl _ _).alloc (Nat.le_refl _) _⟩
set_option maxRecDepth 100000 in
theorem money_any (w : World) : Calls Tryz.prog 37 #[] w fun e w' => e = .returned (.agg kcM) ∧ Below w.heap.size w w' := by
  go_enter Tryz.func37, Tryz.ntmps37
  go_wp2
  exact bodyPost_ret (results_cell_row (fn := Tryz.f37) rfl _ _ w.heap.size 50 kcM (0, 0) _ rfl (heap_alloc_new _ _) Tryz.underlying50 rfl info_opd) rfl ⟨rfl, (Below.refl _ _).alloc (Nat.le_refl _) _⟩
set_option maxRecDepth 100000 in
theorem number_any (w : World) : Calls Tryz.prog 38 #[] w fun e w' => e = .returned (.agg kcI) ∧ Below w.heap.size w w' := by
  go_enter Tryz.func38, Tryz.ntmps38
  go_wp2
  exact bodyPost_ret (results_cell_row (fn := Tryz.f38) rfl _ _ w.heap.size 50 kcI (0, 0) _ rfl (heap_alloc_new _ _) Tryz.underlying50 rfl info_opd) rfl ⟨rfl, (Below.refl _ _).alloc (Nat.le_refl _) _⟩
theorem is_any (b : Bool) (w : World) : Calls Tryz.prog 55 #[.bool b] w fun e w' => e = .returned (.int .i64 (if b then 0 else 7)) ∧ w = w' := by
  cases b <;> (go_enter Tryz.func55, Tryz.ntmps55; go_wp2; go_ret; exact ⟨rfl, rfl⟩)
/-! ### A command in memory -/
def cmCells (c : Cm) (v : Value) : Array Value := #[.string c.op, .string c.name, v, .string c.text]
structure CmAt (W : World) (gc B : Nat) (O : Nat → Prop) (c : Cm) (v : Value) : Prop where
  cell : W.heap[gc]? = some (.cells (cmCells c v) 25 (0, 0))
  own : W.ownsRow B 2 1 v c.args.length (c.args.map (Value.int .i64))
  out : ∀ k, v.ownBlock = some k → ¬ O k
theorem i64_one (zs : List Int) : ∀ u ∈ zs.map (Value.int .i64), u.oneCell' = true := by
  intro u hu
  obtain ⟨z, _, rfl⟩ := List.mem_map.1 hu
  rfl
theorem infoI64 : (Tryz.prog.info? 2).map (fun i => (i.zero, i.size, i.bytes)) = some (some (.int .i64 0), 1, 8) := by kernel_rfl
theorem app_a64 {ops : Array Oper} {rest : List Oper} {o : Oper} {a : Act} {Q : Exit → Act → World → Prop} {w : World} (hgd : o.guard = none) (s x : Operand)
    (ho : o.op = .call { callee := .builtin .append, args := #[s, x], argTypes := #[23, 23] })
    (base : Nat) (v : Value) (xs : List Int) (hs : a.eval s = v) (hown : w.ownsRow base 2 1 v xs.length (xs.map (Value.int .i64)))
    (A : Option Addr) (m c : Nat) (ys : List Int) (hx : a.eval x = .slice A m c) (hr : Rd w 1 A m (ys.map (Value.int .i64)))
    (hlen : (xs.length + m) * 8 ≤ 140737488355328) (hbase : base ≤ w.heap.size)
    (h : ∀ A' c' w', w'.ownsRow base 2 1 (.slice A' (xs.length + m) c') (xs.length + m) ((xs ++ ys).map (Value.int .i64)) → w.grownBy w' v.ownBlock → ((Value.slice A' (xs.length + m) c').ownBlock = v.ownBlock ∨ (Value.slice A' (xs.length + m) c').ownBlock = some w.heap.size) → wpList Tryz.prog ops Q rest (a.put o.dst (.slice A' (xs.length + m) c')) w') : wpList Tryz.prog ops Q (o :: rest) a w := by
  obtain ⟨i0, hi, hz0, hz1, hz2⟩ := info_parts infoI64
  refine wpList_append_rd w hgd s x 23 ho base 2 i0 (.int .i64 0) 1 8 Tryz.underlying23 hi hz0 hz1 hz2 rfl (by decide) v xs.length _ hs hown A m c (ys.map (Value.int .i64)) hx hr (i64_one ys) (by unfold maxLen; omega) (by omega) hbase fun v' w' hown' hg hb => ?_
  rw [← List.map_append] at hown'
  obtain ⟨A', c', rfl⟩ : ∃ A' c', v' = .slice A' (xs.length + m) c' := by
    rcases hown'.2 with ⟨e, h0⟩ | ⟨g, cap, _, e, _⟩
    · exact ⟨none, 0, by rw [e, h0]⟩
    · exact ⟨_, cap, e⟩
  exact h A' c' w' hown' hg hb
/-- What a read may write: the command, its row of numbers; new blocks. -/
def Wr (W : World) (gc B : Nat) (O : Nat → Prop) (k : Nat) : Prop := k = gc ∨ (B ≤ k ∧ ¬ O k ∧ ∃ cs fr, W.heap[k]? = some (.cells cs 2 fr))
section
variable {W W1 W2 W3 : World} {gc B : Nat} {O : Nat → Prop} {c : Cm} {v : Value}
theorem CmAt.form (h : CmAt W gc B O c v) : ∃ A cap, v = .slice A c.args.length cap ∧ c.args.length ≤ cap ∧ Rd W 1 A c.args.length (c.args.map (Value.int .i64)) := by
  rcases h.own.2 with ⟨e, h0⟩ | ⟨g, cap, cur, e, h1, h2, h3, h4, h5, h6⟩
  · refine ⟨none, 0, by rw [e, h0], by omega, ?_⟩
    rw [h0]
    have : c.args.map (Value.int .i64) = [] := by rw [List.length_eq_zero_iff.1 h0]; rfl
    rw [this]
    exact Rd.nil _ _ _
  · have ho := h.own
    rw [e] at ho
    exact ⟨_, cap, e, h3, Rd.of_own (c := cap) ho⟩
theorem CmAt.below (h : CmAt W gc B O c v) (hb : Below W.heap.size W W1) : CmAt W1 gc B O c v :=
  ⟨(hb.block _ (Array.getElem?_eq_some_iff.1 h.cell).1).trans h.cell, own_below' h.own hb, h.out⟩
theorem CmAt.turns {O' : Nat → Prop} (h : CmAt W gc B O c v) (ht : Turns O' W W1) (ho : ∀ k, O' k → O k) (hg : ¬ O gc) : CmAt W1 gc B O c v :=
  ⟨(ht.block _ (Array.getElem?_eq_some_iff.1 h.cell).1 (fun e => hg (ho _ e))).trans h.cell, ownE_keep h.own fun k hk => ht.block k (ownE_block h.own hk).1 (fun e => h.out k hk (ho _ e)), h.out⟩
theorem Wr.row (h : CmAt W gc B O c v) {k : Nat} (hk : v.ownBlock = some k) : Wr W gc B O k := by
  obtain ⟨_, cs, h1⟩ := ownE_block h.own hk
  exact .inr ⟨(h.own.lt k hk).1, h.out k hk, cs, _, h1⟩
/-- A word of the command is set. -/
theorem CmAt.set {c' : Cm} {v' : Value} {i : Nat} {u : Value} (h : CmAt W gc B O c v) (hu : (cmCells c v).setIfInBounds i u = cmCells c' v') (ho : (W.setCell ⟨gc, i, none⟩ u).ownsRow B 2 1 v' c'.args.length (c'.args.map (Value.int .i64))) (hk : ∀ k, v'.ownBlock = some k → ¬ O k) : CmAt (W.setCell ⟨gc, i, none⟩ u) gc B O c' v' := by
  refine ⟨?_, ho, hk⟩
  rw [heap_setCell_same W gc i _ _ u h.cell, hu]
theorem CmAt.ne (h : CmAt W gc B O c v) {k : Nat} (hk : v.ownBlock = some k) : k ≠ gc := by
  rintro rfl
  obtain ⟨_, cs, h1⟩ := ownE_block h.own hk
  rw [h.cell] at h1
  injection h1 with h1
  injection h1 with _ h1
  exact absurd h1 (by decide)
theorem turns_wr (hb : Below W.heap.size W W1) (ht : Turns (Wr W gc B O) W1 W2) : Turns (Wr W gc B O) W W2 := (Turns.of_below hb).trans ht
/-- One number more. -/
theorem CmAt.push (h0 : CmAt W gc B O c v) (hb : Below W.heap.size W W1) (hO : ∀ k, O k → k < W.heap.size) (x : Int) {v' : Value} (o : Obj)
    (hown : W3.ownsRow B 2 1 v' (c.args.length + 1) ((c.args ++ [x]).map (Value.int .i64))) (hg : (W1.alloc o).grownBy W3 v.ownBlock) (hv : v'.ownBlock = v.ownBlock ∨ v'.ownBlock = some (W1.heap.size + 1)) :
    CmAt (W3.setCell ⟨gc, 2, none⟩ v') gc B O { c with args := c.args ++ [x] } v' ∧ Turns (Wr W gc B O) W (W3.setCell ⟨gc, 2, none⟩ v') ∧ W3.heap[gc]? = some (.cells (cmCells c v) 25 (0, 0)) := by
  have h1 := h0.below hb
  have hgl := (Array.getElem?_eq_some_iff.1 h0.cell).1
  have hba : Below W.heap.size W (W1.alloc o) := hb.alloc hb.size _
  have hc3 : W3.heap[gc]? = some (.cells (cmCells c v) 25 (0, 0)) := (hg.block gc (Nat.lt_of_lt_of_le hgl hba.size) (fun e => h0.ne e.symm rfl)).trans ((hba.block gc hgl).trans h0.cell)
  have hcm : CmAt W3 gc B (fun _ => False) { c with args := c.args ++ [x] } v' → True := fun _ => trivial
  have hbl : ∀ k, v'.ownBlock = some k → k ≠ gc := fun k hk e => by
    subst e
    obtain ⟨_, cs, h2⟩ := ownE_block hown hk
    rw [hc3] at h2
    injection h2 with h2
    injection h2 with _ h2
    exact absurd h2 (by decide)
  have hto : ∀ k, v'.ownBlock = some k → ¬ O k := fun k hk ho => by
    rcases hv with e | e
    · rw [e] at hk; exact h0.out k hk ho
    · rw [hk] at e
      injection e with e
      have := hO k ho
      have := hb.size
      omega
  have hk3 : Turns (Wr W gc B O) W W3 := ⟨hg.os.trans hba.os, hg.tape.trans hba.tape, hg.output.trans hba.output, Nat.le_trans hba.size hg.size, fun k hk hn => (hg.block k (Nat.lt_of_lt_of_le hk hba.size) (fun e => hn (Wr.row h0 e.symm))).trans (hba.block k hk)⟩
  refine ⟨⟨?_, ?_, hto⟩, hk3.set (.inl rfl) 2 v', hc3⟩
  · rw [heap_setCell_same W3 gc 2 _ _ v' hc3]
    rfl
  · have hl : ({ c with args := c.args ++ [x] } : Cm).args.length = c.args.length + 1 := by simp
    rw [hl]
    exact ownE_keep hown fun k hk => set_oth W3 gc 2 v' k (fun e => hbl k hk e.symm)
end
end Go.Proofs.YthlgjbmkealjjaaGreatDoor

namespace Go.Proofs.YthlgjbmkealjjaaGreatDoor
open Go.RowKit
set_option linter.unusedVariables false

theorem nameF_any (gc : Nat) (w : World) : Calls Tryz.prog 34 #[.pointer (some ⟨gc, 0, none⟩)] w fun e w' => e = .returned (.pointer (some ⟨gc, 1, none⟩)) ∧ w = w' := by
  go_enter Tryz.func34, Tryz.ntmps34
  go_wp2
  go_ret
  exact ⟨rfl, rfl⟩
theorem textF_any (gc : Nat) (w : World) : Calls Tryz.prog 35 #[.pointer (some ⟨gc, 0, none⟩)] w fun e w' => e = .returned (.pointer (some ⟨gc, 3, none⟩)) ∧ w = w' := by
  go_enter Tryz.func35, Tryz.ntmps35
  go_wp2
  go_ret
  exact ⟨rfl, rfl⟩
section
variable {W : World} {gc B : Nat} {O : Nat → Prop} {c : Cm} {v : Value}
theorem lit_rd (W : World) (x : Int) : Rd (W.alloc (.cells #[.int .i64 x] 2)) 1 (some ⟨W.heap.size, 0, none⟩) 1 ([x].map (Value.int .i64)) := by
  refine ⟨rfl, fun _ => ⟨W.heap.size, 0, rfl, fun j u hu => ?_⟩⟩
  have hj : j = 0 := by
    have := (List.getElem?_eq_some_iff.1 hu).1
    simp at this
    omega
  subst hj
  rw [cell_of_row _ _ _ _ _ _ (heap_alloc_new W _)]
  simpa using hu
set_option maxRecDepth 100000 in
set_option maxHeartbeats 2000000 in
theorem date_read (hc : CmAt W gc B O c v) (hO : ∀ k, O k → k < W.heap.size) (hB : B ≤ W.heap.size) (hn : c.args.length ≤ 1000) (w : List UInt8) (hw : w.length ≤ 1000000) :
    Calls Tryz.prog 58 #[.pointer (some ⟨gc, 0, none⟩), .string (bs w)] W fun e W' => e = .returned (.int .i64 (civOf w).2) ∧ Turns (Wr W gc B O) W W' ∧ ∃ v', CmAt W' gc B O { c with args := c.args ++ [(civOf w).1] } v' := by
  have RD := Lib.hid (c_Read_any (bs w) (civOf w) W (by rw [bs_list]; exact civOf_as w) (by rw [bs_size]; omega))
  have HC := Lib.hid hc
  have HO := Lib.hid hO
  generalize civOf w = p at *
  obtain ⟨x, er⟩ := p
  dsimp only at *
  clear hc hO
  go_enter Tryz.func58, Tryz.ntmps58
  go_wp2_with fail
  refine RD.out.mono ?_
  rintro e W1 ⟨rfl, hb1⟩
  have hc1 := HC.out.below hb1
  obtain ⟨A, cap, hv, hcap, _⟩ := hc1.form
  have c2 : W1.cell? ⟨gc, 2, none⟩ = some (.slice A c.args.length cap) := by rw [cell_of_row _ _ _ _ _ _ hc1.cell, ← hv]; rfl
  have HO1 := Lib.hid hc1.own
  have HV := Lib.hid hv
  have HB1 := Lib.hid hb1
  have hbs := hb1.size
  clear hc1 hv hb1
  go_wp2_with (at_builtin; refine app_a64 rfl _ _ rfl B (.slice A c.args.length cap) c.args rfl (by rw [← HV.out]; exact (World.ownsRow.alloc HO1.out _)) _ 1 1 [x] rfl (lit_rd W1 x) (by omega) (by simp; omega) ?_)
  intro A' c' W3 hown hg hb
  obtain ⟨p1, p2, p3⟩ := HC.out.push HB1.out HO.out x (.cells #[.int .i64 x] 2) (by rw [List.map_append]; exact hown) (by rw [HV.out]; exact hg) (by rw [HV.out]; exact hb)
  have P1 := Lib.hid p1
  have P2 := Lib.hid p2
  have d2 : W3.cell? ⟨gc, 2, none⟩ = some (.slice A c.args.length cap) := by rw [cell_of_row _ _ _ _ _ _ p3, ← HV.out]; rfl
  have f2 : W3.frozen? ⟨gc, 2, none⟩ = false := by simp [World.frozen?, p3]
  clear p1 p2 p3 hown hg hb c2
  go_wp2
  go_ret
  exact ⟨rfl, P2.out, _, P1.out⟩
theorem monOk_t {x er : Int} (h : monOk (x, er) = true) : er = 0 ∧ 1 ≤ x ∧ x ≤ 1000000000000000 := by
  unfold monOk at h
  simp at h
  exact h
set_option maxRecDepth 100000 in
set_option maxHeartbeats 4000000 in
theorem money_read (hc : CmAt W gc B O c v) (hO : ∀ k, O k → k < W.heap.size) (hB : B ≤ W.heap.size) (hn : c.args.length ≤ 1000) (w : List UInt8) (hw : w.length ≤ 1000000) :
    Calls Tryz.prog 62 #[.pointer (some ⟨gc, 0, none⟩), .string (bs w)] W fun e W' => e = .returned (.int .i64 (if monOk (readOf w) then 0 else 7)) ∧ Turns (Wr W gc B O) W W' ∧ ∃ v', CmAt W' gc B O { c with args := c.args ++ [(readOf w).1] } v' := by
  have rd := Read_any (bs w) W (by rw [bs_size]; omega)
  rw [bs_list] at rd
  have RD := Lib.hid rd
  have HC := Lib.hid hc
  have HO := Lib.hid hO
  generalize readOf w = p at *
  obtain ⟨x, er⟩ := p
  dsimp only at *
  clear hc hO rd
  obtain ⟨ok, hok⟩ : ∃ ok, ok = monOk (x, er) := ⟨_, rfl⟩
  have HOK := Lib.hid hok
  rw [← hok]
  clear hok
  go_enter Tryz.func62, Tryz.ntmps62
  go_wp2_with fail
  refine RD.out.mono ?_
  rintro e W1 ⟨rfl, hb1⟩
  have hc1 := HC.out.below hb1
  obtain ⟨A, cap, hv, hcap, _⟩ := hc1.form
  have c2 : W1.cell? ⟨gc, 2, none⟩ = some (.slice A c.args.length cap) := by rw [cell_of_row _ _ _ _ _ _ hc1.cell, ← hv]; rfl
  have HO1 := Lib.hid hc1.own
  have HV := Lib.hid hv
  have HB1 := Lib.hid hb1
  have hbs := hb1.size
  clear hc1 hv hb1
  go_wp2_with (at_builtin; refine app_a64 rfl _ _ rfl B (.slice A c.args.length cap) c.args rfl (by rw [← HV.out]; exact (World.ownsRow.alloc HO1.out _)) _ 1 1 [x] rfl (lit_rd W1 x) (by omega) (by simp; omega) ?_)
  intro A' c' W3 hown hg hb
  have hpu := HC.out.push HB1.out HO.out x (.cells #[.int .i64 x] 2) (by rw [List.map_append]; exact hown) (by rw [HV.out]; exact hg) (by rw [HV.out]; exact hb)
  have P1 := Lib.hid hpu.1
  have P2 := Lib.hid hpu.2.1
  have d2 : W3.cell? ⟨gc, 2, none⟩ = some (.slice A c.args.length cap) := by rw [cell_of_row _ _ _ _ _ _ hpu.2.2, ← HV.out]; rfl
  have f2 : W3.frozen? ⟨gc, 2, none⟩ = false := by simp [World.frozen?, hpu.2.2]
  clear hpu hown hg hb c2
  go_upto_region 3 with (fail)
  have P3 : Hid (∃ v', CmAt (W3.setCell ⟨gc, 2, none⟩ (.slice A' (c.args.length + 1) c')) gc B O { c with args := c.args ++ [x] } v') := Lib.hid ⟨_, P1.out⟩
  clear P1 d2 f2 HO1
  generalize W3.setCell ⟨gc, 2, none⟩ (.slice A' (c.args.length + 1) c') = W4 at *
  cases ok with
  | true =>
    obtain ⟨rfl, h1, h2⟩ := monOk_t HOK.out.symm
    have h1' : (0 : Int) < x := by omega
    go_wp2_with (go_at_call 55; refine (is_any _ _).mono ?_; rintro e w' ⟨rfl, rfl⟩)
    go_ret
    exact ⟨rfl, P2.out, P3.out⟩
  | false =>
    have hf : ¬ (er = 0 ∧ 1 ≤ x ∧ x ≤ 1000000000000000) := by
      intro ⟨a1, a2, a3⟩
      have : monOk (x, er) = true := by unfold monOk; simp [a1, a2, a3]
      rw [← HOK.out] at this
      cases this
    by_cases h0 : er = 0
    · subst h0
      by_cases h1 : 0 < x
      · have h2 : ¬ x ≤ 1000000000000000 := fun h => hf ⟨rfl, by omega, h⟩
        clear hf
        go_wp2_with (go_at_call 55; refine (is_any _ _).mono ?_; rintro e w' ⟨rfl, rfl⟩)
        go_ret
        exact ⟨rfl, P2.out, P3.out⟩
      · clear hf
        go_wp2_with (go_at_call 55; refine (is_any _ _).mono ?_; rintro e w' ⟨rfl, rfl⟩)
        go_ret
        exact ⟨rfl, P2.out, P3.out⟩
    · have h0b : (er == 0) = false := by rw [beq_eq_false_iff_ne]; exact h0
      clear hf
      go_wp2_with (go_at_call 55; refine (is_any _ _).mono ?_; rintro e w' ⟨rfl, rfl⟩)
      go_ret
      exact ⟨rfl, P2.out, P3.out⟩
set_option maxRecDepth 100000 in
set_option maxHeartbeats 2000000 in
theorem name_read (hc : CmAt W gc B O c v) (bx : Nat) (hbx : W.heap[bx]? = some (.cells #[.func (.func 34) #[] #[]] 73 (0, 0))) (w : List UInt8) :
    Calls Tryz.prog 54 #[.pointer (some ⟨gc, 0, none⟩), .string (bs w), .pointer (some ⟨bx, 0, none⟩)] W fun e W' => e = .returned (.int .i64 (if nameOk (bs w) then 0 else 7)) ∧ Turns (Wr W gc B O) W W' ∧ ∃ v', CmAt W' gc B O { c with name := bs w } v' := by
  have cb := box_cell hbx
  have c1 : W.cell? ⟨gc, 1, none⟩ = some (.string c.name) := by rw [cell_of_row _ _ _ _ _ _ hc.cell]; rfl
  have f1 : W.frozen? ⟨gc, 1, none⟩ = false := by simp [World.frozen?, hc.cell]
  have NA := Lib.hid (Name_any (bs w) (W.setCell ⟨gc, 1, none⟩ (.string (bs w))))
  have P1 : Hid (CmAt (W.setCell ⟨gc, 1, none⟩ (.string (bs w))) gc B O { c with name := bs w } v) := Lib.hid (hc.set rfl (ownE_keep hc.own fun k hk => set_oth W gc 1 _ k (fun e => hc.ne hk e.symm)) hc.out)
  have P2 : Hid (Turns (Wr W gc B O) W (W.setCell ⟨gc, 1, none⟩ (.string (bs w)))) := Lib.hid ((Turns.refl _ W).set (.inl rfl) 1 _)
  clear hc hbx
  generalize nameOk (bs w) = nk at *
  cases nk
  all_goals
    go_enter Tryz.func54, Tryz.ntmps54
    go_wp2_with (first
      | (go_at_call 34; refine (nameF_any _ _).mono ?_; rintro e w' ⟨rfl, rfl⟩)
      | (go_at_call 56; refine NA.out.mono ?_; rintro e w5 ⟨rfl, hb5⟩)
      | (go_at_call 55; refine (is_any _ _).mono ?_; rintro e w' ⟨rfl, rfl⟩))
    go_ret
    exact ⟨rfl, P2.out.trans (.of_below hb5), v, P1.out.below hb5⟩
set_option maxRecDepth 100000 in
set_option maxHeartbeats 2000000 in
theorem text_read (hc : CmAt W gc B O c v) (bx : Nat) (hbx : W.heap[bx]? = some (.cells #[.func (.func 35) #[] #[]] 73 (0, 0))) (w : List UInt8) :
    Calls Tryz.prog 54 #[.pointer (some ⟨gc, 0, none⟩), .string (bs w), .pointer (some ⟨bx, 0, none⟩)] W fun e W' => e = .returned (.int .i64 (if nameOk (bs w) then 0 else 7)) ∧ Turns (Wr W gc B O) W W' ∧ ∃ v', CmAt W' gc B O { c with text := bs w } v' := by
  have cb := box_cell hbx
  have c1 : W.cell? ⟨gc, 3, none⟩ = some (.string c.text) := by rw [cell_of_row _ _ _ _ _ _ hc.cell]; rfl
  have f1 : W.frozen? ⟨gc, 3, none⟩ = false := by simp [World.frozen?, hc.cell]
  have NA := Lib.hid (Name_any (bs w) (W.setCell ⟨gc, 3, none⟩ (.string (bs w))))
  have P1 : Hid (CmAt (W.setCell ⟨gc, 3, none⟩ (.string (bs w))) gc B O { c with text := bs w } v) := Lib.hid (hc.set rfl (ownE_keep hc.own fun k hk => set_oth W gc 3 _ k (fun e => hc.ne hk e.symm)) hc.out)
  have P2 : Hid (Turns (Wr W gc B O) W (W.setCell ⟨gc, 3, none⟩ (.string (bs w)))) := Lib.hid ((Turns.refl _ W).set (.inl rfl) 3 _)
  clear hc hbx
  generalize nameOk (bs w) = nk at *
  cases nk
  all_goals
    go_enter Tryz.func54, Tryz.ntmps54
    go_wp2_with (first
      | (go_at_call 35; refine (textF_any _ _).mono ?_; rintro e w' ⟨rfl, rfl⟩)
      | (go_at_call 56; refine NA.out.mono ?_; rintro e w5 ⟨rfl, hb5⟩)
      | (go_at_call 55; refine (is_any _ _).mono ?_; rintro e w' ⟨rfl, rfl⟩))
    go_ret
    exact ⟨rfl, P2.out.trans (.of_below hb5), v, P1.out.below hb5⟩
end
end Go.Proofs.YthlgjbmkealjjaaGreatDoor

namespace Go.Proofs.YthlgjbmkealjjaaGreatDoor
open Go.RowKit
set_option linter.unusedVariables false

theorem digit_cond (c : UInt8) : (48 ≤ c.toNat ∧ c.toNat ≤ 57) ↔ digitB c = true := by unfold digitB; simp
theorem numOk_iff (l : List UInt8) : numOk l = true ↔ (l ≠ [] ∧ l.length ≤ 18 ∧ l.all digitB = true ∧ headOk l) := by
  unfold numOk headOk
  cases l with
  | nil => simp
  | cons c r =>
    simp
    intro _ _ _
    constructor
    · intro h3 h4
      rcases h3 with h3 | h3
      · rw [h3] at h4; simp at h4
      · exact h3
    · intro h3
      cases r with
      | nil => exact .inl rfl
      | cons d r => exact .inr (h3 (by simp))
theorem num_fwd (l : List UInt8) (h : numOk l = true) : Lib.parseIntB 64 l = .ok (numOf l : Int) ∧ Lib.itoa (numOf l : Int) = l ∧ l.length ≤ 18 := by
  obtain ⟨h0, h18, hd, hh⟩ := (numOk_iff l).1 h
  have hp := parse_num l hd h0 (by omega)
  have hlt : numOf l < 10 ^ 18 := Nat.lt_of_lt_of_le (numOf_lt l hd) (Nat.pow_le_pow_right (by omega) h18)
  refine ⟨?_, ?_, h18⟩
  · cases l with
    | nil => exact absurd rfl h0
    | cons c r =>
      have hc : digitB c = true := by simp at hd; exact hd.1
      have hc2 := (digit_cond c).2 hc
      unfold Lib.parseIntB
      have n1 : ¬ (c.toNat = 43 ∨ c.toNat = 45) := by omega
      have n2 : ¬ c.toNat = 45 := by omega
      simp only [n1, if_false, hp]
      simp only [n2]
      rw [if_neg (by simp; omega), if_neg (by simp)]
      simp
  · unfold Lib.itoa
    rw [if_neg (by omega), Int.toNat_natCast]
    exact dec_of l.length l rfl hd h0 hh
theorem num_back (l : List UInt8) (x : Int) (h18 : l.length ≤ 18) (hi : l = Lib.itoa x) (h0 : 0 ≤ x) : numOk l = true ∧ x = (numOf l : Int) := by
  unfold Lib.itoa at hi
  rw [if_neg (by omega)] at hi
  have hn : numOf l = x.toNat := by rw [hi]; exact dec_num _
  refine ⟨(numOk_iff l).2 ⟨by rw [hi]; exact dec_ne _, h18, by rw [hi]; exact dec_all _, by rw [hi]; exact dec_headOk _⟩, by omega⟩
theorem parse_bound (l : List UInt8) (v : Int) (h : Lib.parseIntB 64 l = .ok v) : -9223372036854775808 ≤ v ∧ v ≤ 9223372036854775807 := by
  unfold Lib.parseIntB at h
  cases l with
  | nil => cases h
  | cons c r =>
    dsimp only at h
    generalize Lib.parseUintB 64 (if c.toNat = 43 ∨ c.toNat = 45 then r else c :: r) = u at h
    cases u with
    | «syntax» => cases h
    | range => cases h
    | ok u =>
      dsimp only at h
      split at h
      · cases h
      · split at h
        · cases h
        · injection h with h
          subst h
          split <;> omega
/-- What the listed variables hold, whatever comes from B on. -/
def Vrs (B : Nat) (W : World) : Prop := ∀ W', Below B W W' → Lib.TabIs Tryz.prog W' "internal/strconv.uint64pow10" .u64 Lib.pow10Tab ∧ (∃ tp p, W'.var? Tryz.prog "strconv.ErrSyntax" = some #[.iface tp p]) ∧ ∃ tp p, W'.var? Tryz.prog "strconv.ErrRange" = some #[.iface tp p]
theorem Vrs.below {B : Nat} {W W1 : World} (h : Vrs B W) (hb : Below B W W1) : Vrs B W1 := fun W' hW => h W' (hb.trans hW)
theorem ParseInt_any (w : List UInt8) (hw : w.length ≤ 1000000) (B : Nat) (W : World) (hv : Vrs B W) :
    Calls Tryz.prog 67 #[.string (bs w), .int .i64 10, .int .i64 64] W fun e W' => Below W.heap.size W W' ∧ ∃ x, (Lib.parseIntB 64 w = .ok x ∧ e = .returned (.tuple #[.int .i64 x, .nilIface])) ∨ ((∀ v, Lib.parseIntB 64 w ≠ .ok v) ∧ ∃ N, e = .returned (.tuple #[.int .i64 x, .iface 150 (.pointer (some ⟨N, 0, none⟩))])) := by
  obtain ⟨_, ⟨t1, p1, h1⟩, t2, p2, h2⟩ := hv W (Below.refl _ _)
  cases hp : Lib.parseIntB 64 w with
  | ok v =>
    refine (strconv_ParseInt_10_at64_ok (bs w) (by rw [bs_size]; omega) v (by rw [bs_list]; exact hp) W).mono ?_
    rintro e w' ⟨rfl, hw'⟩
    refine ⟨?_, v, .inl ⟨rfl, rfl⟩⟩
    rcases hw' with rfl | ⟨t, rfl⟩
    · exact Below.refl _ _
    · exact Lib.bytesWorld_below _ _ _
  | «syntax» =>
    refine (strconv_ParseInt_10_at64_syntax_var (bs w) (by rw [bs_size]; omega) (by rw [bs_list]; exact hp) t1 p1 W h1).mono ?_
    rintro e w' ⟨N, rfl, _, _, hb⟩
    exact ⟨hb, 0, .inr ⟨fun v h => (by cases h), N, rfl⟩⟩
  | range =>
    refine (strconv_ParseInt_10_at64_range_var (bs w) (by rw [bs_size]; omega) (by rw [bs_list]; exact hp) t2 p2 W h2).mono ?_
    rintro e w' ⟨N, rfl, _, _, hb⟩
    exact ⟨hb, _, .inr ⟨fun v h => (by cases h), N, rfl⟩⟩
theorem FormatInt_any (x : Int) (h0 : -9223372036854775808 ≤ x) (h1 : x ≤ 9223372036854775807) (B : Nat) (W : World) (hv : Vrs B W) :
    Calls Tryz.prog 68 #[.int .i64 x, .int .i64 10] W fun e W' => e = .returned (.string (bs (Lib.itoa x))) ∧ Below W.heap.size W W' := by
  obtain ⟨ht, _⟩ := hv W (Below.refl _ _)
  refine (strconv_FormatInt_10 x h0 h1 W ht).mono ?_
  rintro e w' ⟨rfl, k, os, rfl⟩
  exact ⟨rfl, below_grow W k os⟩
theorem turns_below {B : Nat} {W W1 : World} {gc : Nat} {O : Nat → Prop} (h : Turns (Wr W gc B O) W W1) (hg : B ≤ gc) (hB : B ≤ W.heap.size) : Below B W W1 :=
  ⟨h.os, h.tape, h.output, h.size, fun k hk => h.block k (by omega) (fun e => by
    rcases e with e | ⟨e, _⟩ <;> omega)⟩
set_option maxRecDepth 100000 in
set_option maxHeartbeats 4000000 in
theorem number_read {W : World} {gc B : Nat} {O : Nat → Prop} {c : Cm} {v : Value} (hc : CmAt W gc B O c v) (hO : ∀ k, O k → k < W.heap.size) (hB : B ≤ W.heap.size) (hgc : B ≤ gc) (hn : c.args.length ≤ 1000) (hv : Vrs B W) (w : List UInt8) (hw : w.length ≤ 1000000) :
    Calls Tryz.prog 66 #[.pointer (some ⟨gc, 0, none⟩), .string (bs w)] W fun e W' => e = .returned (.int .i64 (if numOk w then 0 else 7)) ∧ Turns (Wr W gc B O) W W' ∧ (numOk w = true → ∃ v', CmAt W' gc B O { c with args := c.args ++ [(numOf w : Int)] } v') := by
  have PI := Lib.hid (ParseInt_any w hw B W hv)
  have HC := Lib.hid hc
  have HO := Lib.hid hO
  have HV0 := Lib.hid hv
  have HF := Lib.hid (num_fwd w)
  have HBK := Lib.hid (num_back w)
  have HBD := Lib.hid (parse_bound w)
  have hws : (bs w).size = w.length := bs_size w
  clear hc hO hv
  obtain ⟨ok, hok⟩ : ∃ ok, ok = numOk w := ⟨_, rfl⟩
  rw [← hok] at HF HBK ⊢
  clear hok
  go_enter Tryz.func66, Tryz.ntmps66
  go_wp2_with fail
  refine PI.out.mono ?_
  rintro e W1 ⟨hb1, x, hx⟩
  have hc1 := HC.out.below hb1
  obtain ⟨A, cap, hv, hcap, _⟩ := hc1.form
  have c2 : W1.cell? ⟨gc, 2, none⟩ = some (.slice A c.args.length cap) := by rw [cell_of_row _ _ _ _ _ _ hc1.cell, ← hv]; rfl
  have HO1 := Lib.hid hc1.own
  have HV := Lib.hid hv
  have HB1 := Lib.hid hb1
  have hbs := hb1.size
  clear hc1 hv hb1
  have HPU : Hid (∀ A' c' W3, W3.ownsRow B 2 1 (.slice A' (c.args.length + 1) c') (c.args.length + 1) (c.args.map (Value.int .i64) ++ [Value.int .i64 x]) → (W1.alloc (.cells #[.int .i64 x] 2)).grownBy W3 (Value.slice A c.args.length cap).ownBlock → ((Value.slice A' (c.args.length + 1) c').ownBlock = (Value.slice A c.args.length cap).ownBlock ∨ (Value.slice A' (c.args.length + 1) c').ownBlock = some (W1.heap.size + 1)) → _) := Lib.hid fun A' c' W3 hown hg hb => HC.out.push HB1.out HO.out x (v' := .slice A' (c.args.length + 1) c') (.cells #[.int .i64 x] 2) (by rw [List.map_append]; exact hown) (by rw [HV.out]; exact hg) (by rw [HV.out]; exact hb)
  rcases hx with ⟨hpx, rfl⟩ | ⟨hno, N, rfl⟩
  · obtain ⟨b0, b1⟩ := HBD.out x hpx
    go_wp2_with (at_builtin; refine app_a64 rfl _ _ rfl B (.slice A c.args.length cap) c.args rfl (by rw [← HV.out]; exact (World.ownsRow.alloc HO1.out _)) _ 1 1 [x] rfl (lit_rd W1 x) (by omega) (by simp; omega) ?_)
    intro A' c' W3 hown hg hb
    have hpu := HPU.out A' c' W3 hown hg hb
    have P1 := Lib.hid hpu.1
    have P2 := Lib.hid hpu.2.1
    have d2 : W3.cell? ⟨gc, 2, none⟩ = some (.slice A c.args.length cap) := by rw [cell_of_row _ _ _ _ _ _ hpu.2.2, ← HV.out]; rfl
    have f2 : W3.frozen? ⟨gc, 2, none⟩ = false := by simp [World.frozen?, hpu.2.2]
    clear hpu hown hg hb c2 HPU
    go_upto_region 3 with (fail)
    have P3 : Hid (∃ v', CmAt (W3.setCell ⟨gc, 2, none⟩ (.slice A' (c.args.length + 1) c')) gc B O { c with args := c.args ++ [x] } v') := Lib.hid ⟨_, P1.out⟩
    clear P1 d2 f2 HO1
    generalize W3.setCell ⟨gc, 2, none⟩ (.slice A' (c.args.length + 1) c') = W4 at *
    have FI := Lib.hid (FormatInt_any x b0 b1 B W4 (HV0.out.below (turns_below P2.out hgc hB)))
    have ISA := (by intro b W' ; exact (is_any b W') : ∀ b (W' : World), Calls Tryz.prog 55 #[.bool b] W' fun e w' => e = .returned (.int .i64 (if b then 0 else 7)) ∧ W' = w')
    have HIS := Lib.hid ISA
    clear ISA
    cases ok with
    | true =>
      obtain ⟨q1, q2, q3⟩ := HF.out rfl
      rw [hpx] at q1
      obtain rfl : x = (numOf w : Int) := by injection q1
      rw [q2] at FI
      have q4 : ((bs w).size : Int) ≤ 18 := by rw [bs_size]; omega
      have q5 : (0 : Int) ≤ (numOf w : Int) := by omega
      clear HBK HBD HF hpx q1 q2 b0 b1 HV0
      go_wp2_with (first
        | (go_at_call 68; refine FI.out.mono ?_; rintro e W5 ⟨rfl, hb5⟩)
        | (go_at_call 55; refine (HIS.out _ _).mono ?_; rintro e w' ⟨rfl, rfl⟩))
      go_ret
      obtain ⟨v', p3⟩ := P3.out
      exact ⟨rfl, P2.out.trans (.of_below hb5), v', p3.below hb5⟩
    | false =>
      by_cases h18 : ((bs w).size : Int) ≤ 18
      · by_cases hi : bs w = bs (Lib.itoa x)
        · have h0 : ¬ (0 : Int) ≤ x := fun h => by
            have e : w = Lib.itoa x := by rw [← bs_list w, hi, bs_list]
            have := (HBK.out x (by rw [bs_size] at h18; omega) e h).1
            cases this
          rw [← hi] at FI
          clear HBK HBD HF hpx hi HV0
          go_wp2_with (first
            | (go_at_call 68; refine FI.out.mono ?_; rintro e W5 ⟨rfl, hb5⟩)
            | (go_at_call 55; refine (HIS.out _ _).mono ?_; rintro e w' ⟨rfl, rfl⟩))
          go_ret
          exact ⟨rfl, P2.out.trans (.of_below hb5)⟩
        · have hb1 : ((bs w).toList == (bs (Lib.itoa x)).toList) = false := (Lib.bytes_beq_false_iff _ _).2 hi
          have hb2 : ¬ (bs w).toList = (bs (Lib.itoa x)).toList := by rw [beq_eq_false_iff_ne] at hb1; exact hb1
          clear HBK HBD HF hpx hi HV0
          go_wp2_with (first
            | (go_at_call 68; refine FI.out.mono ?_; rintro e W5 ⟨rfl, hb5⟩)
            | (go_at_call 55; refine (HIS.out _ _).mono ?_; rintro e w' ⟨rfl, rfl⟩))
          go_ret
          exact ⟨rfl, P2.out.trans (.of_below hb5)⟩
      · clear HBK HBD HF hpx HV0
        go_wp2_with (first
          | (go_at_call 55; refine (HIS.out _ _).mono ?_; rintro e w' ⟨rfl, rfl⟩))
        go_ret
        exact ⟨rfl, P2.out⟩
  · go_wp2_with (at_builtin; refine app_a64 rfl _ _ rfl B (.slice A c.args.length cap) c.args rfl (by rw [← HV.out]; exact (World.ownsRow.alloc HO1.out _)) _ 1 1 [x] rfl (lit_rd W1 x) (by omega) (by simp; omega) ?_)
    intro A' c' W3 hown hg hb
    have hpu := HPU.out A' c' W3 hown hg hb
    have P2 := Lib.hid hpu.2.1
    have d2 : W3.cell? ⟨gc, 2, none⟩ = some (.slice A c.args.length cap) := by rw [cell_of_row _ _ _ _ _ _ hpu.2.2, ← HV.out]; rfl
    have f2 : W3.frozen? ⟨gc, 2, none⟩ = false := by simp [World.frozen?, hpu.2.2]
    clear hpu hown hg hb c2 HPU
    go_upto_region 3 with (fail)
    clear d2 f2 HO1
    generalize W3.setCell ⟨gc, 2, none⟩ (.slice A' (c.args.length + 1) c') = W4 at *
    cases ok with
    | true => exact absurd (HF.out rfl).1 (hno _)
    | false =>
      clear HBK HBD HF hno HV0
      go_wp2_with (go_at_call 55; refine (is_any _ _).mono ?_; rintro e w' ⟨rfl, rfl⟩)
      go_ret
      exact ⟨rfl, P2.out⟩
end Go.Proofs.YthlgjbmkealjjaaGreatDoor
