/-
  slices.Collect over block.pairs; block.Read. No statement is proved here.
-/
import Derived.Maps.OwnIn
import Derived.Maps.AppendAt
import Derived.Test.YthaciglechijkaaBlkI
import Derived.Test.YthaciglechijkaaRange2
namespace Go.Proofs.Ythaciglechijkaa
open Go.RowKit Go.Shelf
set_option linter.unusedVariables false
attribute [local go_sem] Oper.semAt_some

theorem put_cells {W : World} {l : Nat} {o o' : Obj} (h : W.heap[l]? = some o) (ho : o.isCells = false) (g : Nat) (cs : Array Value) (t : TypeId) (fr : Nat × Nat) (hg : W.heap[g]? = some (.cells cs t fr)) : (W.putObj l o').heap[g]? = W.heap[g]? := by
  have hne : g ≠ l := by
    rintro rfl
    rw [h] at hg
    cases hg
    cases ho
  exact World.putObj_heap_other hne
theorem ne_types {W : World} {g h : Nat} {cs ds : Array Value} {t u : TypeId} {f k : Nat × Nat} (hg : W.heap[g]? = some (.cells cs t f)) (hh : W.heap[h]? = some (.cells ds u k)) (hne : t ≠ u) : g ≠ h := by
  rintro rfl
  rw [hg] at hh
  injection hh with h1
  injection h1 with _ h2
  exact hne h2
theorem OwnB.put {W : World} {base : Nat} {v : Value} {p : List UInt8} (h : OwnB W base v p) {l : Nat} {o o' : Obj} (hh : W.heap[l]? = some o) (ho : o.isCells = false) : OwnB (W.putObj l o') base v p :=
  ownsRow_same h fun g cs fr _ hg => put_cells hh ho _ _ _ _ hg
theorem OwnQ.put {W : World} {base : Nat} {v : Value} {rs : List PairR} (h : OwnQ W base v rs) {l : Nat} {o o' : Obj} (hh : W.heap[l]? = some o) (ho : o.isCells = false) : OwnQ (W.putObj l o') base v rs :=
  h.same fun g cs t fr _ _ hg => put_cells hh ho _ _ _ _ hg
theorem belowPut {B : Nat} {w W : World} (h : Below B w W) {l : Nat} (hl : B ≤ l) (o' : Obj) : Below B w (W.putObj l o') := by
  refine ⟨h.os, h.tape, h.output, by simpa [World.putObj] using h.size, fun k hk => ?_⟩
  exact (World.putObj_heap_other (by omega)).trans (h.block k hk)
/-- The book of the loop that collects: the boxes, the row of pairs. -/
structure JS (w0 : World) (bx pt wy sb : Nat) (A : Option Addr) (n c : Nat) (v : Value) (rs : List PairR) (e : Int) (W : World) : Prop where
  box : W.heap[bx]? = some (.cells #[.slice A n c] 24 (0, 0))
  ptr : W.heap[pt]? = some (.cells #[.pointer (some ⟨wy, 0, none⟩)] 56 (0, 0))
  why : W.heap[wy]? = some (.cells #[.int .i64 e] 25 (0, 0))
  s : W.heap[sb]? = some (.cells #[v] 22 (0, 0))
  own : OwnQ W (sb + 1) v rs
  bel : Below w0.heap.size w0 W
theorem JS.low {w0 : World} {bx pt wy sb : Nat} {A : Option Addr} {n c : Nat} {v : Value} {rs : List PairR} {e : Int} {W W' : World} (h : JS w0 bx pt wy sb A n c v rs e W) (hb : Below W.heap.size W W') : JS w0 bx pt wy sb A n c v rs e W' :=
  ⟨(hb.block _ (heap_lt' h.box)).trans h.box, (hb.block _ (heap_lt' h.ptr)).trans h.ptr, (hb.block _ (heap_lt' h.why)).trans h.why, (hb.block _ (heap_lt' h.s)).trans h.s, h.own.below hb, h.bel.trans (hb.mono h.bel.size)⟩
theorem JS.set {w0 : World} {bx pt wy sb : Nat} {A : Option Addr} {n c : Nat} {v : Value} {rs : List PairR} {e : Int} {W : World} (h : JS w0 bx pt wy sb A n c v rs e W) (hwy : w0.heap.size ≤ wy) (e' : Int) : JS w0 bx pt wy sb A n c v rs e' (W.setCell ⟨wy, 0, none⟩ (.int .i64 e')) := by
  have ho := fun (g : Nat) (hne : g ≠ wy) => set_other (g := g) (i := 0) (.int .i64 e') _ _ _ h.why hne
  refine ⟨(ho _ (ne_types h.box h.why (by decide))).trans h.box, (ho _ (ne_types h.ptr h.why (by decide))).trans h.ptr, ?_, (ho _ (ne_types h.s h.why (by decide))).trans h.s, h.own.same fun g cs t fr _ ht hg => ho g ?_, h.bel.setCell (p := ⟨wy, 0, none⟩) hwy _⟩
  · rw [setCell_eq_setRow W _ 0 _ _ _ _ h.why]; exact setRow_heap _ _ _ _ _ _ h.why
  · rcases ht with rfl | rfl
    · exact ne_types hg h.why (by decide)
    · exact ne_types hg h.why (by decide)
theorem JS.put {w0 : World} {bx pt wy sb : Nat} {A : Option Addr} {n c : Nat} {v : Value} {rs : List PairR} {e : Int} {W : World} (h : JS w0 bx pt wy sb A n c v rs e W) {l : Nat} {o o' : Obj} (hl : w0.heap.size ≤ l) (hh : W.heap[l]? = some o) (ho : o.isCells = false) : JS w0 bx pt wy sb A n c v rs e (W.putObj l o') :=
  ⟨(put_cells hh ho _ _ _ _ h.box).trans h.box, (put_cells hh ho _ _ _ _ h.ptr).trans h.ptr, (put_cells hh ho _ _ _ _ h.why).trans h.why, (put_cells hh ho _ _ _ _ h.s).trans h.s, h.own.put hh ho, belowPut h.bel hl _⟩
/-- The row of pairs grown and laid. -/
theorem JS.setS {w0 : World} {bx pt wy sb : Nat} {A : Option Addr} {n c : Nat} {v v' : Value} {rs rs' : List PairR} {e : Int} {W W' : World} (h : JS w0 bx pt wy sb A n c v rs e W) (hb : Below (sb + 1) W W') (hlt : bx < sb ∧ pt < sb ∧ wy < sb) (h0 : w0.heap.size ≤ sb) (hown : OwnQ W' (sb + 1) v' rs') : JS w0 bx pt wy sb A n c v' rs' e (W'.setCell ⟨sb, 0, none⟩ v') := by
  have e0 := (hb.block bx (by omega)).trans h.box
  have e1 := (hb.block pt (by omega)).trans h.ptr
  have e2 := (hb.block wy (by omega)).trans h.why
  have e3 := (hb.block sb (by omega)).trans h.s
  have ho := fun (g : Nat) (hne : g ≠ sb) => set_other (g := g) (i := 0) v' _ _ _ e3 hne
  exact ⟨(ho _ (by omega)).trans e0, (ho _ (by omega)).trans e1, (ho _ (by omega)).trans e2, by rw [setCell_eq_setRow W' _ 0 _ _ _ _ e3]; exact setRow_heap _ _ _ _ _ _ e3,
    hown.same fun g _ _ _ hg _ _ => ho g (by omega), (h.bel.trans (hb.mono (by omega))).setCell (p := ⟨sb, 0, none⟩) h0 _⟩
theorem JS.client (w0 : World) (bx pt wy sb : Nat) (A : Option Addr) (n c : Nat) (hwy : w0.heap.size ≤ wy) : Client w0 bx pt wy (sb + 1) A n c (fun rs e W => ∃ v, JS w0 bx pt wy sb A n c v rs e W) where
  box := fun rs e W ⟨v, h⟩ => h.box
  ptr := fun rs e W ⟨v, h⟩ => h.ptr
  why := fun rs e W ⟨v, h⟩ => h.why
  bel := fun rs e W ⟨v, h⟩ => ⟨h.bel, heap_lt' h.s⟩
  low := fun rs e W W' ⟨v, h⟩ hb => ⟨v, h.low hb⟩
  set := fun rs e e' W ⟨v, h⟩ => ⟨v, h.set hwy e'⟩
  key := fun rs r e W ⟨v, h⟩ => by
    obtain ⟨A, m, c, e, _, hmc, _, hr, _⟩ := (h.own.each r (by simp)).1.form
    exact ⟨A, m, c, e, hmc, hr⟩
theorem keeps_grown {B base n sz : Nat} {e : TypeId} {W W' : World} {v : Value} {vs : List Value} {o : Obj} (hr : W.ownsRow base e sz v n vs) (hg : (W.alloc o).grownBy W' v.ownBlock) : KeepsFrom B W W' := by
  refine ⟨Nat.le_trans (by simp) hg.size, fun k ob _ hk ho => ?_⟩
  have hlt := (Array.getElem?_eq_some_iff.1 hk).1
  rw [hg.block k (by simp; omega) ?_]
  · exact (heap_alloc_old _ _ hlt).trans hk
  · intro e
    obtain ⟨cs, h2⟩ := row_ofType hr e.symm
    rw [hk] at h2
    cases h2
    cases ho
theorem app_qIn {F : Fence} {nF : Nat} {ops : Array Oper} {rest : List Oper} {o : Oper} {a : Act} {Q : Exit → Act → World → Prop} {w : World} (hgd : o.guard = none) (s x : Operand)
    (ho : o.op = .call { callee := .builtin .append, args := #[s, x], argTypes := #[22, 22] })
    (base : Nat) (v : Value) (rs : List PairR) (hs : a.eval s = v) (hown : OwnQ w base v rs) (r : PairR) (hk : OwnB w base r.kv r.p.key) (hv : OwnB w base r.vv r.p.val)
    (hx : a.eval x = .slice (some ⟨w.heap.size, 0, none⟩) 1 1) (hlen : rs.length ≤ 2000000) (hbase : base ≤ w.heap.size)
    (h : ∀ g cap w', OwnQ w' base (.slice (some ⟨g, 0, none⟩) (rs.length + 1) cap) (rs ++ [r]) → Below base w w' → KeepsFrom base w w' → wpListIn F nF Try.prog ops Q rest (a.put o.dst (.slice (some ⟨g, 0, none⟩) (rs.length + 1) cap)) w') : wpListIn F nF Try.prog ops Q (o :: rest) a (w.alloc (.cells #[r.kv, r.vv] 42)) := by
  obtain ⟨i0, hi, hz0, hz1, hz2⟩ := info_parts infoPair
  have hrow := (hown.alloc (.cells #[r.kv, r.vv] 42)).row
  refine wpListIn_append_own_at (w := w.alloc (.cells #[r.kv, r.vv] 42)) hgd s x 22 ho base 42 i0 (.agg #[.slice none 0 0, .slice none 0 0]) 2 48 Try.underlying22 hi hz0 hz1 hz2 rfl (by decide) v rs.length (cellsQ rs) hs hrow ⟨w.heap.size, 0, none⟩ 1 1 [r.kv, r.vv] hx rfl ?hcells (by
    intro u hu
    simp only [List.mem_cons, List.not_mem_nil, or_false] at hu
    rcases hu with rfl | rfl
    · exact one_slice hk
    · exact one_slice hv) (by unfold maxLen; omega) (by omega) (by simp; omega) fun v' w' hown' hg _ hb => ?_
  case hcells =>
    intro j u hu
    rw [add_plain, Nat.zero_add, cell_of_row _ _ _ _ _ _ (heap_alloc_new w _)]
    simpa using hu
  have hkf := keeps_grown (B := base) hown.row hg
  have hp := OwnQ.snoc (hown.alloc _) (hk.alloc _) (hv.alloc _) hown' hg
  obtain ⟨A2, c2, e2, _, _, hA2⟩ := hp.form
  cases A2 with
  | none =>
    exfalso
    rcases hp.row.2 with ⟨_, hn⟩ | ⟨g, cap, cur, hv', _⟩
    · simp at hn
    · rw [e2] at hv'; injection hv' with e3 _ _; cases e3
  | some ad =>
    obtain ⟨g, rfl, _⟩ := hA2 _ rfl
    rw [List.length_append, List.length_singleton] at e2
    subst e2
    exact h g c2 w' hp (((Below.refl base w).alloc hbase _).grown hg (by simp; omega) fun k hk => (hown.row.lt k hk).1) hkf
def BN (xs : List UInt8) (w0 : World) (bx pt wy sb : Nat) (A : Option Addr) (n c : Nat) (rs : List PairR) (r : PairR) (g : Nat) (W : World) : Prop :=
  (∃ k, StandsB xs (psOf rs ++ [r.p]) k) ∧ (∃ v, JS w0 bx pt wy sb A n c v rs 0 W) ∧ OwnB W (sb + 1) r.kv r.p.key ∧ OwnB W (sb + 1) r.vv r.p.val ∧ W.heap[g]? = some (.cells #[r.kv, r.vv] 42 (0, 0))
set_option maxRecDepth 100000 in
set_option maxHeartbeats 4000000 in
theorem AppendSeq_any (w0 w : World) (bx pt wy : Nat) (A : Option Addr) (n c : Nat) (xs : List UInt8) (hA : RdB w0 A n xs) (hm : n ≤ 140737488351232) (hc : n ≤ c)
    (hbox : w.heap[bx]? = some (.cells #[.slice A n c] 24 (0, 0))) (hptr : w.heap[pt]? = some (.cells #[.pointer (some ⟨wy, 0, none⟩)] 56 (0, 0))) (hwhy : w.heap[wy]? = some (.cells #[.int .i64 0] 25 (0, 0))) (hwy : w0.heap.size ≤ wy) (hb : Below w0.heap.size w0 w) :
    Calls Try.prog 40 #[.slice none 0 0, .func (.func 36) #[] #[.pointer (some ⟨bx, 0, none⟩), .pointer (some ⟨pt, 0, none⟩)]] w fun e w' => ∃ v rs er, e = .returned v ∧ readAll xs = (psOf rs, er) ∧ OwnQ w' w.heap.size v rs ∧ w'.heap[wy]? = some (.cells #[.int .i64 er] 25 (0, 0)) ∧ Below w0.heap.size w0 w' := by
  have HIT := Lib.hid (fun m => pairs_it m w0 bx pt wy (w.heap.size + 1) A n c xs _ (JS.client w0 bx pt wy w.heap.size A n c hwy) hA hm hc)
  have HLT := Lib.hid (show bx < w.heap.size ∧ pt < w.heap.size ∧ wy < w.heap.size from ⟨heap_lt' hbox, heap_lt' hptr, heap_lt' hwhy⟩)
  have h0 : w0.heap.size ≤ w.heap.size := hb.size
  have HJ0 : Hid (JS w0 bx pt wy w.heap.size A n c (.slice none 0 0) [] 0 (w.alloc (.cells #[.slice none 0 0] 22))) := Lib.hid
    ⟨(heap_alloc_old _ _ (heap_lt' hbox)).trans hbox, (heap_alloc_old _ _ (heap_lt' hptr)).trans hptr, (heap_alloc_old _ _ (heap_lt' hwhy)).trans hwhy, heap_alloc_new w _, OwnQ.nil _ _, hb.alloc hb.size _⟩
  refine (callsIn_wide (n := 3)).1 ?_
  refine callsIn_of_wp_marks Try.func40 rfl trivial ?_
  simp only [Try.ntmps40, List.size_toArray, List.length_cons, List.length_nil, Nat.reduceAdd, Nat.reduceSub, Array.replicate_succ, Array.replicate_zero, List.push_toArray, List.append_toArray, List.nil_append, List.cons_append]
  gi_wp2_with fail
  refine range_runs_box (gf := 36) (lb := #[.pointer (some ⟨bx, 0, none⟩), .pointer (some ⟨pt, 0, none⟩)]) rfl (enters_of Try.func36 (by kernel_rfl) rfl) (encs := encQ) (fun x => rfl)
    (fun rs W => ∃ v, JS w0 bx pt wy w.heap.size A n c v rs 0 W) (Nn xs (w.heap.size + 1) (fun rs e W => ∃ v, JS w0 bx pt wy w.heap.size A n c v rs e W)) (Fn xs (fun rs e W => ∃ v, JS w0 bx pt wy w.heap.size A n c v rs e W)) (by rw [World.size_alloc]; exact HIT.out _) ?stJ ?stN ?stF
    (BN xs w0 bx pt wy w.heap.size A n c) ?stB ?start
    (fun g r => { tmps := #[.slice none 0 0, .func (.func 36) #[] #[.pointer (some ⟨bx, 0, none⟩), .pointer (some ⟨pt, 0, none⟩)], .pointer (some ⟨w.heap.size, 0, none⟩), undef, .slice none 0 0, .pointer (some ⟨g, 0, none⟩), .func (.func 36) #[] #[.pointer (some ⟨bx, 0, none⟩), .pointer (some ⟨pt, 0, none⟩)], .agg #[r.kv, r.vv], undef, undef, undef, undef, undef], defers := [] }) ?assign ?body ?done
  case stJ =>
    rintro pre W k o o' hk hh ho ⟨v, hj⟩
    rw [World.size_alloc] at hk
    exact ⟨v, hj.put (by omega) hh ho⟩
  case stN =>
    rintro pre x W k o o' hk hh ho ⟨hs, ⟨v, hj⟩, h1, h2⟩
    rw [World.size_alloc] at hk
    exact ⟨hs, ⟨v, hj.put (by omega) hh ho⟩, h1.put hh ho, h2.put hh ho⟩
  case stF =>
    rintro W k o o' hk hh ho ⟨rs, e, hr, v, hj⟩
    rw [World.size_alloc] at hk
    exact ⟨rs, e, hr, v, hj.put (by omega) hh ho⟩
  case stB =>
    rintro pre x g W k o o' hk hh ho ⟨hs, ⟨v, hj⟩, h1, h2, h3⟩
    rw [World.size_alloc] at hk
    exact ⟨hs, ⟨v, hj.put (by omega) hh ho⟩, h1.put hh ho, h2.put hh ho, (put_cells hh ho _ _ _ _ h3).trans h3⟩
  case start =>
    intro o o'
    exact ⟨_, HJ0.out.low (((Below.refl _ _).alloc (Nat.le_refl _) _).alloc (by simp) _)⟩
  case assign =>
    rintro l pre r W K ⟨hs, ⟨v, hj⟩, h1, h2⟩ hK
    obtain ⟨kv, vv, p⟩ := r
    obtain ⟨Ak, mk, ck, rfl, _⟩ := h1.form
    obtain ⟨Av, mv, cv, rfl, _⟩ := h2.form
    have HK := Lib.hid (hK (W.alloc (.cells #[.slice Ak mk ck, .slice Av mv cv] 42)) ((Below.refl _ W).alloc (Nat.le_refl _) _) ⟨hs, ⟨v, hj.low ((Below.refl _ W).alloc (Nat.le_refl _) _)⟩, h1.alloc _, h2.alloc _, heap_alloc_new W _⟩)
    clear hK hj h1 h2 hs
    unfold encQ
    gi_wp2
    exact HK.out
  case body =>
    rintro l pre ⟨kv, vv, p⟩ g W ⟨⟨k, hs⟩, ⟨v, hj⟩, h1, h2, h3⟩
    have hst := hs
    obtain ⟨Av0, cv0, rfl, _⟩ := hj.own.form
    obtain ⟨Ak, mk, ck, rfl, _⟩ := h1.form
    obtain ⟨Av, mv, cv, rfl, _⟩ := h2.form
    dsimp only at hs h1 h2 h3 ⊢
    have hlen : pre.length ≤ 2000000 := by
      have h4 := hs.2.2.1
      rw [List.length_append, psOf_len] at h4
      omega
    have hc0 : W.cell? ⟨w.heap.size, 0, none⟩ = some (.slice Av0 pre.length cv0) := by rw [cell_of_row _ _ _ _ _ _ hj.s]; rfl
    have hg0 : W.cell? ⟨g, 0, none⟩ = some (.slice Ak mk ck) := by rw [cell_of_row _ _ _ _ _ _ h3]; rfl
    have hg1 : W.cell? ⟨g, 1, none⟩ = some (.slice Av mv cv) := by rw [cell_of_row _ _ _ _ _ _ h3]; rfl
    have hsz : w.heap.size + 1 ≤ W.heap.size := heap_lt' hj.s
    have HJ := Lib.hid hj
    have H1 := Lib.hid h1
    have H2 := Lib.hid h2
    have HLN := Lib.hid hlen
    clear hj hs hst h1 h2 h3 hlen
    gi_wp2_with (gi_at_builtin; refine app_qIn rfl _ _ rfl (w.heap.size + 1) (.slice Av0 pre.length cv0) pre rfl HJ.out.own ⟨.slice Ak mk ck, .slice Av mv cv, p⟩ H1.out H2.out rfl HLN.out hsz ?_)
    intro g2 cap w1 hown1 hbel hkf
    have hr0 := (hbel.block w.heap.size (by omega)).trans HJ.out.s
    have hd0 : w1.cell? ⟨w.heap.size, 0, none⟩ = some (.slice Av0 pre.length cv0) := by rw [cell_of_row _ _ _ _ _ _ hr0]; rfl
    have hf0 : w1.frozen? ⟨w.heap.size, 0, none⟩ = false := by simp [World.frozen?, hr0]
    have HJ2 := Lib.hid (HJ.out.setS hbel HLT.out h0 hown1)
    have HK := Lib.hid (show KeepsFrom (w.heap.size + 1) W (w1.setCell ⟨w.heap.size, 0, none⟩ (.slice (some ⟨g2, 0, none⟩) (pre.length + 1) cap)) from by
      exact hkf.trans ((KeepsOthers.setCell _ _ _).from _))
    clear hown1 hbel hkf hr0 hc0
    gi_wp2
    exact ⟨HK.out, _, HJ2.out⟩
  case done =>
    rintro W ⟨rs, er, hr, v, hj⟩ hK
    rw [World.size_alloc] at hK
    obtain ⟨Av0, cv0, rfl, _⟩ := hj.own.form
    have hc0 : W.cell? ⟨w.heap.size, 0, none⟩ = some (.slice Av0 rs.length cv0) := by rw [cell_of_row _ _ _ _ _ _ hj.s]; rfl
    have HJ := Lib.hid hj
    have HK := Lib.hid hK
    clear hj hK
    gi_wp2
    have hk5 : W.heap[(w.alloc (.cells #[.slice none 0 0] 22)).heap.size]? = some (.deferred (some [])) := by rw [World.size_alloc]; exact HK.out
    have hj5 := HJ.out.put (o' := .deferred none) (by rw [World.size_alloc]; omega) hk5 rfl
    refine ⟨by simp, .inl ⟨_, _, rfl, run_takeDeferred hk5, ?_⟩⟩
    exact ⟨_, results_tmp rfl _ _ _, _, rs, er, rfl, hr, hj5.own.lower (by omega), hj5.why, hj5.bel⟩
theorem pairs_any (A : Option Addr) (n c : Nat) (q : Addr) (w : World) :
    Calls Try.prog 27 #[.slice A n c, .pointer (some q)] w fun e w' => e = .returned (.func (.func 36) #[] #[.pointer (some ⟨w.heap.size, 0, none⟩), .pointer (some ⟨w.heap.size + 1, 0, none⟩)]) ∧ w' = (w.alloc (.cells #[.slice A n c] 24)).alloc (.cells #[.pointer (some q)] 56) := by
  go_enter Try.func27, Try.ntmps27
  go_wp2
  go_ret
  exact ⟨rfl, rfl⟩
def SeqEnds (w0 w : World) (wy : Nat) (xs : List UInt8) (e : Ending) (w' : World) : Prop := ∃ v rs er, e = .returned v ∧ readAll xs = (psOf rs, er) ∧ OwnQ w' w.heap.size v rs ∧ w'.heap[wy]? = some (.cells #[.int .i64 er] 25 (0, 0)) ∧ Below w0.heap.size w0 w'
theorem Collect_any (w : World) (a : Value) (R : Ending → World → Prop) (h : Calls Try.prog 40 #[.slice none 0 0, a] w fun e w' => (∃ v, e = .returned v) ∧ R e w') : Calls Try.prog 29 #[a] w R := by
  have H := Lib.hid h
  clear h
  go_enter Try.func29, Try.ntmps29
  go_wp2_with fail
  refine H.out.mono ?_
  rintro e w' ⟨⟨v, rfl⟩, hR⟩
  have HR := Lib.hid hR
  clear hR
  go_wp2
  exact HR.out
/-- What Read answers. -/
def ReadEnds (w : World) (r : List PairV × Int) (e : Ending) (w' : World) : Prop :=
  ∃ v rs, e = .returned (.tuple #[v, .int .i64 r.2]) ∧ psOf rs = r.1 ∧ OwnQ w' w.heap.size v rs ∧ Below w.heap.size w w'
end Go.Proofs.Ythaciglechijkaa
