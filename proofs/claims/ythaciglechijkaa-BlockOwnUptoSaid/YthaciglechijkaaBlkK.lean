/-
  block.Find. No statement is proved here.
-/
import Derived.Test.YthaciglechijkaaBlkJ2
namespace Go.Proofs.Ythaciglechijkaa
open Go.RowKit Go.Shelf
set_option linter.unusedVariables false
attribute [local go_sem] Oper.semAt_some

def Found (key : List UInt8) (u : Value) (f : Bool) (rs : List PairR) : Prop :=
  (f = true ∧ ∃ r ∈ rs, r.vv = u ∧ (psOf rs).find? (fun p => decide (p.key = key)) = some r.p) ∨ (f = false ∧ u = .slice none 0 0 ∧ (psOf rs).find? (fun p => decide (p.key = key)) = none)
theorem Found.hit {key : List UInt8} {rs : List PairR} {r : PairR} (ho : ordL [] (psOf rs ++ [r.p]) = true) (hk : r.p.key = key) : Found key r.vv true (rs ++ [r]) :=
  .inl ⟨rfl, r, by simp, rfl, by rw [psOf_snoc]; exact find_snoc _ _ ho _ hk⟩
theorem Found.miss {key : List UInt8} {u : Value} {f : Bool} {rs : List PairR} {r : PairR} (h : Found key u f rs) (hk : r.p.key ≠ key) : Found key u f (rs ++ [r]) := by
  rcases h with ⟨h1, q, hq, h2, h3⟩ | ⟨h1, h2, h3⟩
  · exact .inl ⟨h1, q, by simp [hq], h2, by rw [psOf_snoc, find_snoc' _ _ _ hk]; exact h3⟩
  · exact .inr ⟨h1, h2, by rw [psOf_snoc, find_snoc' _ _ _ hk]; exact h3⟩
/-- The book of Find's loop. -/
structure JF (w0 : World) (kv : Value) (key : List UInt8) (A : Option Addr) (n c : Nat) (u : Value) (f : Bool) (rs : List PairR) (e : Int) (W : World) : Prop where
  kb : W.heap[w0.heap.size]? = some (.cells #[kv] 24 (0, 0))
  why : W.heap[w0.heap.size + 1]? = some (.cells #[.int .i64 e] 25 (0, 0))
  vb : W.heap[w0.heap.size + 2]? = some (.cells #[u] 24 (0, 0))
  fb : W.heap[w0.heap.size + 3]? = some (.cells #[.bool f] 4 (0, 0))
  box : W.heap[w0.heap.size + 4]? = some (.cells #[.slice A n c] 24 (0, 0))
  ptr : W.heap[w0.heap.size + 5]? = some (.cells #[.pointer (some ⟨w0.heap.size + 1, 0, none⟩)] 56 (0, 0))
  each : ∀ r ∈ rs, OwnB W (w0.heap.size + 6) r.kv r.p.key ∧ OwnB W (w0.heap.size + 6) r.vv r.p.val
  bel : Below w0.heap.size w0 W
  found : Found key u f rs
section
variable {w0 : World} {kv : Value} {key : List UInt8} {A : Option Addr} {n c : Nat} {u : Value} {f : Bool} {rs : List PairR} {e : Int} {W W' : World}
theorem JF.low (h : JF w0 kv key A n c u f rs e W) (hb : Below W.heap.size W W') : JF w0 kv key A n c u f rs e W' :=
  ⟨(hb.block _ (heap_lt' h.kb)).trans h.kb, (hb.block _ (heap_lt' h.why)).trans h.why, (hb.block _ (heap_lt' h.vb)).trans h.vb, (hb.block _ (heap_lt' h.fb)).trans h.fb, (hb.block _ (heap_lt' h.box)).trans h.box, (hb.block _ (heap_lt' h.ptr)).trans h.ptr,
    fun r hr => ⟨(h.each r hr).1.below hb, (h.each r hr).2.below hb⟩, h.bel.trans (hb.mono h.bel.size), h.found⟩
theorem OwnB.setLow {B g : Nat} {v x : Value} {xs : List UInt8} {cs : Array Value} {t : TypeId} {fr : Nat × Nat} (h : OwnB W B v xs) (hg : g < B) (hh : W.heap[g]? = some (.cells cs t fr)) : OwnB (W.setCell ⟨g, 0, none⟩ x) B v xs :=
  ownsRow_same h fun k _ _ hk _ => set_other _ _ _ _ hh (by omega)
theorem JF.setWhy (h : JF w0 kv key A n c u f rs e W) (e' : Int) : JF w0 kv key A n c u f rs e' (W.setCell ⟨w0.heap.size + 1, 0, none⟩ (.int .i64 e')) := by
  have ho := fun (g : Nat) (hne : g ≠ w0.heap.size + 1) => set_other (g := g) (i := 0) (.int .i64 e') _ _ _ h.why hne
  exact ⟨(ho _ (by omega)).trans h.kb, by rw [setCell_eq_setRow W _ 0 _ _ _ _ h.why]; exact setRow_heap _ _ _ _ _ _ h.why, (ho _ (by omega)).trans h.vb, (ho _ (by omega)).trans h.fb, (ho _ (by omega)).trans h.box, (ho _ (by omega)).trans h.ptr,
    fun r hr => ⟨(h.each r hr).1.setLow (by omega) h.why, (h.each r hr).2.setLow (by omega) h.why⟩, h.bel.setCell (p := ⟨w0.heap.size + 1, 0, none⟩) (by simp) _, h.found⟩
/-- Value and found are laid. -/
theorem JF.setFound (h : JF w0 kv key A n c u f rs e W) {u' : Value} {r : PairR} (hr : OwnB W (w0.heap.size + 6) r.kv r.p.key ∧ OwnB W (w0.heap.size + 6) r.vv r.p.val) (hf : Found key u' true (rs ++ [r])) : JF w0 kv key A n c u' true (rs ++ [r]) e ((W.setCell ⟨w0.heap.size + 2, 0, none⟩ u').setCell ⟨w0.heap.size + 3, 0, none⟩ (.bool true)) := by
  have ho := fun (g : Nat) (hne : g ≠ w0.heap.size + 2) => set_other (g := g) (i := 0) u' _ _ _ h.vb hne
  have hv : (W.setCell ⟨w0.heap.size + 2, 0, none⟩ u').heap[w0.heap.size + 2]? = some (.cells #[u'] 24 (0, 0)) := by rw [setCell_eq_setRow W _ 0 _ _ _ _ h.vb]; exact setRow_heap _ _ _ _ _ _ h.vb
  have hfb : (W.setCell ⟨w0.heap.size + 2, 0, none⟩ u').heap[w0.heap.size + 3]? = some (.cells #[.bool f] 4 (0, 0)) := (ho _ (by omega)).trans h.fb
  have ho2 := fun (g : Nat) (hne : g ≠ w0.heap.size + 3) => set_other (g := g) (i := 0) (.bool true) _ _ _ hfb hne
  refine ⟨(ho2 _ (by omega)).trans ((ho _ (by omega)).trans h.kb), (ho2 _ (by omega)).trans ((ho _ (by omega)).trans h.why), (ho2 _ (by omega)).trans hv, by rw [setCell_eq_setRow _ _ 0 _ _ _ _ hfb]; exact setRow_heap _ _ _ _ _ _ hfb, (ho2 _ (by omega)).trans ((ho _ (by omega)).trans h.box), (ho2 _ (by omega)).trans ((ho _ (by omega)).trans h.ptr),
    fun q hq => ?_, (h.bel.setCell (p := ⟨w0.heap.size + 2, 0, none⟩) (by simp) _).setCell (p := ⟨w0.heap.size + 3, 0, none⟩) (by simp) _, hf⟩
  have hq2 : OwnB W (w0.heap.size + 6) q.kv q.p.key ∧ OwnB W (w0.heap.size + 6) q.vv q.p.val := by
    rcases List.mem_append.1 hq with h1 | h1
    · exact h.each q h1
    · obtain rfl : q = r := by simpa using h1
      exact hr
  exact ⟨(hq2.1.setLow (by omega) h.vb).setLow (by omega) hfb, (hq2.2.setLow (by omega) h.vb).setLow (by omega) hfb⟩
theorem JF.more (h : JF w0 kv key A n c u f rs e W) {r : PairR} (hr : OwnB W (w0.heap.size + 6) r.kv r.p.key ∧ OwnB W (w0.heap.size + 6) r.vv r.p.val) (hk : r.p.key ≠ key) : JF w0 kv key A n c u f (rs ++ [r]) e W :=
  ⟨h.kb, h.why, h.vb, h.fb, h.box, h.ptr, fun q hq => by
    rcases List.mem_append.1 hq with h1 | h1
    · exact h.each q h1
    · obtain rfl : q = r := by simpa using h1
      exact hr, h.bel, h.found.miss hk⟩
theorem JF.put (h : JF w0 kv key A n c u f rs e W) {l : Nat} {o o' : Obj} (hl : w0.heap.size ≤ l) (hh : W.heap[l]? = some o) (ho : o.isCells = false) : JF w0 kv key A n c u f rs e (W.putObj l o') :=
  ⟨(put_cells hh ho _ _ _ _ h.kb).trans h.kb, (put_cells hh ho _ _ _ _ h.why).trans h.why, (put_cells hh ho _ _ _ _ h.vb).trans h.vb, (put_cells hh ho _ _ _ _ h.fb).trans h.fb, (put_cells hh ho _ _ _ _ h.box).trans h.box, (put_cells hh ho _ _ _ _ h.ptr).trans h.ptr,
    fun r hr => ⟨(h.each r hr).1.put hh ho, (h.each r hr).2.put hh ho⟩, belowPut h.bel hl _, h.found⟩
end
theorem JF.client (w0 : World) (kv : Value) (key : List UInt8) (A : Option Addr) (n c : Nat) : Client w0 (w0.heap.size + 4) (w0.heap.size + 5) (w0.heap.size + 1) (w0.heap.size + 6) A n c (fun rs e W => ∃ u f, JF w0 kv key A n c u f rs e W) where
  box := fun rs e W ⟨u, f, h⟩ => h.box
  ptr := fun rs e W ⟨u, f, h⟩ => h.ptr
  why := fun rs e W ⟨u, f, h⟩ => h.why
  bel := fun rs e W ⟨u, f, h⟩ => ⟨h.bel, heap_lt' h.ptr⟩
  low := fun rs e W W' ⟨u, f, h⟩ hb => ⟨u, f, h.low hb⟩
  set := fun rs e e' W ⟨u, f, h⟩ => ⟨u, f, h.setWhy e'⟩
  key := fun rs r e W ⟨u, f, h⟩ => by
    obtain ⟨A, m, c, e, _, hmc, _, hr, _⟩ := (h.each r (by simp)).1.form
    exact ⟨A, m, c, e, hmc, hr⟩
def BF (xs : List UInt8) (w0 : World) (kv : Value) (key : List UInt8) (A : Option Addr) (n c : Nat) (rs : List PairR) (r : PairR) (g : Nat) (W : World) : Prop :=
  (∃ k, StandsB xs (psOf rs ++ [r.p]) k) ∧ (∃ u f, JF w0 kv key A n c u f rs 0 W) ∧ OwnB W (w0.heap.size + 6) r.kv r.p.key ∧ OwnB W (w0.heap.size + 6) r.vv r.p.val ∧ W.heap[g]? = some (.cells #[r.kv, r.vv] 42 (0, 0))
theorem Found.ends {w0 : World} {xs key : List UInt8} {u : Value} {f : Bool} {rs : List PairR} {W : World} {B : Nat} (h : Found key u f rs) (he : ∀ r ∈ rs, OwnB W B r.kv r.p.key ∧ OwnB W B r.vv r.p.val) (hr : readAll xs = (psOf rs, 0)) : ∃ v, findOf xs key = (v, f, 0) ∧ OwnB W B u v := by
  unfold findOf
  rw [hr, if_pos rfl]
  dsimp only
  rcases h with ⟨rfl, r, hm, rfl, hf⟩ | ⟨rfl, rfl, hf⟩
  · rw [hf]
    exact ⟨_, rfl, (he r hm).2⟩
  · rw [hf]
    exact ⟨[], rfl, OwnB.nil _ _⟩
/-- What Find answers. -/
def FindEnds (w : World) (r : List UInt8 × Bool × Int) (e : Ending) (w' : World) : Prop :=
  ∃ v, e = .returned (.tuple #[v, .bool r.2.1, .int .i64 r.2.2]) ∧ OwnB w' w.heap.size v r.1 ∧ Below w.heap.size w w'
set_option maxRecDepth 100000 in
set_option maxHeartbeats 4000000 in
theorem Find_any (A : Option Addr) (n c : Nat) (kA : Option Addr) (kn kc : Nat) (w : World) (xs key : List UInt8) (h : RdB w A n xs) (hk : RdB w kA kn key) (hm : n ≤ 140737488351232) (hc : n ≤ c) :
    Calls Try.prog 12 #[.slice A n c, .slice kA kn kc] w (FindEnds w (findOf xs key)) := by
  have HIT := Lib.hid (fun m => pairs_it m w (w.heap.size + 4) (w.heap.size + 5) (w.heap.size + 1) (w.heap.size + 6) A n c xs _ (JF.client w (.slice kA kn kc) key A n c) h hm hc)
  have HK := Lib.hid hk
  clear h hk
  refine (callsIn_wide (n := 3)).1 ?_
  refine callsIn_of_wp_marks Try.func12 rfl trivial ?_
  simp only [Try.ntmps12, List.size_toArray, List.length_cons, List.length_nil, Nat.reduceAdd, Nat.reduceSub, Array.replicate_succ, Array.replicate_zero, List.push_toArray, List.append_toArray, List.nil_append, List.cons_append]
  gi_wp2_with fail
  refine ⟨trivial, (callsIn_wide.2 (pairs_any _ _ _ _ _)).mono ?_⟩
  rintro e w6 ⟨rfl, hw6⟩
  gi_wp2_with fail
  clear hw6
  simp only [show w.heap.size + 1 + 1 + 1 + 1 + 1 = w.heap.size + 5 by omega, show w.heap.size + 1 + 1 + 1 + 1 = w.heap.size + 4 by omega, show w.heap.size + 1 + 1 + 1 = w.heap.size + 3 by omega, show w.heap.size + 1 + 1 = w.heap.size + 2 by omega]
  obtain ⟨W6, hW6⟩ : ∃ W6, W6 = ((((((w.alloc (.cells #[.slice kA kn kc] 24)).alloc (.cells #[.int .i64 0] 25)).alloc (.cells #[.slice none 0 0] 24)).alloc (.cells #[.bool false] 4)).alloc (.cells #[.slice A n c] 24)).alloc (.cells #[.pointer (some ⟨w.heap.size + 1, 0, none⟩)] 56)) := ⟨_, rfl⟩
  rw [← hW6]
  have hz6 : W6.heap.size = w.heap.size + 6 := by rw [hW6]; simp
  have HJ0 : Hid (JF w (.slice kA kn kc) key A n c (.slice none 0 0) false [] 0 W6) := Lib.hid (by
    have b0 : Below w.heap.size w W6 := by
      rw [hW6]
      exact ((((((Below.refl _ _).alloc (Nat.le_refl _) _).alloc (by simp) _).alloc (by simp; omega) _).alloc (by simp; omega) _).alloc (by simp; omega) _).alloc (by simp; omega) _
    have q : ∀ (X : World) (o p : Obj) (g : Nat), X.heap[g]? = some o → (X.alloc p).heap[g]? = some o := fun X o p g hg => (heap_alloc_old X p (Array.getElem?_eq_some_iff.1 hg).1).trans hg
    refine ⟨?_, ?_, ?_, ?_, ?_, ?_, by simp, b0, .inr ⟨rfl, rfl, rfl⟩⟩
    · rw [hW6]; exact q _ _ _ _ (q _ _ _ _ (q _ _ _ _ (q _ _ _ _ (q _ _ _ _ (heap_alloc_new w _)))))
    · rw [hW6, ← World.size_alloc w (.cells #[.slice kA kn kc] 24)]; exact q _ _ _ _ (q _ _ _ _ (q _ _ _ _ (q _ _ _ _ (heap_alloc_new _ _))))
    · rw [hW6, show w.heap.size + 2 = ((w.alloc (.cells #[.slice kA kn kc] 24)).alloc (.cells #[.int .i64 0] 25)).heap.size by simp]; exact q _ _ _ _ (q _ _ _ _ (q _ _ _ _ (heap_alloc_new _ _)))
    · rw [hW6, show w.heap.size + 3 = (((w.alloc (.cells #[.slice kA kn kc] 24)).alloc (.cells #[.int .i64 0] 25)).alloc (.cells #[.slice none 0 0] 24)).heap.size by simp]; exact q _ _ _ _ (q _ _ _ _ (heap_alloc_new _ _))
    · rw [hW6, show w.heap.size + 4 = ((((w.alloc (.cells #[.slice kA kn kc] 24)).alloc (.cells #[.int .i64 0] 25)).alloc (.cells #[.slice none 0 0] 24)).alloc (.cells #[.bool false] 4)).heap.size by simp]; exact q _ _ _ _ (heap_alloc_new _ _)
    · rw [hW6, show w.heap.size + 5 = (((((w.alloc (.cells #[.slice kA kn kc] 24)).alloc (.cells #[.int .i64 0] 25)).alloc (.cells #[.slice none 0 0] 24)).alloc (.cells #[.bool false] 4)).alloc (.cells #[.slice A n c] 24)).heap.size by simp]; exact heap_alloc_new _ _)
  clear hW6
  refine range_runs_box (gf := 36) (lb := #[.pointer (some ⟨w.heap.size + 4, 0, none⟩), .pointer (some ⟨w.heap.size + 5, 0, none⟩)]) rfl (enters_of Try.func36 (by kernel_rfl) rfl) (encs := encQ) (fun x => rfl)
    (fun rs W => ∃ u f, JF w (.slice kA kn kc) key A n c u f rs 0 W) (Nn xs (w.heap.size + 6) (fun rs e W => ∃ u f, JF w (.slice kA kn kc) key A n c u f rs e W)) (Fn xs (fun rs e W => ∃ u f, JF w (.slice kA kn kc) key A n c u f rs e W)) (by rw [hz6]; exact HIT.out _) ?stJ ?stN ?stF
    (BF xs w (.slice kA kn kc) key A n c) ?stB ?start
    (fun g r => { tmps := #[.slice A n c, .slice kA kn kc, undef, .pointer (some ⟨w.heap.size, 0, none⟩), .slice none 0 0, .bool false, .int .i64 0, .pointer (some ⟨w.heap.size + 1, 0, none⟩), .pointer (some ⟨w.heap.size + 2, 0, none⟩), .pointer (some ⟨w.heap.size + 3, 0, none⟩), .pointer (some ⟨g, 0, none⟩), .slice A n c, .func (.func 36) #[] #[.pointer (some ⟨w.heap.size + 4, 0, none⟩), .pointer (some ⟨w.heap.size + 5, 0, none⟩)], .agg #[r.kv, r.vv], undef, undef, undef, undef, undef, undef, undef, undef, undef, undef, undef], defers := [] }) ?assign ?body ?done
  case stJ =>
    rintro pre W k o o' hk hh ho ⟨u, f, hj⟩
    rw [hz6] at hk
    exact ⟨u, f, hj.put (by omega) hh ho⟩
  case stN =>
    rintro pre x W k o o' hk hh ho ⟨hs, ⟨u, f, hj⟩, h1, h2⟩
    rw [hz6] at hk
    exact ⟨hs, ⟨u, f, hj.put (by omega) hh ho⟩, h1.put hh ho, h2.put hh ho⟩
  case stF =>
    rintro W k o o' hk hh ho ⟨rs, e, hr, u, f, hj⟩
    rw [hz6] at hk
    exact ⟨rs, e, hr, u, f, hj.put (by omega) hh ho⟩
  case stB =>
    rintro pre x g W k o o' hk hh ho ⟨hs, ⟨u, f, hj⟩, h1, h2, h3⟩
    rw [hz6] at hk
    exact ⟨hs, ⟨u, f, hj.put (by omega) hh ho⟩, h1.put hh ho, h2.put hh ho, (put_cells hh ho _ _ _ _ h3).trans h3⟩
  case start =>
    intro o o'
    exact ⟨_, _, HJ0.out.low (((Below.refl _ _).alloc (Nat.le_refl _) _).alloc (by simp) _)⟩
  case assign =>
    rintro l pre r W K ⟨hs, ⟨u, f, hj⟩, h1, h2⟩ hK
    obtain ⟨kv, vv, p⟩ := r
    obtain ⟨Ak, mk, ck, rfl, _⟩ := h1.form
    obtain ⟨Av, mv, cv, rfl, _⟩ := h2.form
    have HKK := Lib.hid (hK (W.alloc (.cells #[.slice Ak mk ck, .slice Av mv cv] 42)) ((Below.refl _ W).alloc (Nat.le_refl _) _) ⟨hs, ⟨u, f, hj.low ((Below.refl _ W).alloc (Nat.le_refl _) _)⟩, h1.alloc _, h2.alloc _, heap_alloc_new W _⟩)
    clear hK hj h1 h2 hs
    unfold encQ
    gi_wp2
    exact HKK.out
  case body =>
    rintro l pre ⟨kv, vv, p⟩ g W ⟨⟨k, hs⟩, ⟨u, f, hj⟩, h1, h2, h3⟩
    dsimp only at hs h1 h2 h3 ⊢
    have HOR := Lib.hid hs.2.2.2.2.1
    obtain ⟨Ak, mk, ck, rfl, _, _, _, hrk, _⟩ := h1.form
    obtain ⟨Av, mv, cv, rfl, _⟩ := h2.form
    have hkb : W.cell? ⟨w.heap.size, 0, none⟩ = some (.slice kA kn kc) := by rw [cell_of_row _ _ _ _ _ _ hj.kb]; rfl
    have hg0 : W.cell? ⟨g, 0, none⟩ = some (.slice Ak mk ck) := by rw [cell_of_row _ _ _ _ _ _ h3]; rfl
    have hg1 : W.cell? ⟨g, 1, none⟩ = some (.slice Av mv cv) := by rw [cell_of_row _ _ _ _ _ _ h3]; rfl
    have hv0 : W.cell? ⟨w.heap.size + 2, 0, none⟩ = some u := by rw [cell_of_row _ _ _ _ _ _ hj.vb]; rfl
    have hvf : W.frozen? ⟨w.heap.size + 2, 0, none⟩ = false := by simp [World.frozen?, hj.vb]
    have hfb : (W.setCell ⟨w.heap.size + 2, 0, none⟩ (.slice Av mv cv)).heap[w.heap.size + 3]? = some (.cells #[.bool f] 4 (0, 0)) := (set_other _ _ _ _ hj.vb (by omega)).trans hj.fb
    have hf0 : (W.setCell ⟨w.heap.size + 2, 0, none⟩ (.slice Av mv cv)).cell? ⟨w.heap.size + 3, 0, none⟩ = some (.bool f) := by rw [cell_of_row _ _ _ _ _ _ hfb]; rfl
    have hff : (W.setCell ⟨w.heap.size + 2, 0, none⟩ (.slice Av mv cv)).frozen? ⟨w.heap.size + 3, 0, none⟩ = false := by simp [World.frozen?, hfb]
    have EQ := Lib.hid (Equal_any Ak mk ck p.key kA kn kc key W hrk (HK.out.below hj.bel))
    have HJ := Lib.hid hj
    have H12 := Lib.hid (And.intro h1 h2)
    clear hj hs h1 h2 h3 hrk hfb
    gi_wp2_with fail
    refine ⟨trivial, (CallsIn.inRound l (callsIn_wide.2 EQ.out)).mono ?_⟩
    rintro e w2 ⟨rfl, rfl⟩
    by_cases hkk : p.key = key
    · have HJ2 := Lib.hid (HJ.out.setFound (r := ⟨.slice Ak mk ck, .slice Av mv cv, p⟩) H12.out (Found.hit HOR.out hkk))
      have HKF := Lib.hid (show KeepsFrom (w.heap.size + 6) W ((W.setCell ⟨w.heap.size + 2, 0, none⟩ (.slice Av mv cv)).setCell ⟨w.heap.size + 3, 0, none⟩ (.bool true)) from ((KeepsOthers.setCell _ _ _).from _).trans ((KeepsOthers.setCell _ _ _).from _))
      rw [decide_eq_true hkk]
      clear EQ
      gi_wp2
      exact ⟨HKF.out, _, .inr HJ2.out⟩
    · have HJ2 := Lib.hid (HJ.out.more (r := ⟨.slice Ak mk ck, .slice Av mv cv, p⟩) H12.out hkk)
      rw [decide_eq_false hkk]
      clear EQ
      gi_wp2
      refine ⟨KeepsFrom.refl _ _, u, ?_⟩
      cases f
      · exact .inl HJ2.out
      · exact .inr HJ2.out
  case done =>
    rintro W ⟨rs, er, hr, u, f, hj⟩ hK
    have hy : W.cell? ⟨w.heap.size + 1, 0, none⟩ = some (.int .i64 er) := by rw [cell_of_row _ _ _ _ _ _ hj.why]; rfl
    have hv : W.cell? ⟨w.heap.size + 2, 0, none⟩ = some u := by rw [cell_of_row _ _ _ _ _ _ hj.vb]; rfl
    have hf : W.cell? ⟨w.heap.size + 3, 0, none⟩ = some (.bool f) := by rw [cell_of_row _ _ _ _ _ _ hj.fb]; rfl
    have hus : ∃ Au mu cu, u = .slice Au mu cu := by
      rcases hj.found with ⟨_, r, hm, rfl, _⟩ | ⟨_, rfl, _⟩
      · obtain ⟨A2, m2, c2, e, _⟩ := (hj.each r hm).2.form
        exact ⟨A2, m2, c2, e⟩
      · exact ⟨none, 0, 0, rfl⟩
    obtain ⟨Au, mu, cu, rfl⟩ := hus
    have HJ := Lib.hid hj
    have HKD := Lib.hid hK
    clear hj hK
    by_cases he : er = 0
    · subst he
      obtain ⟨val, hfo, hov⟩ := HJ.out.found.ends (w0 := w) HJ.out.each hr
      have HFO := Lib.hid hfo
      have HOV := Lib.hid hov
      clear hr hfo hov
      gi_wp2
      refine wpIn_wide.2 ?_
      go_quiet (fail)
      go_wp2
      have hk5 : (W.drewN nq).heap[W6.heap.size]? = some (.deferred (some [])) := HKD.out
      have HOV2 := Lib.hid ((HOV.out.drewN nq).put (o' := .deferred none) hk5 rfl)
      have hb5 := belowPut (below_drewN HJ.out.bel nq) (l := W6.heap.size) (by omega) (.deferred none)
      gi_wp2
      refine ⟨by simp, .inl ⟨_, _, rfl, run_takeDeferred hk5, ?_⟩⟩
      rw [HFO.out]
      exact ⟨_, results_tmp3 rfl _ _ _, _, rfl, HOV2.out.mono (by omega), hb5⟩
    · have HFO : Hid (findOf xs key = ([], false, er)) := Lib.hid (by unfold findOf; rw [hr, if_neg he])
      clear hr
      gi_wp2
      refine wpIn_wide.2 ?_
      go_quiet (fail)
      go_wp2
      have hk5 : (W.drewN nq).heap[W6.heap.size]? = some (.deferred (some [])) := HKD.out
      have hb5 := belowPut (below_drewN HJ.out.bel nq) (l := W6.heap.size) (by omega) (.deferred none)
      gi_wp2
      refine ⟨by simp, .inl ⟨_, _, rfl, run_takeDeferred hk5, ?_⟩⟩
      rw [HFO.out]
      exact ⟨_, results_tmp3 rfl _ _ _, _, rfl, OwnB.nil _ _, hb5⟩
end Go.Proofs.Ythaciglechijkaa
