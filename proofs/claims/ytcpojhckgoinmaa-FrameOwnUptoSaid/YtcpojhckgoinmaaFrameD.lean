/-
  What holds between the rounds of frame.All's loop.
-/
import Derived.Test.YtcpojhckgoinmaaFrameC
import Derived.Test.YtcpojhckgoinmaaRange
namespace Go.Proofs.Ytcpojhckgoinmaa
open Go.RowKit
set_option linter.unusedVariables false

/-- All's own cells, at B: the payloads, the place, the error; the two boxes of frames. -/
structure JJ (w0 : World) (A : Option Addr) (n c : Nat) (v : Value) (ps : List (List UInt8)) (k : Nat) (e : Int) (W : World) : Prop where
  out : W.heap[w0.heap.size]? = some (.cells #[v] 39 (0, 0))
  pl : W.heap[w0.heap.size + 1]? = some (.cells #[.int .i64 (k : Int)] 3 (0, 0))
  why : W.heap[w0.heap.size + 2]? = some (.cells #[.int .i64 e] 29 (0, 0))
  box : W.heap[w0.heap.size + 3]? = some (.cells #[.slice A n c] 22 (0, 0))
  ptr : W.heap[w0.heap.size + 4]? = some (.cells #[.pointer (some ⟨w0.heap.size + 2, 0, none⟩)] 53 (0, 0))
  own : OwnP W (w0.heap.size + 5) v ps
  bel : Below w0.heap.size w0 W
theorem OwnP.same {w w' : World} {base : Nat} {v : Value} {ps : List (List UInt8)} (h : OwnP w base v ps) (hs : ∀ g cs t fr, base ≤ g → w.heap[g]? = some (.cells cs t fr) → w'.heap[g]? = w.heap[g]?) : OwnP w' base v ps := by
  obtain ⟨vs, hr, hl, hi⟩ := h
  refine ⟨vs, ⟨hr.1, ?_⟩, hl, fun j hj => ?_⟩
  · rcases hr.2 with h2 | ⟨g, cap, cur, hv, hg, hh, r⟩
    · exact .inl h2
    · exact .inr ⟨g, cap, cur, hv, hg, by rw [hs g _ _ _ hg hh]; exact hh, r⟩
  · obtain ⟨u, h1, h2, h3⟩ := hi j hj
    refine ⟨u, h1, ⟨h2.1, ?_⟩, h3⟩
    rcases h2.2 with h4 | ⟨b, cap, cur, hv, hb, hh, r⟩
    · exact .inl h4
    · exact .inr ⟨b, cap, cur, hv, hb, by rw [hs b _ _ _ hb hh]; exact hh, r⟩
theorem put_cells {W : World} {l : Nat} {o o' : Obj} (h : W.heap[l]? = some o) (ho : o.isCells = false) (g : Nat) (cs : Array Value) (t : TypeId) (fr : Nat × Nat) (hg : W.heap[g]? = some (.cells cs t fr)) : (W.putObj l o').heap[g]? = W.heap[g]? := by
  have hne : g ≠ l := by
    rintro rfl
    rw [h] at hg
    cases hg
    cases ho
  exact World.putObj_heap_other hne
theorem JJ.put {w0 : World} {A : Option Addr} {n c : Nat} {v : Value} {ps : List (List UInt8)} {k : Nat} {e : Int} {W : World} (h : JJ w0 A n c v ps k e W) {l : Nat} {o o' : Obj} (hl : w0.heap.size + 5 ≤ l) (hh : W.heap[l]? = some o) (ho : o.isCells = false) : JJ w0 A n c v ps k e (W.putObj l o') :=
  ⟨(put_cells hh ho _ _ _ _ h.out).trans h.out, (put_cells hh ho _ _ _ _ h.pl).trans h.pl, (put_cells hh ho _ _ _ _ h.why).trans h.why, (put_cells hh ho _ _ _ _ h.box).trans h.box, (put_cells hh ho _ _ _ _ h.ptr).trans h.ptr,
    h.own.same fun g cs t fr _ hg => put_cells hh ho g cs t fr hg,
    h.bel.grown (grownBy_putObj' W l o') (by have := (Array.getElem?_eq_some_iff.1 hh).1; omega) (fun k e => by cases e; omega)⟩
theorem JJ.below {w0 : World} {A : Option Addr} {n c : Nat} {v : Value} {ps : List (List UInt8)} {k : Nat} {e : Int} {W W' : World} (h : JJ w0 A n c v ps k e W) (hb : Below W.heap.size W W') : JJ w0 A n c v ps k e W' := by
  have hl := fun (g : Nat) (o : Obj) (hg : W.heap[g]? = some o) => (Array.getElem?_eq_some_iff.1 hg).1
  exact ⟨(hb.block _ (hl _ _ h.out)).trans h.out, (hb.block _ (hl _ _ h.pl)).trans h.pl, (hb.block _ (hl _ _ h.why)).trans h.why, (hb.block _ (hl _ _ h.box)).trans h.box, (hb.block _ (hl _ _ h.ptr)).trans h.ptr, h.own.below hb, h.bel.trans (hb.mono h.bel.size)⟩
theorem set_other {W : World} {b i g : Nat} (x : Value) (cs : Array Value) (t : TypeId) (fr : Nat × Nat) (hb : W.heap[b]? = some (.cells cs t fr)) (hne : g ≠ b) : (W.setCell ⟨b, i, none⟩ x).heap[g]? = W.heap[g]? := by
  rw [setCell_eq_setRow W b i _ _ _ _ hb]; exact setRow_other _ _ _ _ hne
theorem JJ.setWhy {w0 : World} {A : Option Addr} {n c : Nat} {v : Value} {ps : List (List UInt8)} {k : Nat} {e : Int} {W : World} (h : JJ w0 A n c v ps k e W) (e' : Int) : JJ w0 A n c v ps k e' (W.setCell ⟨w0.heap.size + 2, 0, none⟩ (.int .i64 e')) := by
  have ho := fun (g : Nat) (hne : g ≠ w0.heap.size + 2) => set_other (g := g) (i := 0) (.int .i64 e') _ _ _ h.why hne
  exact ⟨(ho _ (by omega)).trans h.out, (ho _ (by omega)).trans h.pl, by rw [setCell_eq_setRow W _ 0 _ _ _ _ h.why]; exact setRow_heap _ _ _ _ _ _ h.why, (ho _ (by omega)).trans h.box, (ho _ (by omega)).trans h.ptr,
    h.own.same fun g _ _ _ hg _ => ho g (by omega), h.bel.setCell (p := ⟨w0.heap.size + 2, 0, none⟩) (by simp) _⟩
theorem JJ.setPlace {w0 : World} {A : Option Addr} {n c : Nat} {v : Value} {ps : List (List UInt8)} {k : Nat} {e : Int} {W : World} (h : JJ w0 A n c v ps k e W) (k' : Nat) : JJ w0 A n c v ps k' e (W.setCell ⟨w0.heap.size + 1, 0, none⟩ (.int .i64 (k' : Int))) := by
  have ho := fun (g : Nat) (hne : g ≠ w0.heap.size + 1) => set_other (g := g) (i := 0) (.int .i64 (k' : Int)) _ _ _ h.pl hne
  exact ⟨(ho _ (by omega)).trans h.out, by rw [setCell_eq_setRow W _ 0 _ _ _ _ h.pl]; exact setRow_heap _ _ _ _ _ _ h.pl, (ho _ (by omega)).trans h.why, (ho _ (by omega)).trans h.box, (ho _ (by omega)).trans h.ptr,
    h.own.same fun g _ _ _ hg _ => ho g (by omega), h.bel.setCell (p := ⟨w0.heap.size + 1, 0, none⟩) (by simp) _⟩
/-- The row of payloads grown and laid. -/
theorem JJ.setOut {w0 : World} {A : Option Addr} {n c : Nat} {v v' : Value} {ps ps' : List (List UInt8)} {k : Nat} {e : Int} {W W' : World} (h : JJ w0 A n c v ps k e W) (hb : Below (w0.heap.size + 5) W W') (hown : OwnP W' (w0.heap.size + 5) v' ps') : JJ w0 A n c v' ps' k e (W'.setCell ⟨w0.heap.size, 0, none⟩ v') := by
  have e0 := (hb.block w0.heap.size (by omega)).trans h.out
  have e1 := (hb.block (w0.heap.size + 1) (by omega)).trans h.pl
  have e2 := (hb.block (w0.heap.size + 2) (by omega)).trans h.why
  have e3 := (hb.block (w0.heap.size + 3) (by omega)).trans h.box
  have e4 := (hb.block (w0.heap.size + 4) (by omega)).trans h.ptr
  have ho := fun (g : Nat) (hne : g ≠ w0.heap.size) => set_other (g := g) (i := 0) v' _ _ _ e0 hne
  exact ⟨by rw [setCell_eq_setRow W' _ 0 _ _ _ _ e0]; exact setRow_heap _ _ _ _ _ _ e0, (ho _ (by omega)).trans e1, (ho _ (by omega)).trans e2, (ho _ (by omega)).trans e3, (ho _ (by omega)).trans e4,
    hown.same fun g _ _ _ hg _ => ho g (by omega), (h.bel.trans (hb.mono (by omega))).setCell (p := ⟨w0.heap.size, 0, none⟩) (by simp) _⟩
/-- A round's values: the place behind, the payload's slice, the payload. -/
abbrev Rnd := Nat × Value × List UInt8
def psOf (pre : List Rnd) : List (List UInt8) := pre.map fun x => x.2.2
def kOf (pre : List Rnd) : Nat := (pre.getLast?.map fun x => x.1).getD 0
theorem psOf_snoc (pre : List Rnd) (x : Rnd) : psOf (pre ++ [x]) = psOf pre ++ [x.2.2] := by simp [psOf]
theorem kOf_snoc (pre : List Rnd) (x : Rnd) : kOf (pre ++ [x]) = x.1 := by simp [kOf]
def encR (x : Rnd) : Array Value := #[.int .i64 (x.1 : Int), x.2.1]
def Jn (w0 : World) (A : Option Addr) (n c : Nat) (xs : List UInt8) (pre : List Rnd) (W : World) : Prop := ∃ v e, Stands xs (psOf pre) (kOf pre) ∧ JJ w0 A n c v (psOf pre) (kOf pre) e W
def Nn (w0 : World) (A : Option Addr) (n c : Nat) (xs : List UInt8) (pre : List Rnd) (x : Rnd) (W : World) : Prop :=
  ∃ v, Stands xs (psOf pre ++ [x.2.2]) x.1 ∧ JJ w0 A n c v (psOf pre) (kOf pre) 0 W ∧ OwnB W (w0.heap.size + 5) x.2.1 x.2.2 ∧ (x.2.1.ownBlock ≠ none → x.2.1.ownBlock ≠ v.ownBlock)
def Fn (w0 : World) (A : Option Addr) (n c : Nat) (xs : List UInt8) (W : World) : Prop := ∃ v ps k, Stands xs ps k ∧ JJ w0 A n c v ps k (rd xs k).2.2 W ∧ (rd xs k).2.2 ≠ 0
end Go.Proofs.Ytcpojhckgoinmaa
