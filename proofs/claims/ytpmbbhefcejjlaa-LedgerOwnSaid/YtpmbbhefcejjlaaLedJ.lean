/-
  Postings as they lie in memory. No statement is proved here.
-/
import Derived.Test.YtpmbbhefcejjlaaLedM
import Derived.Test.YtpmbbhefcejjlaaLedW7
namespace Go.Proofs.Ytpmbbhefcejjlaa
open Go.RowKit
set_option linter.unusedVariables false

/-- A posting. -/
structure PV where
  num : Int
  day : Int
  loan : ByteArray
  lines : List (Int × Int)
theorem heap_lt' {w : World} {g : Nat} {o : Obj} (h : w.heap[g]? = some o) : g < w.heap.size := (Array.getElem?_eq_some_iff.1 h).1
/-- A slice of postings. -/
structure RdP (w : World) (A : Option Addr) (n : Nat) (ps : List PV) : Prop where
  len : ps.length = n
  ex : 0 < n → ∃ b off, A = some ⟨b, off, none⟩ ∧ ∀ j (hj : j < ps.length), ∃ Al ml cl, w.cell? ⟨b, off + j * 4, none⟩ = some (.int .i64 ps[j].num) ∧ w.cell? ⟨b, off + j * 4 + 1, none⟩ = some (.int .i64 ps[j].day) ∧ w.cell? ⟨b, off + j * 4 + 2, none⟩ = some (.string ps[j].loan) ∧ w.cell? ⟨b, off + j * 4 + 3, none⟩ = some (.slice Al ml cl) ∧
    RdL w Al ml ps[j].lines ∧ ml ≤ cl
theorem RdP.below {w w' : World} {A : Option Addr} {n : Nat} {ps : List PV} (h : RdP w A n ps) (hb : Below w.heap.size w w') : RdP w' A n ps := by
  refine ⟨h.len, fun hn => ?_⟩
  obtain ⟨b, off, e, hc⟩ := h.ex hn
  have lift : ∀ q u, w.cell? ⟨b, q, none⟩ = some u → w'.cell? ⟨b, q, none⟩ = some u := fun q u hu =>
    (hb.cell (p := ⟨b, q, none⟩) (World.block_lt_of_cell? w ⟨b, q, none⟩ hu)).trans hu
  refine ⟨b, off, e, fun j hj => ?_⟩
  obtain ⟨Al, ml, cl, h1, h2, h3, h4, h5, h6⟩ := hc j hj
  exact ⟨Al, ml, cl, lift _ _ h1, lift _ _ h2, lift _ _ h3, lift _ _ h4, h5.below hb, h6⟩
/-- A posting as it lies: its slice of lines, what it reads as. -/
structure PR where
  lv : Value
  p : PV
def pvs (qs : List PR) : List PV := qs.map PR.p
theorem pvs_snoc (qs : List PR) (q : PR) : pvs (qs ++ [q]) = pvs qs ++ [q.p] := by simp [pvs]
theorem pvs_len (qs : List PR) : (pvs qs).length = qs.length := by simp [pvs]
def prow (q : PR) : List Value := [.int .i64 q.p.num, .int .i64 q.p.day, .string q.p.loan, q.lv]
def prows (qs : List PR) : List Value := qs.flatMap prow
theorem prows_len (qs : List PR) : (prows qs).length = qs.length * 4 := by
  induction qs with
  | nil => rfl
  | cons q qs ih => simp [prows, prow] at ih ⊢; omega
theorem prows_snoc (qs : List PR) (q : PR) : prows (qs ++ [q]) = prows qs ++ prow q := by simp [prows]
theorem prows_at (qs : List PR) (j : Nat) (hj : j < qs.length) : (prows qs)[j * 4]? = some (.int .i64 qs[j].p.num) ∧ (prows qs)[j * 4 + 1]? = some (.int .i64 qs[j].p.day) ∧ (prows qs)[j * 4 + 2]? = some (.string qs[j].p.loan) ∧ (prows qs)[j * 4 + 3]? = some qs[j].lv := by
  induction qs generalizing j with
  | nil => simp at hj
  | cons q qs ih =>
    cases j with
    | zero => simp [prows, prow]
    | succ j =>
      have h := ih j (by simpa using hj)
      have e : ∀ r, (prows (q :: qs))[(j + 1) * 4 + r]? = (prows qs)[j * 4 + r]? := fun r => by
        rw [show prows (q :: qs) = prow q ++ prows qs from rfl, List.getElem?_append_right (by simp [prow]; omega)]
        congr 1
        simp [prow]
        omega
      have e0 := e 0
      rw [Nat.add_zero, Nat.add_zero] at e0
      rw [e0, e 1, e 2, e 3]
      simpa using h
/-- Postings in a row of the call's own, their lines in rows of the call's own. -/
structure OwnJ (w : World) (base : Nat) (v : Value) (qs : List PR) : Prop where
  row : w.ownsRow base 49 4 v qs.length (prows qs)
  each : ∀ q ∈ qs, OwnL w base q.lv q.p.lines
theorem OwnJ.nil (w : World) (base : Nat) : OwnJ w base (.slice none 0 0) [] := ⟨World.ownsRow_nil w base _ 4, by simp⟩
theorem ownsRow_same {w w' : World} {base e sz n : Nat} {v : Value} {xs : List Value} (h : w.ownsRow base e sz v n xs) (hs : ∀ g cs fr, base ≤ g → v.ownBlock = some g → w.heap[g]? = some (.cells cs e fr) → w'.heap[g]? = w.heap[g]?) : w'.ownsRow base e sz v n xs := by
  refine ⟨h.1, ?_⟩
  rcases h.2 with h2 | ⟨g, cap, cur, rfl, hg, hh, r⟩
  · exact .inl h2
  · exact .inr ⟨g, cap, cur, rfl, hg, by rw [hs g _ _ hg rfl hh]; exact hh, r⟩
/-- The blocks of postings: their row, the rows of their lines. -/
def Blk (v : Value) (qs : List PR) (k : Nat) : Prop := v.ownBlock = some k ∨ ∃ q ∈ qs, q.lv.ownBlock = some k
theorem OwnJ.same {w w' : World} {base : Nat} {v : Value} {qs : List PR} (h : OwnJ w base v qs) (hs : ∀ g, Blk v qs g → w'.heap[g]? = w.heap[g]?) : OwnJ w' base v qs :=
  ⟨ownsRow_same h.row fun g cs fr hg hv _ => hs g (.inl hv), fun q hq => ownsRow_same (h.each q hq) fun g cs fr hg hv _ => hs g (.inr ⟨q, hq, hv⟩)⟩
theorem row_block {w : World} {base e sz n : Nat} {v : Value} {xs : List Value} (h : w.ownsRow base e sz v n xs) {g : Nat} (hg : v.ownBlock = some g) : base ≤ g ∧ g < w.heap.size ∧ ∃ cs, w.heap[g]? = some (.cells cs e (0, 0)) := by
  rcases h.2 with ⟨rfl, _⟩ | ⟨b, cap, cur, rfl, hb, hh, _⟩
  · simp [Value.ownBlock] at hg
  · simp [Value.ownBlock] at hg
    subst hg
    exact ⟨hb, heap_lt' hh, _, hh⟩
theorem OwnJ.blk {w : World} {base : Nat} {v : Value} {qs : List PR} (h : OwnJ w base v qs) {k : Nat} (hk : Blk v qs k) : base ≤ k ∧ k < w.heap.size := by
  rcases hk with hk | ⟨q, hq, hk⟩
  · obtain ⟨h1, h2, _⟩ := row_block h.row hk
    exact ⟨h1, h2⟩
  · obtain ⟨h1, h2, _⟩ := row_block (h.each q hq) hk
    exact ⟨h1, h2⟩
theorem OwnJ.below {w w' : World} {base : Nat} {v : Value} {qs : List PR} (h : OwnJ w base v qs) (hb : Below w.heap.size w w') : OwnJ w' base v qs :=
  h.same fun g hg => hb.block g (h.blk hg).2
theorem row_lower {w : World} {base base' e sz n : Nat} {v : Value} {xs : List Value} (h : w.ownsRow base e sz v n xs) (hb : base' ≤ base) : w.ownsRow base' e sz v n xs := by
  refine ⟨h.1, ?_⟩
  rcases h.2 with h2 | ⟨g, cap, cur, hv, hg, r⟩
  · exact .inl h2
  · exact .inr ⟨g, cap, cur, hv, Nat.le_trans hb hg, r⟩
theorem OwnJ.lower {w : World} {base base' : Nat} {v : Value} {qs : List PR} (h : OwnJ w base v qs) (hb : base' ≤ base) : OwnJ w base' v qs :=
  ⟨row_lower h.row hb, fun q hq => row_lower (h.each q hq) hb⟩
theorem OwnJ.form {w : World} {base : Nat} {v : Value} {qs : List PR} (h : OwnJ w base v qs) : ∃ A c, v = .slice A qs.length c ∧ qs.length ≤ c ∧ RdP w A qs.length (pvs qs) ∧ (∀ a, A = some a → ∃ g, a = ⟨g, 0, none⟩ ∧ base ≤ g ∧ g < w.heap.size) := by
  rcases h.row.2 with ⟨rfl, hn⟩ | ⟨g, cap, cur, rfl, hg, hh, hc, hm, r⟩
  · obtain rfl := List.eq_nil_of_length_eq_zero hn
    exact ⟨none, 0, rfl, Nat.le_refl _, ⟨rfl, fun h => by simp at h⟩, fun a e => by cases e⟩
  · refine ⟨_, cap, rfl, hc, ⟨pvs_len qs, fun hn => ⟨g, 0, rfl, fun j hj => ?_⟩⟩, fun a e => ⟨g, by injection e with e; exact e.symm, hg, heap_lt' hh⟩⟩
    rw [pvs_len] at hj
    have hrd : Rd w 4 (some ⟨g, 0, none⟩) qs.length (prows qs) := Rd.of_own (c := cap) h.row
    obtain ⟨b, off, e, hcl⟩ := hrd.2 (by rw [prows_len]; omega)
    injection e with e
    injection e with e1 e2
    subst e1 e2
    obtain ⟨c0, c1, c2, c3⟩ := prows_at qs j hj
    obtain ⟨Al, ml, cl, el, _, hl, _, hrl, _⟩ := (h.each qs[j] (List.getElem_mem hj)).form
    have e0 := hcl _ _ c0
    have e1 := hcl _ _ c1
    have e2 := hcl _ _ c2
    have e3 := hcl _ _ c3
    rw [el] at e3
    have ep : (pvs qs)[j]'(by rw [pvs_len]; exact hj) = qs[j].p := by simp [pvs]
    rw [ep]
    exact ⟨Al, ml, cl, e0, by rw [← e1, Nat.add_assoc], by rw [← e2, Nat.add_assoc], by rw [← e3, Nat.add_assoc], hrl, hl⟩
theorem OwnL.grown {w w' : World} {base base' sz n : Nat} {v u : Value} {vs : List Value} {ls : List (Int × Int)} (h : OwnL w base' u ls) (hr : w.ownsRow base 49 sz v n vs) (hg : w.grownBy w' v.ownBlock) : OwnL w' base' u ls := by
  refine ownsRow_same h fun g cs fr _ _ hh => hg.block g (heap_lt' hh) ?_
  intro e
  obtain ⟨_, _, cs', h2⟩ := row_block hr e.symm
  rw [hh] at h2
  injection h2 with h3
  injection h3 with _ h4
  exact absurd h4 (by decide)
theorem prow_one {w : World} {base : Nat} {q : PR} (h : OwnL w base q.lv q.p.lines) : ∀ u ∈ prow q, u.oneCell' = true := by
  obtain ⟨A, m, c, e, _⟩ := h.form
  intro u hu
  simp only [prow, List.mem_cons, List.not_mem_nil, or_false] at hu
  rcases hu with rfl | rfl | rfl | rfl
  · rfl
  · rfl
  · rfl
  · rw [e]; rfl
/-- append, of one posting, onto postings of the call's own. -/
theorem app_j {ops : Array Oper} {rest : List Oper} {o : Oper} {a : Act} {Q : Exit → Act → World → Prop} {w : World} (hgd : o.guard = none) (s x : Operand)
    (ho : o.op = .call { callee := .builtin .append, args := #[s, x], argTypes := #[42, 42] })
    (base : Nat) (v : Value) (qs : List PR) (hs : a.eval s = v) (hown : OwnJ w base v qs) (q : PR) (hl : OwnL w base q.lv q.p.lines)
    (hx : a.eval x = .slice (some ⟨w.heap.size, 0, none⟩) 1 1) (hlen : qs.length ≤ 900000) (hbase : base ≤ w.heap.size)
    (h : ∀ v' w', OwnJ w' base v' (qs ++ [q]) → Below base w w' → wpList Try.prog ops Q rest (a.put o.dst v') w') : wpList Try.prog ops Q (o :: rest) a (w.alloc (.cells #[.int .i64 q.p.num, .int .i64 q.p.day, .string q.p.loan, q.lv] 49)) := by
  have hba : Below w.heap.size w (w.alloc (.cells #[.int .i64 q.p.num, .int .i64 q.p.day, .string q.p.loan, q.lv] 49)) := (Below.refl _ _).alloc (Nat.le_refl _) _
  have hrow := (hown.below hba).row
  have hown2 := hown.below hba
  have hl2 : OwnL _ base q.lv q.p.lines := hl.below hba
  refine app_post hgd s x ho base v qs.length (prows qs) hs hrow _ 1 1 (prow q) hx (rd_lit w 4 1 _ rfl _) (prow_one hl) (by omega) (by simp; omega) fun v' w' hown' hb hg => ?_
  refine h v' w' ⟨?_, fun r hr => ?_⟩ (((Below.refl base w).alloc hbase _).trans hb)
  · rw [List.length_append, prows_snoc]; exact hown'
  · rcases List.mem_append.1 hr with h1 | h1
    · exact (hown2.each r h1).grown hrow hg
    · obtain rfl : r = q := by simpa using h1
      exact hl2.grown hrow hg
end Go.Proofs.Ytpmbbhefcejjlaa
