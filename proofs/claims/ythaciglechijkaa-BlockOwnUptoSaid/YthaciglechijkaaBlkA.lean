/-
  Slices of pairs: those that are handed in, those that a call owns. No statement is proved here.
-/
import Derived.Test.YthaciglechijkaaBlkW
namespace Go.Proofs.Ythaciglechijkaa
open Go.RowKit
set_option linter.unusedVariables false

theorem infoPair : (Try.prog.info? 42).map (fun i => (i.zero, i.size, i.bytes)) = some (some (.agg #[.slice none 0 0, .slice none 0 0]), 2, 48) := by kernel_rfl
theorem heap_lt' {w : World} {g : Nat} {o : Obj} (h : w.heap[g]? = some o) : g < w.heap.size := (Array.getElem?_eq_some_iff.1 h).1
/-- A slice of pairs. -/
structure RdQ (w : World) (A : Option Addr) (n : Nat) (ps : List PairV) : Prop where
  len : ps.length = n
  ex : 0 < n → ∃ b off, A = some ⟨b, off, none⟩ ∧ ∀ j (hj : j < ps.length), ∃ Ak mk ck Av mv cv, w.cell? ⟨b, off + j * 2, none⟩ = some (.slice Ak mk ck) ∧ w.cell? ⟨b, off + j * 2 + 1, none⟩ = some (.slice Av mv cv) ∧
    RdB w Ak mk ps[j].key ∧ RdB w Av mv ps[j].val ∧ mk ≤ ck ∧ mv ≤ cv
theorem RdQ.below {w w' : World} {A : Option Addr} {n : Nat} {ps : List PairV} (h : RdQ w A n ps) (hb : Below w.heap.size w w') : RdQ w' A n ps := by
  refine ⟨h.len, fun hn => ?_⟩
  obtain ⟨b, off, e, hc⟩ := h.ex hn
  have lift : ∀ q u, w.cell? ⟨b, q, none⟩ = some u → w'.cell? ⟨b, q, none⟩ = some u := fun q u hu =>
    (hb.cell (p := ⟨b, q, none⟩) (World.block_lt_of_cell? w ⟨b, q, none⟩ hu)).trans hu
  refine ⟨b, off, e, fun j hj => ?_⟩
  obtain ⟨Ak, mk, ck, Av, mv, cv, h1, h2, h3, h4, h5, h6⟩ := hc j hj
  exact ⟨Ak, mk, ck, Av, mv, cv, lift _ _ h1, lift _ _ h2, h3.below hb, h4.below hb, h5, h6⟩
/-- A pair as it lies: its two slices, what they read as. -/
structure PairR where
  kv : Value
  vv : Value
  p : PairV
def psOf (rs : List PairR) : List PairV := rs.map PairR.p
theorem psOf_snoc (rs : List PairR) (r : PairR) : psOf (rs ++ [r]) = psOf rs ++ [r.p] := by simp [psOf]
theorem psOf_len (rs : List PairR) : (psOf rs).length = rs.length := by simp [psOf]
def cellsQ (rs : List PairR) : List Value := rs.flatMap fun r => [r.kv, r.vv]
theorem cellsQ_len (rs : List PairR) : (cellsQ rs).length = rs.length * 2 := by
  induction rs with
  | nil => rfl
  | cons p ps ih => unfold cellsQ at *; rw [List.flatMap_cons, List.length_append, ih]; simp; omega
theorem cellsQ_snoc (rs : List PairR) (r : PairR) : cellsQ (rs ++ [r]) = cellsQ rs ++ [r.kv, r.vv] := by simp [cellsQ]
theorem cellsQ_at (rs : List PairR) (j : Nat) (hj : j < rs.length) : (cellsQ rs)[j * 2]? = some rs[j].kv ∧ (cellsQ rs)[j * 2 + 1]? = some rs[j].vv := by
  induction rs generalizing j with
  | nil => simp at hj
  | cons r rs ih =>
    have e : cellsQ (r :: rs) = r.kv :: r.vv :: cellsQ rs := rfl
    rw [e]
    cases j with
    | zero => exact ⟨rfl, rfl⟩
    | succ j =>
      rw [show (j + 1) * 2 = j * 2 + 1 + 1 by omega]
      exact ih j (by simpa using hj)
/-- Pairs that a call owns: the row, each key and each value in memory of the call's own. -/
structure OwnQ (w : World) (base : Nat) (v : Value) (rs : List PairR) : Prop where
  row : w.ownsRow base 42 2 v rs.length (cellsQ rs)
  each : ∀ r ∈ rs, OwnB w base r.kv r.p.key ∧ OwnB w base r.vv r.p.val
theorem OwnQ.nil (w : World) (base : Nat) : OwnQ w base (.slice none 0 0) [] := ⟨World.ownsRow_nil w base _ 2, by simp⟩
theorem OwnQ.alloc {w : World} {base : Nat} {v : Value} {rs : List PairR} (h : OwnQ w base v rs) (o : Obj) : OwnQ (w.alloc o) base v rs :=
  ⟨World.ownsRow.alloc h.row o, fun r hr => ⟨(h.each r hr).1.alloc o, (h.each r hr).2.alloc o⟩⟩
theorem ownsRow_same {w w' : World} {base e sz n : Nat} {v : Value} {xs : List Value} (h : w.ownsRow base e sz v n xs) (hs : ∀ g cs fr, base ≤ g → w.heap[g]? = some (.cells cs e fr) → w'.heap[g]? = w.heap[g]?) : w'.ownsRow base e sz v n xs := by
  refine ⟨h.1, ?_⟩
  rcases h.2 with h2 | ⟨g, cap, cur, hv, hg, hh, r⟩
  · exact .inl h2
  · exact .inr ⟨g, cap, cur, hv, hg, by rw [hs g _ _ hg hh]; exact hh, r⟩
/-- What leaves all cells at base or beyond leaves it. -/
theorem OwnQ.same {w w' : World} {base : Nat} {v : Value} {rs : List PairR} (h : OwnQ w base v rs) (hs : ∀ g cs t fr, base ≤ g → (t = 42 ∨ t = 5) → w.heap[g]? = some (.cells cs t fr) → w'.heap[g]? = w.heap[g]?) : OwnQ w' base v rs :=
  ⟨ownsRow_same h.row fun g cs fr hg => hs g cs _ fr hg (.inl rfl), fun r hr => ⟨ownsRow_same (h.each r hr).1 fun g cs fr hg => hs g cs _ fr hg (.inr rfl), ownsRow_same (h.each r hr).2 fun g cs fr hg => hs g cs _ fr hg (.inr rfl)⟩⟩
theorem OwnQ.below {w w' : World} {base : Nat} {v : Value} {rs : List PairR} (h : OwnQ w base v rs) (hb : Below w.heap.size w w') : OwnQ w' base v rs :=
  h.same fun g cs t fr _ _ hg => hb.block g (heap_lt' hg)
theorem OwnQ.lower {w : World} {base base' : Nat} {v : Value} {rs : List PairR} (h : OwnQ w base v rs) (hb : base' ≤ base) : OwnQ w base' v rs := by
  refine ⟨⟨h.row.1, ?_⟩, fun r hr => ⟨(h.each r hr).1.mono hb, (h.each r hr).2.mono hb⟩⟩
  rcases h.row.2 with h2 | ⟨g, cap, cur, hv, hg, r⟩
  · exact .inl h2
  · exact .inr ⟨g, cap, cur, hv, Nat.le_trans hb hg, r⟩
theorem OwnQ.form {w : World} {base : Nat} {v : Value} {rs : List PairR} (h : OwnQ w base v rs) : ∃ A c, v = .slice A rs.length c ∧ rs.length ≤ c ∧ RdQ w A rs.length (psOf rs) ∧ (∀ a, A = some a → ∃ g, a = ⟨g, 0, none⟩ ∧ base ≤ g ∧ g < w.heap.size) := by
  rcases h.row.2 with ⟨rfl, hn⟩ | ⟨g, cap, cur, rfl, hg, hh, hc, hm, r⟩
  · obtain rfl := List.eq_nil_of_length_eq_zero hn
    exact ⟨none, 0, rfl, Nat.le_refl _, ⟨rfl, fun h => by simp at h⟩, fun a e => by cases e⟩
  · refine ⟨_, cap, rfl, hc, ⟨psOf_len rs, fun hn => ⟨g, 0, rfl, fun j hj => ?_⟩⟩, fun a e => ⟨g, by injection e with e; exact e.symm, hg, heap_lt' hh⟩⟩
    rw [psOf_len] at hj
    have hrd : Rd w 2 (some ⟨g, 0, none⟩) rs.length (cellsQ rs) := Rd.of_own (c := cap) h.row
    obtain ⟨b, off, e, hcl⟩ := hrd.2 (by rw [cellsQ_len]; omega)
    injection e with e
    injection e with e1 e2
    subst e1 e2
    obtain ⟨c0, c1⟩ := cellsQ_at rs j hj
    obtain ⟨ho1, ho2⟩ := h.each rs[j] (List.getElem_mem hj)
    obtain ⟨Ak, mk, ck, ek, _, hk, _, hrk, _⟩ := ho1.form
    obtain ⟨Av, mv, cv, ev, _, hv, _, hrv, _⟩ := ho2.form
    have e1 := hcl _ _ c0
    have e2 := hcl _ _ c1
    rw [ek] at e1
    rw [ev] at e2
    have ep : (psOf rs)[j]'(by rw [psOf_len]; exact hj) = rs[j].p := by simp [psOf]
    refine ⟨Ak, mk, ck, Av, mv, cv, e1, ?_, by rw [ep]; exact hrk, by rw [ep]; exact hrv, hk, hv⟩
    rw [← e2, Nat.add_assoc]
theorem OwnB.ofType {w : World} {base g : Nat} {v : Value} {xs : List UInt8} (h : OwnB w base v xs) (hg : v.ownBlock = some g) : ∃ cs, w.heap[g]? = some (.cells cs 5 (0, 0)) := by
  rcases h.2 with ⟨rfl, _⟩ | ⟨b, cap, cur, rfl, hb, hh, _⟩
  · simp [Value.ownBlock] at hg
  · simp [Value.ownBlock] at hg
    subst hg
    exact ⟨_, hh⟩
theorem row_ofType {w : World} {base g e sz n : Nat} {v : Value} {xs : List Value} (h : w.ownsRow base e sz v n xs) (hg : v.ownBlock = some g) : ∃ cs, w.heap[g]? = some (.cells cs e (0, 0)) := by
  rcases h.2 with ⟨rfl, _⟩ | ⟨b, cap, cur, rfl, hb, hh, _⟩
  · simp [Value.ownBlock] at hg
  · simp [Value.ownBlock] at hg
    subst hg
    exact ⟨_, hh⟩
/-- Bytes of the call's own stay where a row of pairs grows. -/
theorem OwnB.grown {w w' : World} {base base' sz n : Nat} {v u : Value} {vs : List Value} {xs : List UInt8} (h : OwnB w base' u xs) (hr : w.ownsRow base 42 sz v n vs) (hg : w.grownBy w' v.ownBlock) : OwnB w' base' u xs := by
  refine ownsRow_same h fun g cs fr _ hh => hg.block g (heap_lt' hh) ?_
  intro e
  obtain ⟨cs', h2⟩ := row_ofType hr e.symm
  rw [hh] at h2
  injection h2 with h3
  injection h3 with _ h4
  exact absurd h4 (by decide)
theorem OwnQ.snoc {w w' : World} {base : Nat} {v v' : Value} {rs : List PairR} {r : PairR} (h : OwnQ w base v rs) (hk : OwnB w base r.kv r.p.key) (hv : OwnB w base r.vv r.p.val)
    (hr : w'.ownsRow base 42 2 v' (rs.length + 1) (cellsQ rs ++ [r.kv, r.vv])) (hg : w.grownBy w' v.ownBlock) : OwnQ w' base v' (rs ++ [r]) := by
  refine ⟨?_, fun q hq => ?_⟩
  · rw [List.length_append, cellsQ_snoc]; exact hr
  · rcases List.mem_append.1 hq with h1 | h1
    · exact ⟨(h.each q h1).1.grown h.row hg, (h.each q h1).2.grown h.row hg⟩
    · obtain rfl : q = r := by simpa using h1
      exact ⟨hk.grown h.row hg, hv.grown h.row hg⟩
theorem one_slice {w : World} {base : Nat} {v : Value} {xs : List UInt8} (h : OwnB w base v xs) : v.oneCell' = true := by
  obtain ⟨A, m, c, rfl, _⟩ := h.form
  rfl
theorem lit_q (w : World) (r : PairR) : Rd (w.alloc (.cells #[r.kv, r.vv] 42)) 2 (some ⟨w.heap.size, 0, none⟩) 1 [r.kv, r.vv] :=
  ⟨rfl, fun _ => ⟨w.heap.size, 0, rfl, fun j z hz => by
    rw [cell_of_row _ _ _ _ _ _ (heap_alloc_new w _), Nat.zero_add]
    simpa using hz⟩⟩
/-- append of one pair onto pairs of the call's own. -/
theorem app_q {ops : Array Oper} {rest : List Oper} {o : Oper} {a : Act} {Q : Exit → Act → World → Prop} {w : World} (hgd : o.guard = none) (s x : Operand)
    (ho : o.op = .call { callee := .builtin .append, args := #[s, x], argTypes := #[22, 22] })
    (base : Nat) (v : Value) (rs : List PairR) (hs : a.eval s = v) (hown : OwnQ w base v rs) (r : PairR) (hk : OwnB w base r.kv r.p.key) (hv : OwnB w base r.vv r.p.val)
    (hx : a.eval x = .slice (some ⟨w.heap.size, 0, none⟩) 1 1) (hlen : rs.length ≤ 2000000) (hbase : base ≤ w.heap.size)
    (h : ∀ v' w', OwnQ w' base v' (rs ++ [r]) → Below base w w' → wpList Try.prog ops Q rest (a.put o.dst v') w') : wpList Try.prog ops Q (o :: rest) a (w.alloc (.cells #[r.kv, r.vv] 42)) := by
  obtain ⟨i0, hi, hz0, hz1, hz2⟩ := info_parts infoPair
  refine wpList_append_rd _ hgd s x 22 ho base 42 i0 (.agg #[.slice none 0 0, .slice none 0 0]) 2 48 Try.underlying22 hi hz0 hz1 hz2 rfl (by decide) v rs.length (cellsQ rs) hs (hown.alloc _).row _ 1 1 [r.kv, r.vv] hx (lit_q w r) (by
    intro u hu
    simp only [List.mem_cons, List.not_mem_nil, or_false] at hu
    rcases hu with rfl | rfl
    · exact one_slice hk
    · exact one_slice hv) (by unfold maxLen; omega) (by omega) (by simp; omega) fun v' w' hown' hg hb => ?_
  exact h v' w' (OwnQ.snoc (hown.alloc _) (hk.alloc _) (hv.alloc _) hown' hg) (((Below.refl base w).alloc hbase _).grown hg (by simp; omega) fun k hk => (hown.row.lt k hk).1)
/-- The same at a step of a region that draws its order. -/
theorem step_app_q {ops : Array Oper} {o : Oper} {a : Act} {w : World} {K : Act → World → Prop} {Q : Exit → Act → World → Prop} {E : Prop} (hgd : o.guard = none) (s x : Operand)
    (ho : o.op = .call { callee := .builtin .append, args := #[s, x], argTypes := #[22, 22] })
    (base : Nat) (v : Value) (rs : List PairR) (hs : a.eval s = v) (hown : OwnQ w base v rs) (r : PairR) (hk : OwnB w base r.kv r.p.key) (hv : OwnB w base r.vv r.p.val)
    (hx : a.eval x = .slice (some ⟨w.heap.size, 0, none⟩) 1 1) (hlen : rs.length ≤ 2000000) (hbase : base ≤ w.heap.size)
    (h : ∀ v' w', OwnQ w' base v' (rs ++ [r]) → Below base w w' → K (a.put o.dst v') w') :
    if Region.wanted o (yielded ops a.tmps) = true then Oper.wp Try.prog o a (w.alloc (.cells #[r.kv, r.vv] 42)) K Q else E := by
  have hw : Region.wanted o (yielded ops a.tmps) = true := by simp [Region.wanted, hgd]
  rw [if_pos hw]
  obtain ⟨i0, hi, hz0, hz1, hz2⟩ := info_parts infoPair
  refine wp_append_rd _ s x 22 ho base 42 i0 (.agg #[.slice none 0 0, .slice none 0 0]) 2 48 Try.underlying22 hi hz0 hz1 hz2 rfl (by decide) v rs.length (cellsQ rs) hs (hown.alloc _).row _ 1 1 [r.kv, r.vv] hx (lit_q w r) (by
    intro u hu
    simp only [List.mem_cons, List.not_mem_nil, or_false] at hu
    rcases hu with rfl | rfl
    · exact one_slice hk
    · exact one_slice hv) (by unfold maxLen; omega) (by omega) (by simp; omega) fun v' w' hown' hg hb => ?_
  exact h v' w' (OwnQ.snoc (hown.alloc _) (hk.alloc _) (hv.alloc _) hown' hg) (((Below.refl base w).alloc hbase _).grown hg (by simp; omega) fun k hk => (hown.row.lt k hk).1)
theorem Dr.drewN {w w' : World} (h : Dr w w') (n : Nat) : Dr w (w'.drewN n) := h.more n
end Go.Proofs.Ythaciglechijkaa
