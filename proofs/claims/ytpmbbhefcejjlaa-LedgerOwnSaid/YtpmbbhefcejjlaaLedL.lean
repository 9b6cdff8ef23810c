/-
  Slices of lines: what a call owns, what reads so, append. No statement is proved here.
-/
import Derived.Test.YtpmbbhefcejjlaaProg
import Derived.Test.YtpmbbhefcejjlaaLib
namespace Go.Proofs.Ytpmbbhefcejjlaa
open Go.RowKit
set_option linter.unusedVariables false

theorem infoLine : (Try.prog.info? 35).map (fun i => (i.zero, i.size, i.bytes)) = some (some (.agg #[.int .i64 0, .int .i64 0]), 2, 16) := by kernel_rfl

/-- A line's cells: its account, its amount. -/
def lc (l : Int × Int) : List Value := [.int .i64 l.1, .int .i64 l.2]
def lcs (ls : List (Int × Int)) : List Value := ls.flatMap lc
theorem lcs_length (ls : List (Int × Int)) : (lcs ls).length = ls.length * 2 := by
  induction ls with
  | nil => rfl
  | cons l ls ih =>
    simp only [lcs, List.flatMap_cons, List.length_append, List.length_cons] at ih ⊢
    rw [ih]
    simp [lc]
    omega
theorem lcs_append (a b : List (Int × Int)) : lcs (a ++ b) = lcs a ++ lcs b := by simp [lcs]
theorem lcs_get (ls : List (Int × Int)) (j : Nat) (h : j < ls.length) : (lcs ls)[j * 2]? = some (.int .i64 ls[j].1) ∧ (lcs ls)[j * 2 + 1]? = some (.int .i64 ls[j].2) := by
  induction ls generalizing j with
  | nil => simp at h
  | cons l ls ih =>
    have e : lcs (l :: ls) = .int .i64 l.1 :: .int .i64 l.2 :: lcs ls := rfl
    rw [e]
    cases j with
    | zero => simp
    | succ j =>
      have h2 := ih j (by simpa using h)
      rw [show (j + 1) * 2 = j * 2 + 1 + 1 by omega, show j * 2 + 1 + 1 + 1 = (j * 2 + 1) + 1 + 1 by omega]
      simpa using h2
theorem lcs_one (ls : List (Int × Int)) : ∀ u ∈ lcs ls, u.oneCell' = true := by
  intro u hu
  simp only [lcs, List.mem_flatMap, lc, List.mem_cons, List.not_mem_nil, or_false] at hu
  obtain ⟨l, _, rfl | rfl⟩ := hu <;> rfl

def OwnL (w : World) (base : Nat) (v : Value) (ls : List (Int × Int)) : Prop := w.ownsRow base 35 2 v ls.length (lcs ls)
def RdL (w : World) (A : Option Addr) (n : Nat) (ls : List (Int × Int)) : Prop := Rd w 2 A n (lcs ls)
section
variable {w w' : World} {base n : Nat} {v : Value} {A : Option Addr} {ls : List (Int × Int)}
theorem RdL.len (h : RdL w A n ls) : ls.length = n := by have := h.1; rw [lcs_length] at this; omega
theorem RdL.below (h : RdL w A n ls) (hb : Below w.heap.size w w') : RdL w' A n ls := Rd.below h hb
theorem RdL.alloc (h : RdL w A n ls) (o : Obj) : RdL (w.alloc o) A n ls := Rd.alloc h o
theorem RdL.addr (h : RdL w A n ls) (hn : 0 < n) : ∃ b off, A = some ⟨b, off, none⟩ := by
  obtain ⟨b, off, e, _⟩ := h.2 (by rw [lcs_length, h.len]; omega)
  exact ⟨b, off, e⟩
theorem RdL.cells {b off : Nat} (h : RdL w (some ⟨b, off, none⟩) n ls) (j : Nat) (hj : j < ls.length) : w.cell? ⟨b, off + j * 2, none⟩ = some (.int .i64 ls[j].1) ∧ w.cell? ⟨b, off + (j * 2 + 1), none⟩ = some (.int .i64 ls[j].2) := by
  obtain ⟨b', off', e, hc⟩ := h.2 (by rw [lcs_length]; omega)
  injection e with e
  injection e with e1 e2
  subst e1 e2
  exact ⟨hc _ _ (lcs_get ls j hj).1, hc _ _ (lcs_get ls j hj).2⟩
theorem OwnL.form (h : OwnL w base v ls) : ∃ A m c, v = .slice A m c ∧ Hid (ls.length = m) ∧ m ≤ c ∧ c ≤ maxLen ∧ RdL w A m ls ∧ (∀ a, A = some a → ∃ g, a = ⟨g, 0, none⟩ ∧ base ≤ g ∧ g < w.heap.size) := by
  have h0 := h
  rcases h.2 with ⟨rfl, hn⟩ | ⟨g, cap, cur, rfl, hg, hh, hc, hm, _⟩
  · have hx : ls = [] := List.eq_nil_of_length_eq_zero hn
    subst hx
    exact ⟨none, 0, 0, rfl, rfl, Nat.le_refl _, by simp [maxLen], Rd.nil _ _ _, fun a e => by cases e⟩
  · exact ⟨_, _, cap, rfl, rfl, hc, hm, Rd.of_own h0, fun a e => ⟨g, by injection e with e; exact e.symm, hg, (Array.getElem?_eq_some_iff.1 hh).1⟩⟩
theorem OwnL.nil (w : World) (base : Nat) : OwnL w base (.slice none 0 0) [] := World.ownsRow_nil w base _ 2
theorem OwnL.alloc (h : OwnL w base v ls) (o : Obj) : OwnL (w.alloc o) base v ls := World.ownsRow.alloc h o
theorem OwnL.below (h : OwnL w base v ls) (hb : Below w.heap.size w w') : OwnL w' base v ls := by
  refine ⟨h.1, ?_⟩
  rcases h.2 with h2 | ⟨g, cap, cur, hv, hg, hh, r⟩
  · exact .inl h2
  · exact .inr ⟨g, cap, cur, hv, hg, by rw [hb.block g (Array.getElem?_eq_some_iff.1 hh).1]; exact hh, r⟩
end
/-- append, of lines, onto lines of the call's own. -/
theorem app_line {ops : Array Oper} {rest : List Oper} {o : Oper} {a : Act} {Q : Exit → Act → World → Prop} {w : World} (hgd : o.guard = none) (s x : Operand)
    (ho : o.op = .call { callee := .builtin .append, args := #[s, x], argTypes := #[25, 25] })
    (base : Nat) (v : Value) (xs : List (Int × Int)) (hs : a.eval s = v) (hown : OwnL w base v xs)
    (A : Option Addr) (m c : Nat) (ys : List (Int × Int)) (hx : a.eval x = .slice A m c) (hr : RdL w A m ys)
    (hlen : xs.length + m ≤ 8796093022208) (hbase : base ≤ w.heap.size)
    (h : ∀ v' w', OwnL w' base v' (xs ++ ys) → Below base w w' → w.grownBy w' v.ownBlock → wpList Try.prog ops Q rest (a.put o.dst v') w') : wpList Try.prog ops Q (o :: rest) a w := by
  obtain ⟨i0, hi, hz0, hz1, hz2⟩ := info_parts infoLine
  have hl := hr.len
  refine wpList_append_rd w hgd s x 25 ho base 35 i0 (.agg #[.int .i64 0, .int .i64 0]) 2 16 Try.underlying25 hi hz0 hz1 hz2 rfl (by decide) v xs.length (lcs xs) hs hown A m c (lcs ys) hx hr (lcs_one ys) (by unfold maxLen; omega) (by omega) hbase fun v' w' hown' hg _ => ?_
  refine h v' w' ?_ ((Below.refl base w).grown hg hbase fun k hk => (hown.lt k hk).1) hg
  unfold OwnL
  rw [List.length_append, lcs_append, hl]
  exact hown'
/-- A literal of lines, just made. -/
theorem RdL.lit (w : World) (cs : Array Value) (ls : List (Int × Int)) (h : cs = (lcs ls).toArray) (n : Nat) (hn : ls.length = n) (t : TypeId) : RdL (w.alloc (.cells cs t)) (some ⟨w.heap.size, 0, none⟩) n ls := by
  subst h hn
  refine ⟨lcs_length ls, fun _ => ⟨w.heap.size, 0, rfl, fun j u hu => ?_⟩⟩
  rw [cell_of_row _ _ _ _ _ _ (heap_alloc_new w _), Nat.zero_add]
  simpa using hu
end Go.Proofs.Ytpmbbhefcejjlaa
