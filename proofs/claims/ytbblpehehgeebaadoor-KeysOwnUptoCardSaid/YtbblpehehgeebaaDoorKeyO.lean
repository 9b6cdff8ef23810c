/-
  Slices of parts that come in, and copies of them. No statement is proved here.
-/
import Derived.Test.YtbblpehehgeebaaDoorKeyX
import Derived.Test.YtbblpehehgeebaaDoorOpen
import Derived.Deep.Slices
import Derived.ChangeArms
namespace Go.Proofs.YtbblpehehgeebaaDoor
open Go.ChangeShapes Go.WideShapes Go.ChangeAt Go.RowKit Go.Deep
set_option linter.unusedVariables false

theorem exists_list {α : Type} (n : Nat) (Q : Nat → α → Prop) (h : ∀ i, i < n → ∃ p, Q i p) : ∃ ps : List α, ps.length = n ∧ ∀ (i : Nat) (hi : i < ps.length), Q i ps[i] := by
  induction n with
  | zero => exact ⟨[], rfl, fun i hi => by simp at hi⟩
  | succ n ih =>
    obtain ⟨ps, hl, hp⟩ := ih fun i hi => h i (by omega)
    obtain ⟨p, hq⟩ := h n (by omega)
    refine ⟨ps ++ [p], by simp [hl], fun i hi => ?_⟩
    by_cases hlt : i < ps.length
    · rw [List.getElem_append_left hlt]; exact hp i hlt
    · have e : i = ps.length := by simp at hi; omega
      subst e
      rw [List.getElem_append_right (by omega)]
      simpa [hl] using hq
section
variable {H : Type} {enc : TypeId × Value → H}
theorem cells_part {W : World} {fuel : Nat} {cs : List Value} {x : DataW H × List MemPlace} (h : DataW.trod enc Tryd.prog W 0 (fun _ => true) true fuel 40 cs = some x) :
    ∃ q : PartV, cs = [.bool q.isText, .int .i64 q.num, .string ⟨q.text.toArray⟩] ∧ q.ok ∧ q.text.length ≤ 9223372036854775807 := by
  obtain ⟨xs, n, _, _, hlen, hxl, hg⟩ := DataW.trod_struct Tryd.underlying40 h
  have hs : ∀ j, j < 3 → (xs[j]?).isSome = true := fun j hj => by
    rw [List.getElem?_eq_getElem (by rw [hxl]; exact hj)]; rfl
  have hc : Tryd.prog.cellsOf 40 = 3 := by kernel_rfl
  have k1 : Tryd.prog.cellsOf 4 = 1 := by kernel_rfl
  have k2 : Tryd.prog.cellsOf 2 = 1 := by kernel_rfl
  have k3 : Tryd.prog.cellsOf 9 = 1 := by kernel_rfl
  rw [hc] at hlen
  have g0 := hg 0 _ rfl
  have g1 := hg 1 _ rfl
  have g2 := hg 2 _ rfl
  clear hg h
  match cs, hlen with
  | [c0, c1, c2], _ =>
    have g0 : DataW.trod enc Tryd.prog W 0 (fun _ => true) true n 4 [c0] = xs[0]? := by have h : DataW.trod enc Tryd.prog W 0 (fun _ => true) true n 4 (List.take (Tryd.prog.cellsOf 4) (List.drop 0 [c0, c1, c2])) = xs[0]? := g0; rw [k1] at h; exact h
    have g1 : DataW.trod enc Tryd.prog W 0 (fun _ => true) true n 2 [c1] = xs[1]? := by have h : DataW.trod enc Tryd.prog W 0 (fun _ => true) true n 2 (List.take (Tryd.prog.cellsOf 2) (List.drop 1 [c0, c1, c2])) = xs[1]? := g1; rw [k2] at h; exact h
    have g2 : DataW.trod enc Tryd.prog W 0 (fun _ => true) true n 9 [c2] = xs[2]? := by have h : DataW.trod enc Tryd.prog W 0 (fun _ => true) true n 9 (List.take (Tryd.prog.cellsOf 9) (List.drop 2 [c0, c1, c2])) = xs[2]? := g2; rw [k3] at h; exact h
    obtain ⟨y0, e0⟩ := Option.isSome_iff_exists.1 (hs 0 (by omega))
    obtain ⟨y1, e1⟩ := Option.isSome_iff_exists.1 (hs 1 (by omega))
    obtain ⟨y2, e2⟩ := Option.isSome_iff_exists.1 (hs 2 (by omega))
    rw [e0] at g0
    rw [e1] at g1
    rw [e2] at g2
    obtain ⟨m0, i0, _⟩ := DataW.trod_bool Tryd.underlying4 g0
    obtain ⟨m1, i1, _, w1⟩ := DataW.trod_int Tryd.underlying2 g1
    obtain ⟨m2, i2, _, w2⟩ := DataW.trod_string Tryd.underlying9 g2
    injection i0 with j0
    injection i1 with j1
    injection i2 with j2
    subst j0 j1 j2
    refine ⟨⟨m0, m1, m2.data.toList⟩, by simp, ?_, ?_⟩
    · simpa [PartV.ok, Lit.wf, IntKind.min, IntKind.max, IntKind.signed, IntKind.bits] using w1
    · have e : m2.data.toList.length = m2.size := by simp
      have e2 : maxLen = 9223372036854775807 := by decide
      show m2.data.toList.length ≤ _
      rw [e, ← e2]
      exact w2
theorem open_parts {W : World} {a : Option Addr} {len cap : Nat} {d : DataW H} {p : List MemPlace} (h0 : DataW.Trod enc Tryd.prog W 0 (fun _ => true) true 22 (.slice a len cap) d p) :
    ∃ ps, RdPt W a len ps ∧ (∀ q ∈ ps, q.ok) ∧ (∀ q ∈ ps, q.text.length ≤ 9223372036854775807) ∧ len ≤ cap ∧ cap ≤ maxLen ∧ ((d = .nil ∧ cap = 0) ∨ ∃ elems spare, d = .slice elems spare ∧ elems.length + spare.length = cap) := by
  obtain ⟨fuel, hf⟩ := h0
  have hone : Tryd.prog.cellsOf 40 = 3 := by kernel_rfl
  rcases open_slice Tryd.underlying22 hf with ⟨hcs, hx⟩ | ⟨x, l, c, m, n, D, Pl, hcs, _, hl, hm, hmm, hd, hi⟩
  · simp [Value.cells] at hcs
    obtain ⟨rfl, rfl, rfl⟩ := hcs
    exact ⟨[], ⟨rfl, fun h => by omega⟩, by simp, by simp, Nat.le_refl _, by simp [maxLen], .inl ⟨by injection hx, rfl⟩⟩
  · simp [Value.cells] at hcs
    obtain ⟨rfl, rfl, rfl⟩ := hcs
    simp only [if_true] at hmm
    obtain ⟨b, off, spot⟩ := x
    have hspot : 0 < len → spot = none := fun h0 => by
      obtain ⟨cs', hc, ht⟩ := hi 0 (by omega)
      rw [hone] at hc
      obtain ⟨_, _, hat⟩ := World.cells?_some hc
      obtain ⟨q, rfl, _⟩ := cells_part ht
      have c0 := hat 0 (by omega)
      simp only [List.getElem?_cons_zero] at c0
      simpa [Addr.add] using World.cell?_spot c0
    have hat0 : ∀ i, i < len → ∃ q : PartV, q.ok ∧ q.text.length ≤ 9223372036854775807 ∧ spot = none ∧ W.cell? ⟨b, off + i * 3, none⟩ = some (.bool q.isText) ∧ W.cell? ⟨b, off + i * 3 + 1, none⟩ = some (.int .i64 q.num) ∧ W.cell? ⟨b, off + i * 3 + 2, none⟩ = some (.string ⟨q.text.toArray⟩) := fun i hil => by
      obtain ⟨cs', hc, ht⟩ := hi i (by omega)
      rw [hone] at hc
      obtain ⟨_, _, hat⟩ := World.cells?_some hc
      obtain ⟨q, rfl, hq1, hq2⟩ := cells_part ht
      have c0 := hat 0 (by omega)
      have c1 := hat 1 (by omega)
      have c2 := hat 2 (by omega)
      simp only [List.getElem?_cons_zero, List.getElem?_cons_succ] at c0 c1 c2
      obtain rfl := hspot (by omega)
      simp only [add_plain] at c0 c1 c2
      exact ⟨q, hq1, hq2, rfl, by simpa using c0, c1, c2⟩
    obtain ⟨ps, hpl, hps⟩ := exists_list len _ hat0
    refine ⟨ps, ⟨hpl, fun hn => ⟨b, off, ?_, fun j hj => ?_⟩⟩, fun q hq => ?_, fun q hq => ?_, hl, hm, .inr ⟨_, _, by injection hd, by simp; omega⟩⟩
    · rw [(hps 0 (by omega)).2.2.1]
    · exact (hps j hj).2.2.2
    · obtain ⟨j, hj, rfl⟩ := List.getElem_of_mem hq
      exact (hps j hj).1
    · obtain ⟨j, hj, rfl⟩ := List.getElem_of_mem hq
      exact (hps j hj).2.1
end
theorem RdPt.rd {w : World} {A : Option Addr} {n : Nat} {ps : List PartV} (h : RdPt w A n ps) : Rd w 3 A n (flatP ps) := by
  refine ⟨by rw [flatP_len, h.len], fun hn => ?_⟩
  rw [flatP_len] at hn
  have hl := h.len
  obtain ⟨b, off, e, hc⟩ := h.ex (by omega)
  refine ⟨b, off, e, fun j u hu => ?_⟩
  have hj : j < ps.length * 3 := by
    have := (List.getElem?_eq_some_iff.1 hu).1
    rw [flatP_len] at this
    exact this
  obtain ⟨q, r, hr, rfl⟩ : ∃ q r, r < 3 ∧ j = q * 3 + r := ⟨j / 3, j % 3, Nat.mod_lt _ (by omega), by omega⟩
  have hq : q < ps.length := by omega
  obtain ⟨f0, f1, f2⟩ := flatP_at ps q hq
  obtain ⟨c0, c1, c2⟩ := hc q hq
  rcases (show r = 0 ∨ r = 1 ∨ r = 2 by omega) with rfl | rfl | rfl
  · rw [Nat.add_zero] at hu
    rw [f0] at hu
    rw [Nat.add_zero, c0, ← hu]
  · rw [f1] at hu
    rw [← Nat.add_assoc, c1, ← hu]
  · rw [f2] at hu
    rw [← Nat.add_assoc, c2, ← hu]
theorem RdPt.alloc {w : World} {A : Option Addr} {n : Nat} {ps : List PartV} (h : RdPt w A n ps) (o : Obj) : RdPt (w.alloc o) A n ps := h.below ((Below.refl _ _).alloc (Nat.le_refl _) o)
theorem OwnPt.empty (w : World) : OwnPt (w.alloc (.cells #[] 40)) w.heap.size (.slice (some ⟨w.heap.size, 0, none⟩) 0 0) [] :=
  World.ownsRow_lit (base := w.heap.size) (e := 40) (size := 3) w #[] 0 (Nat.le_refl _) (by simp [maxLen]) rfl
theorem flat_one (ps : List PartV) : ∀ u ∈ flatP ps, u.oneCell' = true := by
  intro u hu
  unfold flatP at hu
  obtain ⟨p, _, hp⟩ := List.mem_flatMap.1 hu
  simp only [List.mem_cons, List.not_mem_nil, or_false] at hp
  rcases hp with rfl | rfl | rfl <;> rfl
theorem app_pt {ops : Array Oper} {rest : List Oper} {o : Oper} {a : Act} {Q : Exit → Act → World → Prop} {w : World} (hgd : o.guard = none) (s x : Operand)
    (ho : o.op = .call { callee := .builtin .append, args := #[s, x], argTypes := #[22, 22] })
    (base : Nat) (v : Value) (ps : List PartV) (hs : a.eval s = v) (hown : OwnPt w base v ps)
    (A : Option Addr) (m c : Nat) (qs : List PartV) (hx : a.eval x = .slice A m c) (hr : RdPt w A m qs)
    (hlen : (ps.length + m) * 32 ≤ 140737488355328) (hbase : base ≤ w.heap.size)
    (h : ∀ v' w', OwnPt w' base v' (ps ++ qs) → Below base w w' → w.grownBy w' v.ownBlock → wpList Tryd.prog ops Q rest (a.put o.dst v') w') : wpList Tryd.prog ops Q (o :: rest) a w := by
  obtain ⟨i0, hi, hz0, hz1, hz2⟩ := info_parts infoPart
  have hl := hr.len
  refine wpList_append_rd w hgd s x 22 ho base 40 i0 (.agg #[.bool false, .int .i64 0, .string ⟨#[]⟩]) 3 32 Tryd.underlying22 hi hz0 hz1 hz2 rfl (by decide) v ps.length (flatP ps) hs hown A m c (flatP qs) hx hr.rd (flat_one qs) (by unfold maxLen; omega) (by omega) hbase fun v' w' hown' hg _ => ?_
  refine h v' w' ?_ ((Below.refl base w).grown hg hbase fun k hk => (hown.lt k hk).1) hg
  unfold OwnPt
  rw [List.length_append, hl]
  have e : flatP (ps ++ qs) = flatP ps ++ flatP qs := by simp [flatP]
  rw [e]
  exact hown'
theorem parts_any (A : Option Addr) (n c : Nat) (ps : List PartV) (w : World) (h : RdPt w A n ps) (hn : n ≤ 4398046511104) :
    Calls Tryd.prog 10 #[.slice A n c] w fun e w' => ∃ v, e = .returned v ∧ OwnPt w' w.heap.size v ps ∧ Below w.heap.size w w' := by
  have hl := h.len
  go_enter Tryd.func10, Tryd.ntmps10
  go_wp2_with (at_builtin; refine app_pt rfl _ _ rfl w.heap.size _ [] rfl (OwnPt.empty w) A n c ps rfl (h.alloc _) ?c1 ?c2 ?_)
  case c1 => simp; omega
  case c2 => simp
  intro v w1 hv hb _
  go_wp2
  go_ret
  exact ⟨v, rfl, hv, ((Below.refl _ _).alloc (Nat.le_refl _) _).trans hb⟩
end Go.Proofs.YtbblpehehgeebaaDoor
