/-
  Region 3 of AccrueOwn, in whichever order. No statement is proved here.
-/
import Derived.Test.YtmpbpgcmiboflaaOrd
import Derived.Test.YtmpbpgcmiboflaaAcOw
namespace Go.Proofs.Ytmpbpgcmiboflaa
open Go.RowKit
set_option linter.unusedVariables false
set_option linter.unusedSimpArgs false
def opsOwn : Array Oper := #[{ dst := some 11, op := Go.Op.move (Go.Operand.tmp 1), type := 26, pos := "law.go:135", after := #[], guard := none }, { dst := some 12, op := Go.Op.call { callee := Go.Callee.value (Go.Operand.func 13), args := #[Go.Operand.tmp 11], argTypes := #[26] }, type := 26, pos := "law.go:135", after := #[{ on := 0, ground := Go.Ground.data }], guard := none }, { dst := some 13, op := Go.Op.build 46 #[(0, Go.Operand.const (Go.Value.int Go.IntKind.i64 77))], type := 46, pos := "law.go:135", after := #[], guard := none }, { dst := some 14, op := Go.Op.buildSlice 26 1 #[(0, Go.Operand.tmp 13)], type := 26, pos := "law.go:135", after := #[{ on := 2, ground := Go.Ground.data }], guard := none }, { dst := some 15, op := Go.Op.call { callee := Go.Callee.builtin Go.Builtin.append, args := #[Go.Operand.tmp 12, Go.Operand.tmp 14], argTypes := #[26, 26] }, type := 26, pos := "law.go:135", after := #[{ on := 1, ground := Go.Ground.data }, { on := 3, ground := Go.Ground.data }, { on := 1, ground := Go.Ground.chain }], guard := none }, { dst := some 16, op := Go.Op.load 25 (Go.Operand.tmp 3), type := 25, pos := "law.go:135", after := #[], guard := none }, { dst := some 17, op := Go.Op.call { callee := Go.Callee.value (Go.Operand.func 12), args := #[Go.Operand.tmp 16], argTypes := #[25] }, type := 25, pos := "law.go:135", after := #[{ on := 5, ground := Go.Ground.data }, { on := 4, ground := Go.Ground.chain }], guard := none }, { dst := some 8, op := Go.Op.alloc 25, type := 0, pos := "law.go:135", after := #[], guard := none }, { dst := some 7, op := Go.Op.assign (Go.Operand.tmp 15), type := 26, pos := "law.go:135", after := #[{ on := 4, ground := Go.Ground.data }, { on := 6, ground := Go.Ground.chain }, { on := 0, ground := Go.Ground.phase }, { on := 1, ground := Go.Ground.phase }, { on := 2, ground := Go.Ground.phase }, { on := 3, ground := Go.Ground.phase }, { on := 4, ground := Go.Ground.phase }, { on := 5, ground := Go.Ground.textOnly Go.Departure.lateStores }, { on := 6, ground := Go.Ground.textOnly Go.Departure.lateStoresUnsure }, { on := 7, ground := Go.Ground.phase }], guard := none }, { dst := none, op := Go.Op.store 25 (Go.Operand.tmp 8) (Go.Operand.tmp 17), type := 0, pos := "law.go:135", after := #[{ on := 7, ground := Go.Ground.data }, { on := 6, ground := Go.Ground.data }, { on := 8, ground := Go.Ground.chain }, { on := 0, ground := Go.Ground.phase }, { on := 1, ground := Go.Ground.phase }, { on := 2, ground := Go.Ground.phase }, { on := 3, ground := Go.Ground.phase }, { on := 4, ground := Go.Ground.phase }, { on := 5, ground := Go.Ground.phase }, { on := 6, ground := Go.Ground.phase }, { on := 7, ground := Go.Ground.phase }, { on := 8, ground := Go.Ground.phase }], guard := none }]
theorem entEvents : ∀ args w, (callFunc 13 args).run Try.prog w = .ok (.enter 13 args) w := enters_of Try.func13 (by kernel_rfl) rfl
theorem entCopy : ∀ args w, (callFunc 12 args).run Try.prog w = .ok (.enter 12 args) w := enters_of Try.func12 (by kernel_rfl) rfl
theorem own_below {w w' : World} {base n sz : Nat} {v : Value} {t : TypeId} {xs : List Value} (h : w.ownsRow base t sz v n xs) (hb : Below w.heap.size w w') : w'.ownsRow base t sz v n xs := by
  refine ⟨h.1, ?_⟩
  rcases h.2 with h2 | ⟨g, cap, cur, hv, hg, hh, r⟩
  · exact .inl h2
  · exact .inr ⟨g, cap, cur, hv, hg, by rw [hb.block g (Array.getElem?_eq_some_iff.1 hh).1]; exact hh, r⟩
theorem own_base {w : World} {base base' n sz : Nat} {v : Value} {t : TypeId} {xs : List Value} (h : w.ownsRow base t sz v n xs) (hb : base' ≤ base) : w.ownsRow base' t sz v n xs := by
  refine ⟨h.1, ?_⟩
  rcases h.2 with h2 | ⟨g, cap, cur, hv, hg, r⟩
  · exact .inl h2
  · exact .inr ⟨g, cap, cur, hv, Nat.le_trans hb hg, r⟩
theorem row_lt {w : World} {g : Nat} {o : Obj} (h : w.heap[g]? = some o) : g < w.heap.size := (Array.getElem?_eq_some_iff.1 h).1
theorem RdI.lt {w : World} {A : Option Addr} {n : Nat} {xs : List Int} (h : RdI w A n xs) (hn : 0 < n) : ∀ ad, A = some ad → ad.block < w.heap.size := fun ad e => by
  have hl := h.1
  simp only [List.length_map, Nat.mul_one] at hl
  obtain ⟨b, off, e2, hc⟩ := h.2 (by simp only [List.length_map]; omega)
  rw [e2] at e
  injection e with e
  subst e
  have := hc 0 (.int .i64 (xs[0]'(by omega))) (by simp)
  exact cell_in this
structure OwnInv (w2 v : World) (p : Prod) (n m : Nat) (l : List Ev) (b1 b3 b4 b6 b7 : Bool) (v6 : Value) (gl : Nat) (E7 : Option Addr) (c7 : Nat) (A9 : Option Addr) (gp : Nat) : Prop where
  bel : Below w2.heap.size w2 v
  f1 : b1 = true → v.ownsRow w2.heap.size 46 6 v6 m (flatE l) ∧ (b7 = true → ∀ k, v6.ownBlock = some k → k ≠ gp)
  f3 : b3 = true → RdE v (some ⟨gl, 0, none⟩) 1 [ev77]
  f4 : b4 = true → m + 1 ≤ c7 ∧ RdE v E7 (m + 1) (l ++ [ev77]) ∧ (b7 = true → ∀ ad, E7 = some ad → ad.block ≠ gp)
  f6 : b6 = true → RdI v A9 n p.bounds ∧ (b7 = true → 0 < n → ∀ ad, A9 = some ad → ad.block ≠ gp)
  f7 : b7 = true → w2.heap.size ≤ gp ∧ v.heap[gp]? = some (.cells zProd 25 (0, 0))
section
variable {w2 v v2 : World} {p : Prod} {n m : Nat} {l : List Ev} {b1 b3 b4 b6 b7 : Bool} {v6 v6' : Value} {gl : Nat} {E7 E7' : Option Addr} {c7 c7' : Nat} {A9 A9' : Option Addr} {gp : Nat}
theorem OwnInv.below (h : OwnInv w2 v p n m l b1 b3 b4 b6 b7 v6 gl E7 c7 A9 gp) (hb : Below v.heap.size v v2) : OwnInv w2 v2 p n m l b1 b3 b4 b6 b7 v6 gl E7 c7 A9 gp :=
  ⟨h.bel.trans (hb.mono h.bel.size), fun e => ⟨own_below (h.f1 e).1 hb, (h.f1 e).2⟩, fun e => (h.f3 e).below hb, fun e => ⟨(h.f4 e).1, (h.f4 e).2.1.below hb, (h.f4 e).2.2⟩, fun e => ⟨(h.f6 e).1.below hb, (h.f6 e).2⟩, fun e => ⟨(h.f7 e).1, (hb.block _ (row_lt (h.f7 e).2)).trans (h.f7 e).2⟩⟩
theorem OwnInv.t1 (h : OwnInv w2 v p n m l false b3 false false b7 v6 gl E7 c7 A9 gp) (hown : v2.ownsRow v.heap.size 46 6 v6' m (flatE l)) (hb : Below v.heap.size v v2) : OwnInv w2 v2 p n m l true b3 false false b7 v6' gl E7 c7 A9 gp := by
  have h2 := h.below hb
  exact ⟨h2.bel, fun _ => ⟨own_base hown h.bel.size, fun e k hk => by have h1 := (hown.lt k hk).1; have h2 := row_lt (h.f7 e).2; omega⟩, h2.f3, fun e => (by cases e), fun e => (by cases e), h2.f7⟩
theorem OwnInv.t3 (h : OwnInv w2 v p n m l b1 false false false b7 v6 gl E7 c7 A9 gp) : OwnInv w2 (v.alloc (.cells #[.int .i64 77, .string ⟨#[]⟩, .int .i64 0, .int .i64 0, .int .i64 0, .int .i64 0] 46)) p n m l b1 true false false b7 v6 v.heap.size E7 c7 A9 gp := by
  have h2 := h.below ((Below.refl v.heap.size v).alloc (Nat.le_refl _) (.cells #[.int .i64 77, .string ⟨#[]⟩, .int .i64 0, .int .i64 0, .int .i64 0, .int .i64 0] 46))
  exact ⟨h2.bel, h2.f1, fun _ => rowE77 v, fun e => (by cases e), fun e => (by cases e), h2.f7⟩
theorem OwnInv.t4 (h : OwnInv w2 v p n m l true true false false b7 v6 gl E7 c7 A9 gp) (hc : m + 1 ≤ c7') (hE : RdE v2 E7' (m + 1) (l ++ [ev77])) (hb : Below w2.heap.size v v2)
    (hk : ∀ g o, v.heap[g]? = some o → (∀ k, v6.ownBlock = some k → k ≠ g) → v2.heap[g]? = some o ∧ ∀ ad, E7' = some ad → ad.block ≠ g) : OwnInv w2 v2 p n m l false false true false b7 v6 gl E7' c7' A9 gp :=
  ⟨h.bel.trans hb, fun e => (by cases e), fun e => (by cases e), fun _ => ⟨hc, hE, fun e => (hk gp _ (h.f7 e).2 ((h.f1 rfl).2 e)).2⟩, fun e => (by cases e), fun e => ⟨(h.f7 e).1, (hk gp _ (h.f7 e).2 ((h.f1 rfl).2 e)).1⟩⟩
theorem OwnInv.t6 (h : OwnInv w2 v p n m l false false true false b7 v6 gl E7 c7 A9 gp) (hA : RdI v2 A9' n p.bounds) (hbk : ∀ ad, A9' = some ad → v.heap.size ≤ ad.block) (hb : Below v.heap.size v v2) : OwnInv w2 v2 p n m l false false true true b7 v6 gl E7 c7 A9' gp := by
  have h2 := h.below hb
  exact ⟨h2.bel, h2.f1, h2.f3, h2.f4, fun _ => ⟨hA, fun e _ ad ha => by have h1 := hbk ad ha; have h3 := row_lt (h.f7 e).2; omega⟩, h2.f7⟩
theorem OwnInv.t7 (h : OwnInv w2 v p n m l b1 b3 b4 b6 false v6 gl E7 c7 A9 gp) : OwnInv w2 (v.alloc (.cells zProd 25)) p n m l b1 b3 b4 b6 true v6 gl E7 c7 A9 v.heap.size := by
  have h2 := h.below ((Below.refl v.heap.size v).alloc (Nat.le_refl _) (.cells zProd 25))
  exact ⟨h2.bel, fun e => ⟨(h2.f1 e).1, fun _ k hk => Nat.ne_of_lt ((h.f1 e).1.lt k hk).2⟩, h2.f3, fun e => ⟨(h2.f4 e).1, (h2.f4 e).2.1, fun _ ad ha => Nat.ne_of_lt ((h.f4 e).2.1.lt (by omega) ad ha)⟩, fun e => ⟨(h2.f6 e).1, fun _ h0 ad ha => Nat.ne_of_lt ((h.f6 e).1.lt h0 ad ha)⟩, fun _ => ⟨h.bel.size, heap_alloc_new _ _⟩⟩
end
def OwnEnd (w2 : World) (p : Prod) (n m : Nat) (l : List Ev) (t7 t8 : Value) (W : World) : Prop := ∃ E' c' gp A' c2, t7 = .slice E' (m + 1) c' ∧ t8 = .pointer (some ⟨gp, 0, none⟩) ∧ m + 1 ≤ c' ∧ W.heap[gp]? = some (.cells (pCells p (.slice A' n c2)) 25 (0, 0)) ∧ RdE W E' (m + 1) (l ++ [ev77]) ∧ RdI W A' n p.bounds ∧ Below w2.heap.size w2 W
set_option maxRecDepth 100000 in
set_option maxHeartbeats 4000000 in
theorem own_region (Q : Exit → Act → World → Prop) (a : Act) (w2 : World) (p : Prod) (A : Option Addr) (n c : Nat) (E : Option Addr) (m ce : Nat) (l : List Ev) (g3 : Nat) (hQP : ∀ c a d v w, Q (.panic c) (Act.put a (some d) v) w → Q (.panic c) a w) (hsz : a.tmps.size = 49)
    (e1 : a.eval (.tmp 1) = .slice E m ce) (e3 : a.eval (.tmp 3) = .pointer (some ⟨g3, 0, none⟩)) (hrow : w2.heap[g3]? = some (.cells (pCells p (.slice A n c)) 25 (0, 0))) (hE : RdE w2 E m l) (hA : RdI w2 A n p.bounds) (hm : (m + 1) * 56 ≤ 140737488355328) (hn : n * 8 ≤ 140737488355328)
    (FIN : ∀ v6 gl E7 c7 A9 c9 gp W, OwnEnd w2 p n m l (.slice E7 (m + 1) c7) (.pointer (some ⟨gp, 0, none⟩)) W → Q .normal (Act.put (Act.put (Act.put (Act.put (Act.put (Act.put (Act.put (Act.put (Act.put a (some 11) (.slice E m ce)) (some 13) (.agg #[.int .i64 77, .string ⟨#[]⟩, .int .i64 0, .int .i64 0, .int .i64 0, .int .i64 0])) (some 16) (.agg (pCells p (.slice A n c)))) (some 12) (v6)) (some 14) (.slice (some ⟨gl, 0, none⟩) 1 1)) (some 15) (.slice E7 (m + 1) c7)) (some 17) (.agg (pCells p (.slice A9 n c9)))) (some 8) (.pointer (some ⟨gp, 0, none⟩))) (some 7) (.slice E7 (m + 1) c7)) W) :
    (Code.region 3 opsOwn true).wp Try.prog Q a w2 := by
  have hzz : ∀ w, (zeroValue 25).run Try.prog w = .ok (.agg zProd) w := fun w => by kernel_rfl
  have hlit : ∀ w, (Instr.buildSlice 26 1 #[(0, .agg #[.int .i64 77, .string ⟨#[]⟩, .int .i64 0, .int .i64 0, .int .i64 0, .int .i64 0])]).run Try.prog w = .ok (.slice (some ⟨w.heap.size, 0, none⟩) 1 1) (w.alloc (.cells #[.int .i64 77, .string ⟨#[]⟩, .int .i64 0, .int .i64 0, .int .i64 0, .int .i64 0] 46)) := fun w => by go_simp
  have hlm : l.length = m := hE.1
  have H13467 : ∀ (v : World) (v6 : Value) (gl : Nat) (E7 : Option Addr) (c7 : Nat) (A9 : Option Addr) (c9 gp : Nat), OwnInv w2 v p n m l false false true true true v6 gl E7 c7 A9 gp → wpAnyH Try.prog .any opsOwn Q (fun W => Below w2.heap.size w2 W) 2 #[true, true, true, true, true, true, true, true, false, false] (Act.put (Act.put (Act.put (Act.put (Act.put (Act.put (Act.put (Act.put a (some 11) (.slice E m ce)) (some 13) (.agg #[.int .i64 77, .string ⟨#[]⟩, .int .i64 0, .int .i64 0, .int .i64 0, .int .i64 0])) (some 16) (.agg (pCells p (.slice A n c)))) (some 12) (v6)) (some 14) (.slice (some ⟨gl, 0, none⟩) 1 1)) (some 15) (.slice E7 (m + 1) c7)) (some 17) (.agg (pCells p (.slice A9 n c9)))) (some 8) (.pointer (some ⟨gp, 0, none⟩))) v := fun v v6 gl E7 c7 A9 c9 gp h => by
    refine wpAnyH_take (i := 8) (oi := { dst := some 7, op := Go.Op.assign (Go.Operand.tmp 15), type := 26, pos := "law.go:135", after := #[{ on := 4, ground := Go.Ground.data }, { on := 6, ground := Go.Ground.chain }, { on := 0, ground := Go.Ground.phase }, { on := 1, ground := Go.Ground.phase }, { on := 2, ground := Go.Ground.phase }, { on := 3, ground := Go.Ground.phase }, { on := 4, ground := Go.Ground.phase }, { on := 5, ground := Go.Ground.textOnly Go.Departure.lateStores }, { on := 6, ground := Go.Ground.textOnly Go.Departure.lateStoresUnsure }, { on := 7, ground := Go.Ground.phase }], guard := none }) (v := .slice E7 (m + 1) c7) (by kernel_rfl) (by kernel_rfl) (by kernel_rfl) (by kernel_rfl) (fun c a w => hQP c a _ _ w) (.inl ⟨by rfl, fun w _ => by unfold execOp; simp only [show ((Act.put (Act.put (Act.put (Act.put (Act.put (Act.put (Act.put (Act.put a (some 11) (.slice E m ce)) (some 13) (.agg #[.int .i64 77, .string ⟨#[]⟩, .int .i64 0, .int .i64 0, .int .i64 0, .int .i64 0])) (some 16) (.agg (pCells p (.slice A n c)))) (some 12) (v6)) (some 14) (.slice (some ⟨gl, 0, none⟩) 1 1)) (some 15) (.slice E7 (m + 1) c7)) (some 17) (.agg (pCells p (.slice A9 n c9)))) (some 8) (.pointer (some ⟨gp, 0, none⟩)))).eval (.tmp 15) = .slice E7 (m + 1) c7 from (by rw [ev_other (by omega)]; rw [ev_other (by omega)]; rw [ev_same (by (try simp only [put_size]); omega)])]; rfl⟩) h.bel ?_
    dsimp only
    obtain ⟨hgp, hrow7⟩ := h.f7 rfl
    obtain ⟨hc7, hE7, hne7⟩ := h.f4 rfl
    obtain ⟨hA9, hne9⟩ := h.f6 rfl
    refine wpAnyH_ready (rs := [9]) (by kernel_rfl) (by simp) ?_
    refine AllReadyH.cons (o := { dst := none, op := Go.Op.store 25 (Go.Operand.tmp 8) (Go.Operand.tmp 17), type := 0, pos := "law.go:135", after := #[{ on := 7, ground := Go.Ground.data }, { on := 6, ground := Go.Ground.data }, { on := 8, ground := Go.Ground.chain }, { on := 0, ground := Go.Ground.phase }, { on := 1, ground := Go.Ground.phase }, { on := 2, ground := Go.Ground.phase }, { on := 3, ground := Go.Ground.phase }, { on := 4, ground := Go.Ground.phase }, { on := 5, ground := Go.Ground.phase }, { on := 6, ground := Go.Ground.phase }, { on := 7, ground := Go.Ground.phase }, { on := 8, ground := Go.Ground.phase }], guard := none }) (by kernel_rfl) (fun K hK => ?_) AllReadyH.nil
    rw [if_pos (show Region.wanted _ _ = true from rfl)]
    with_reducible refine wp_store_row 25 (.tmp 8) (.tmp 17) ?_ gp (pCells p (.slice A9 n c9)) ?_ ?_ _ _ hrow7 ?_ ?_ ?_ ?_
    · rfl
    · rw [ev_other (by omega)]; rw [ev_same (by (try simp only [put_size]); omega)]
    · rw [ev_other (by omega)]; rw [ev_other (by omega)]; rw [ev_same (by (try simp only [put_size]); omega)]
    · exact info_prod _ _
    · rfl
    · simp [pCells, Value.oneCell']
    have hbel := below_row h.bel hgp (pCells p (.slice A9 n c9))
    refine hK.out _ _ hbel fun _ => ?_
    refine wpAnyH_done (by kernel_rfl) ?_ _
    dsimp only [put_none]
    refine FIN v6 gl E7 c7 A9 c9 gp _ ⟨E7, c7, gp, A9, c9, rfl, rfl, hc7, setRow_heap _ _ _ _ _ _ hrow7, hE7.kept ((KeptBut.refl gp v).setRow _) (hne7 rfl), ?_, hbel⟩
    rcases Nat.eq_zero_or_pos n with h0 | h0
    · subst h0; have hz := hA9.1; simp only [List.length_map, Nat.mul_one] at hz; rw [List.eq_nil_of_length_eq_zero hz]; exact Rd.nil _ 1 _
    · exact hA9.kept ((KeptBut.refl gp v).setRow _) (hne9 rfl h0)
  have H1346 : ∀ (v : World) (v6 : Value) (gl : Nat) (E7 : Option Addr) (c7 : Nat) (A9 : Option Addr) (c9 gp : Nat), OwnInv w2 v p n m l false false true true false v6 gl E7 c7 A9 gp → wpAnyH Try.prog .any opsOwn Q (fun W => Below w2.heap.size w2 W) 3 #[true, true, true, true, true, true, true, false, false, false] (Act.put (Act.put (Act.put (Act.put (Act.put (Act.put (Act.put a (some 11) (.slice E m ce)) (some 13) (.agg #[.int .i64 77, .string ⟨#[]⟩, .int .i64 0, .int .i64 0, .int .i64 0, .int .i64 0])) (some 16) (.agg (pCells p (.slice A n c)))) (some 12) (v6)) (some 14) (.slice (some ⟨gl, 0, none⟩) 1 1)) (some 15) (.slice E7 (m + 1) c7)) (some 17) (.agg (pCells p (.slice A9 n c9)))) v := fun v v6 gl E7 c7 A9 c9 gp h => by
    refine wpAnyH_ready (rs := [7]) (by kernel_rfl) (by simp) ?_
    refine (AllReadyH.cons (o := { dst := some 8, op := Go.Op.alloc 25, type := 0, pos := "law.go:135", after := #[], guard := none }) (by kernel_rfl) (fun K hK => ?_) AllReadyH.nil)
    · refine step_alloc rfl 25 rfl zProd (hzz _) ?_
      refine hK.out _ _ (h.t7).bel fun _ => ?_
      (try dsimp only)
      exact H13467 _ v6 gl E7 c7 A9 c9 _ (h.t7)
  have H1347 : ∀ (v : World) (v6 : Value) (gl : Nat) (E7 : Option Addr) (c7 : Nat) (A9 : Option Addr) (c9 gp : Nat), OwnInv w2 v p n m l false false true false true v6 gl E7 c7 A9 gp → wpAnyH Try.prog .any opsOwn Q (fun W => Below w2.heap.size w2 W) 3 #[true, true, true, true, true, true, false, true, false, false] (Act.put (Act.put (Act.put (Act.put (Act.put (Act.put (Act.put a (some 11) (.slice E m ce)) (some 13) (.agg #[.int .i64 77, .string ⟨#[]⟩, .int .i64 0, .int .i64 0, .int .i64 0, .int .i64 0])) (some 16) (.agg (pCells p (.slice A n c)))) (some 12) (v6)) (some 14) (.slice (some ⟨gl, 0, none⟩) 1 1)) (some 15) (.slice E7 (m + 1) c7)) (some 8) (.pointer (some ⟨gp, 0, none⟩))) v := fun v v6 gl E7 c7 A9 c9 gp h => by
    refine wpAnyH_ready (rs := [6]) (by kernel_rfl) (by simp) ?_
    refine (AllReadyH.cons (o := { dst := some 17, op := Go.Op.call { callee := Go.Callee.value (Go.Operand.func 12), args := #[Go.Operand.tmp 16], argTypes := #[25] }, type := 25, pos := "law.go:135", after := #[{ on := 5, ground := Go.Ground.data }, { on := 4, ground := Go.Ground.chain }], guard := none }) (by kernel_rfl) (fun K hK => ?_) AllReadyH.nil)
    · have y16 : ((Act.put (Act.put (Act.put (Act.put (Act.put (Act.put (Act.put a (some 11) (.slice E m ce)) (some 13) (.agg #[.int .i64 77, .string ⟨#[]⟩, .int .i64 0, .int .i64 0, .int .i64 0, .int .i64 0])) (some 16) (.agg (pCells p (.slice A n c)))) (some 12) (v6)) (some 14) (.slice (some ⟨gl, 0, none⟩) 1 1)) (some 15) (.slice E7 (m + 1) c7)) (some 8) (.pointer (some ⟨gp, 0, none⟩)))).eval (.tmp 16) = .agg (pCells p (.slice A n c)) := (by rw [ev_other (by omega)]; rw [ev_other (by omega)]; rw [ev_other (by omega)]; rw [ev_other (by omega)]; rw [ev_same (by (try simp only [put_size]); omega)])
      refine step_callX rfl 12 _ _ rfl #[.agg (pCells p (.slice A n c))] (by simp only [List.map_toArray, List.map_cons, List.map_nil, y16]) entCopy _ (Copy_new p A n c v (hA.below h.bel) hn) fun e v2 hR => ?_
      obtain ⟨⟨A9, c9, rfl, hA9, hbk⟩, hb⟩ := hR
      refine ⟨_, rfl, ?_⟩
      refine hK.out _ _ (h.t6 hA9 hbk hb).bel fun _ => ?_
      (try dsimp only)
      rw [put_comm (d := 8) (t := 17) (by omega)]
      exact H13467 v2 v6 gl E7 c7 A9 c9 gp (h.t6 hA9 hbk hb)
  have H134 : ∀ (v : World) (v6 : Value) (gl : Nat) (E7 : Option Addr) (c7 : Nat) (A9 : Option Addr) (c9 gp : Nat), OwnInv w2 v p n m l false false true false false v6 gl E7 c7 A9 gp → wpAnyH Try.prog .any opsOwn Q (fun W => Below w2.heap.size w2 W) 4 #[true, true, true, true, true, true, false, false, false, false] (Act.put (Act.put (Act.put (Act.put (Act.put (Act.put a (some 11) (.slice E m ce)) (some 13) (.agg #[.int .i64 77, .string ⟨#[]⟩, .int .i64 0, .int .i64 0, .int .i64 0, .int .i64 0])) (some 16) (.agg (pCells p (.slice A n c)))) (some 12) (v6)) (some 14) (.slice (some ⟨gl, 0, none⟩) 1 1)) (some 15) (.slice E7 (m + 1) c7)) v := fun v v6 gl E7 c7 A9 c9 gp h => by
    refine wpAnyH_ready (rs := [6, 7]) (by kernel_rfl) (by simp) ?_
    refine (AllReadyH.cons (o := { dst := some 17, op := Go.Op.call { callee := Go.Callee.value (Go.Operand.func 12), args := #[Go.Operand.tmp 16], argTypes := #[25] }, type := 25, pos := "law.go:135", after := #[{ on := 5, ground := Go.Ground.data }, { on := 4, ground := Go.Ground.chain }], guard := none }) (by kernel_rfl) (fun K hK => ?_) (AllReadyH.cons (o := { dst := some 8, op := Go.Op.alloc 25, type := 0, pos := "law.go:135", after := #[], guard := none }) (by kernel_rfl) (fun K hK => ?_) AllReadyH.nil))
    · have y16 : ((Act.put (Act.put (Act.put (Act.put (Act.put (Act.put a (some 11) (.slice E m ce)) (some 13) (.agg #[.int .i64 77, .string ⟨#[]⟩, .int .i64 0, .int .i64 0, .int .i64 0, .int .i64 0])) (some 16) (.agg (pCells p (.slice A n c)))) (some 12) (v6)) (some 14) (.slice (some ⟨gl, 0, none⟩) 1 1)) (some 15) (.slice E7 (m + 1) c7))).eval (.tmp 16) = .agg (pCells p (.slice A n c)) := (by rw [ev_other (by omega)]; rw [ev_other (by omega)]; rw [ev_other (by omega)]; rw [ev_same (by (try simp only [put_size]); omega)])
      refine step_callX rfl 12 _ _ rfl #[.agg (pCells p (.slice A n c))] (by simp only [List.map_toArray, List.map_cons, List.map_nil, y16]) entCopy _ (Copy_new p A n c v (hA.below h.bel) hn) fun e v2 hR => ?_
      obtain ⟨⟨A9, c9, rfl, hA9, hbk⟩, hb⟩ := hR
      refine ⟨_, rfl, ?_⟩
      refine hK.out _ _ (h.t6 hA9 hbk hb).bel fun _ => ?_
      (try dsimp only)
      exact H1346 v2 v6 gl E7 c7 A9 c9 gp (h.t6 hA9 hbk hb)
    · refine step_alloc rfl 25 rfl zProd (hzz _) ?_
      refine hK.out _ _ (h.t7).bel fun _ => ?_
      (try dsimp only)
      exact H1347 _ v6 gl E7 c7 A9 c9 _ (h.t7)
  have H137 : ∀ (v : World) (v6 : Value) (gl : Nat) (E7 : Option Addr) (c7 : Nat) (A9 : Option Addr) (c9 gp : Nat), OwnInv w2 v p n m l true true false false true v6 gl E7 c7 A9 gp → wpAnyH Try.prog .any opsOwn Q (fun W => Below w2.heap.size w2 W) 4 #[true, true, true, true, false, true, false, true, false, false] (Act.put (Act.put (Act.put (Act.put (Act.put (Act.put a (some 11) (.slice E m ce)) (some 13) (.agg #[.int .i64 77, .string ⟨#[]⟩, .int .i64 0, .int .i64 0, .int .i64 0, .int .i64 0])) (some 16) (.agg (pCells p (.slice A n c)))) (some 12) (v6)) (some 14) (.slice (some ⟨gl, 0, none⟩) 1 1)) (some 8) (.pointer (some ⟨gp, 0, none⟩))) v := fun v v6 gl E7 c7 A9 c9 gp h => by
    refine wpAnyH_ready (rs := [4]) (by kernel_rfl) (by simp) ?_
    refine (AllReadyH.cons (o := { dst := some 15, op := Go.Op.call { callee := Go.Callee.builtin Go.Builtin.append, args := #[Go.Operand.tmp 12, Go.Operand.tmp 14], argTypes := #[26, 26] }, type := 26, pos := "law.go:135", after := #[{ on := 1, ground := Go.Ground.data }, { on := 3, ground := Go.Ground.data }, { on := 1, ground := Go.Ground.chain }], guard := none }) (by kernel_rfl) (fun K hK => ?_) AllReadyH.nil)
    · with_reducible refine step_app_e ?_ (.tmp 12) (.tmp 14) ?_ w2.heap.size v6 l m hlm ?_ (h.f1 rfl).1 (some ⟨gl, 0, none⟩) 1 1 [ev77] ?_ (h.f3 rfl) ?_ h.bel.size ?_
      · rfl
      · rfl
      · rw [ev_other (by omega)]; rw [ev_other (by omega)]; rw [ev_same (by (try simp only [put_size]); omega)]
      · rw [ev_other (by omega)]; rw [ev_same (by (try simp only [put_size]); omega)]
      · omega
      intro E7 c7 v2 hc7 hE7 hb7 hk7
      refine hK.out _ _ (h.t4 hc7 hE7 hb7 hk7).bel fun _ => ?_
      (try dsimp only)
      rw [put_comm (d := 8) (t := 15) (by omega)]
      exact H1347 v2 v6 gl E7 c7 A9 c9 gp (h.t4 hc7 hE7 hb7 hk7)
  have H13 : ∀ (v : World) (v6 : Value) (gl : Nat) (E7 : Option Addr) (c7 : Nat) (A9 : Option Addr) (c9 gp : Nat), OwnInv w2 v p n m l true true false false false v6 gl E7 c7 A9 gp → wpAnyH Try.prog .any opsOwn Q (fun W => Below w2.heap.size w2 W) 5 #[true, true, true, true, false, true, false, false, false, false] (Act.put (Act.put (Act.put (Act.put (Act.put a (some 11) (.slice E m ce)) (some 13) (.agg #[.int .i64 77, .string ⟨#[]⟩, .int .i64 0, .int .i64 0, .int .i64 0, .int .i64 0])) (some 16) (.agg (pCells p (.slice A n c)))) (some 12) (v6)) (some 14) (.slice (some ⟨gl, 0, none⟩) 1 1)) v := fun v v6 gl E7 c7 A9 c9 gp h => by
    refine wpAnyH_ready (rs := [4, 7]) (by kernel_rfl) (by simp) ?_
    refine (AllReadyH.cons (o := { dst := some 15, op := Go.Op.call { callee := Go.Callee.builtin Go.Builtin.append, args := #[Go.Operand.tmp 12, Go.Operand.tmp 14], argTypes := #[26, 26] }, type := 26, pos := "law.go:135", after := #[{ on := 1, ground := Go.Ground.data }, { on := 3, ground := Go.Ground.data }, { on := 1, ground := Go.Ground.chain }], guard := none }) (by kernel_rfl) (fun K hK => ?_) (AllReadyH.cons (o := { dst := some 8, op := Go.Op.alloc 25, type := 0, pos := "law.go:135", after := #[], guard := none }) (by kernel_rfl) (fun K hK => ?_) AllReadyH.nil))
    · with_reducible refine step_app_e ?_ (.tmp 12) (.tmp 14) ?_ w2.heap.size v6 l m hlm ?_ (h.f1 rfl).1 (some ⟨gl, 0, none⟩) 1 1 [ev77] ?_ (h.f3 rfl) ?_ h.bel.size ?_
      · rfl
      · rfl
      · rw [ev_other (by omega)]; rw [ev_same (by (try simp only [put_size]); omega)]
      · rw [ev_same (by (try simp only [put_size]); omega)]
      · omega
      intro E7 c7 v2 hc7 hE7 hb7 hk7
      refine hK.out _ _ (h.t4 hc7 hE7 hb7 hk7).bel fun _ => ?_
      (try dsimp only)
      exact H134 v2 v6 gl E7 c7 A9 c9 gp (h.t4 hc7 hE7 hb7 hk7)
    · refine step_alloc rfl 25 rfl zProd (hzz _) ?_
      refine hK.out _ _ (h.t7).bel fun _ => ?_
      (try dsimp only)
      exact H137 _ v6 gl E7 c7 A9 c9 _ (h.t7)
  have H37 : ∀ (v : World) (v6 : Value) (gl : Nat) (E7 : Option Addr) (c7 : Nat) (A9 : Option Addr) (c9 gp : Nat), OwnInv w2 v p n m l false true false false true v6 gl E7 c7 A9 gp → wpAnyH Try.prog .any opsOwn Q (fun W => Below w2.heap.size w2 W) 5 #[true, false, true, true, false, true, false, true, false, false] (Act.put (Act.put (Act.put (Act.put (Act.put a (some 11) (.slice E m ce)) (some 13) (.agg #[.int .i64 77, .string ⟨#[]⟩, .int .i64 0, .int .i64 0, .int .i64 0, .int .i64 0])) (some 16) (.agg (pCells p (.slice A n c)))) (some 14) (.slice (some ⟨gl, 0, none⟩) 1 1)) (some 8) (.pointer (some ⟨gp, 0, none⟩))) v := fun v v6 gl E7 c7 A9 c9 gp h => by
    refine wpAnyH_ready (rs := [1]) (by kernel_rfl) (by simp) ?_
    refine (AllReadyH.cons (o := { dst := some 12, op := Go.Op.call { callee := Go.Callee.value (Go.Operand.func 13), args := #[Go.Operand.tmp 11], argTypes := #[26] }, type := 26, pos := "law.go:135", after := #[{ on := 0, ground := Go.Ground.data }], guard := none }) (by kernel_rfl) (fun K hK => ?_) AllReadyH.nil)
    · have y11 : ((Act.put (Act.put (Act.put (Act.put (Act.put a (some 11) (.slice E m ce)) (some 13) (.agg #[.int .i64 77, .string ⟨#[]⟩, .int .i64 0, .int .i64 0, .int .i64 0, .int .i64 0])) (some 16) (.agg (pCells p (.slice A n c)))) (some 14) (.slice (some ⟨gl, 0, none⟩) 1 1)) (some 8) (.pointer (some ⟨gp, 0, none⟩)))).eval (.tmp 11) = .slice E m ce := (by rw [ev_other (by omega)]; rw [ev_other (by omega)]; rw [ev_other (by omega)]; rw [ev_other (by omega)]; rw [ev_same (by (try simp only [put_size]); omega)])
      refine step_callX rfl 13 _ _ rfl #[.slice E m ce] (by simp only [List.map_toArray, List.map_cons, List.map_nil, y11]) entEvents _ (events_own E m ce l v (hE.below h.bel) (by omega)) fun e v2 hR => ?_
      obtain ⟨⟨v6, rfl, hown⟩, hb⟩ := hR
      refine ⟨v6, rfl, ?_⟩
      refine hK.out _ _ (h.t1 hown hb).bel fun _ => ?_
      (try dsimp only)
      rw [put_comm (d := 8) (t := 12) (by omega), put_comm (d := 14) (t := 12) (by omega)]
      exact H137 v2 v6 gl E7 c7 A9 c9 gp (h.t1 hown hb)
  have H3 : ∀ (v : World) (v6 : Value) (gl : Nat) (E7 : Option Addr) (c7 : Nat) (A9 : Option Addr) (c9 gp : Nat), OwnInv w2 v p n m l false true false false false v6 gl E7 c7 A9 gp → wpAnyH Try.prog .any opsOwn Q (fun W => Below w2.heap.size w2 W) 6 #[true, false, true, true, false, true, false, false, false, false] (Act.put (Act.put (Act.put (Act.put a (some 11) (.slice E m ce)) (some 13) (.agg #[.int .i64 77, .string ⟨#[]⟩, .int .i64 0, .int .i64 0, .int .i64 0, .int .i64 0])) (some 16) (.agg (pCells p (.slice A n c)))) (some 14) (.slice (some ⟨gl, 0, none⟩) 1 1)) v := fun v v6 gl E7 c7 A9 c9 gp h => by
    refine wpAnyH_ready (rs := [1, 7]) (by kernel_rfl) (by simp) ?_
    refine (AllReadyH.cons (o := { dst := some 12, op := Go.Op.call { callee := Go.Callee.value (Go.Operand.func 13), args := #[Go.Operand.tmp 11], argTypes := #[26] }, type := 26, pos := "law.go:135", after := #[{ on := 0, ground := Go.Ground.data }], guard := none }) (by kernel_rfl) (fun K hK => ?_) (AllReadyH.cons (o := { dst := some 8, op := Go.Op.alloc 25, type := 0, pos := "law.go:135", after := #[], guard := none }) (by kernel_rfl) (fun K hK => ?_) AllReadyH.nil))
    · have y11 : ((Act.put (Act.put (Act.put (Act.put a (some 11) (.slice E m ce)) (some 13) (.agg #[.int .i64 77, .string ⟨#[]⟩, .int .i64 0, .int .i64 0, .int .i64 0, .int .i64 0])) (some 16) (.agg (pCells p (.slice A n c)))) (some 14) (.slice (some ⟨gl, 0, none⟩) 1 1))).eval (.tmp 11) = .slice E m ce := (by rw [ev_other (by omega)]; rw [ev_other (by omega)]; rw [ev_other (by omega)]; rw [ev_same (by (try simp only [put_size]); omega)])
      refine step_callX rfl 13 _ _ rfl #[.slice E m ce] (by simp only [List.map_toArray, List.map_cons, List.map_nil, y11]) entEvents _ (events_own E m ce l v (hE.below h.bel) (by omega)) fun e v2 hR => ?_
      obtain ⟨⟨v6, rfl, hown⟩, hb⟩ := hR
      refine ⟨v6, rfl, ?_⟩
      refine hK.out _ _ (h.t1 hown hb).bel fun _ => ?_
      (try dsimp only)
      rw [put_comm (d := 14) (t := 12) (by omega)]
      exact H13 v2 v6 gl E7 c7 A9 c9 gp (h.t1 hown hb)
    · refine step_alloc rfl 25 rfl zProd (hzz _) ?_
      refine hK.out _ _ (h.t7).bel fun _ => ?_
      (try dsimp only)
      exact H37 _ v6 gl E7 c7 A9 c9 _ (h.t7)
  have H17 : ∀ (v : World) (v6 : Value) (gl : Nat) (E7 : Option Addr) (c7 : Nat) (A9 : Option Addr) (c9 gp : Nat), OwnInv w2 v p n m l true false false false true v6 gl E7 c7 A9 gp → wpAnyH Try.prog .any opsOwn Q (fun W => Below w2.heap.size w2 W) 5 #[true, true, true, false, false, true, false, true, false, false] (Act.put (Act.put (Act.put (Act.put (Act.put a (some 11) (.slice E m ce)) (some 13) (.agg #[.int .i64 77, .string ⟨#[]⟩, .int .i64 0, .int .i64 0, .int .i64 0, .int .i64 0])) (some 16) (.agg (pCells p (.slice A n c)))) (some 12) (v6)) (some 8) (.pointer (some ⟨gp, 0, none⟩))) v := fun v v6 gl E7 c7 A9 c9 gp h => by
    refine wpAnyH_ready (rs := [3]) (by kernel_rfl) (by simp) ?_
    refine (AllReadyH.cons (o := { dst := some 14, op := Go.Op.buildSlice 26 1 #[(0, Go.Operand.tmp 13)], type := 26, pos := "law.go:135", after := #[{ on := 2, ground := Go.Ground.data }], guard := none }) (by kernel_rfl) (fun K hK => ?_) AllReadyH.nil)
    · have y13 : ((Act.put (Act.put (Act.put (Act.put (Act.put a (some 11) (.slice E m ce)) (some 13) (.agg #[.int .i64 77, .string ⟨#[]⟩, .int .i64 0, .int .i64 0, .int .i64 0, .int .i64 0])) (some 16) (.agg (pCells p (.slice A n c)))) (some 12) (v6)) (some 8) (.pointer (some ⟨gp, 0, none⟩)))).eval (.tmp 13) = .agg #[.int .i64 77, .string ⟨#[]⟩, .int .i64 0, .int .i64 0, .int .i64 0, .int .i64 0] := (by rw [ev_other (by omega)]; rw [ev_other (by omega)]; rw [ev_other (by omega)]; rw [ev_same (by (try simp only [put_size]); omega)])
      refine step_lit1 rfl 26 46 _ rfl _ y13 #[.int .i64 77, .string ⟨#[]⟩, .int .i64 0, .int .i64 0, .int .i64 0, .int .i64 0] (hlit v) ?_
      refine hK.out _ _ (h.t3).bel fun _ => ?_
      (try dsimp only)
      rw [put_comm (d := 8) (t := 14) (by omega)]
      exact H137 _ v6 _ E7 c7 A9 c9 gp (h.t3)
  have H1 : ∀ (v : World) (v6 : Value) (gl : Nat) (E7 : Option Addr) (c7 : Nat) (A9 : Option Addr) (c9 gp : Nat), OwnInv w2 v p n m l true false false false false v6 gl E7 c7 A9 gp → wpAnyH Try.prog .any opsOwn Q (fun W => Below w2.heap.size w2 W) 6 #[true, true, true, false, false, true, false, false, false, false] (Act.put (Act.put (Act.put (Act.put a (some 11) (.slice E m ce)) (some 13) (.agg #[.int .i64 77, .string ⟨#[]⟩, .int .i64 0, .int .i64 0, .int .i64 0, .int .i64 0])) (some 16) (.agg (pCells p (.slice A n c)))) (some 12) (v6)) v := fun v v6 gl E7 c7 A9 c9 gp h => by
    refine wpAnyH_ready (rs := [3, 7]) (by kernel_rfl) (by simp) ?_
    refine (AllReadyH.cons (o := { dst := some 14, op := Go.Op.buildSlice 26 1 #[(0, Go.Operand.tmp 13)], type := 26, pos := "law.go:135", after := #[{ on := 2, ground := Go.Ground.data }], guard := none }) (by kernel_rfl) (fun K hK => ?_) (AllReadyH.cons (o := { dst := some 8, op := Go.Op.alloc 25, type := 0, pos := "law.go:135", after := #[], guard := none }) (by kernel_rfl) (fun K hK => ?_) AllReadyH.nil))
    · have y13 : ((Act.put (Act.put (Act.put (Act.put a (some 11) (.slice E m ce)) (some 13) (.agg #[.int .i64 77, .string ⟨#[]⟩, .int .i64 0, .int .i64 0, .int .i64 0, .int .i64 0])) (some 16) (.agg (pCells p (.slice A n c)))) (some 12) (v6))).eval (.tmp 13) = .agg #[.int .i64 77, .string ⟨#[]⟩, .int .i64 0, .int .i64 0, .int .i64 0, .int .i64 0] := (by rw [ev_other (by omega)]; rw [ev_other (by omega)]; rw [ev_same (by (try simp only [put_size]); omega)])
      refine step_lit1 rfl 26 46 _ rfl _ y13 #[.int .i64 77, .string ⟨#[]⟩, .int .i64 0, .int .i64 0, .int .i64 0, .int .i64 0] (hlit v) ?_
      refine hK.out _ _ (h.t3).bel fun _ => ?_
      (try dsimp only)
      exact H13 _ v6 _ E7 c7 A9 c9 gp (h.t3)
    · refine step_alloc rfl 25 rfl zProd (hzz _) ?_
      refine hK.out _ _ (h.t7).bel fun _ => ?_
      (try dsimp only)
      exact H17 _ v6 gl E7 c7 A9 c9 _ (h.t7)
  have H7 : ∀ (v : World) (v6 : Value) (gl : Nat) (E7 : Option Addr) (c7 : Nat) (A9 : Option Addr) (c9 gp : Nat), OwnInv w2 v p n m l false false false false true v6 gl E7 c7 A9 gp → wpAnyH Try.prog .any opsOwn Q (fun W => Below w2.heap.size w2 W) 6 #[true, false, true, false, false, true, false, true, false, false] (Act.put (Act.put (Act.put (Act.put a (some 11) (.slice E m ce)) (some 13) (.agg #[.int .i64 77, .string ⟨#[]⟩, .int .i64 0, .int .i64 0, .int .i64 0, .int .i64 0])) (some 16) (.agg (pCells p (.slice A n c)))) (some 8) (.pointer (some ⟨gp, 0, none⟩))) v := fun v v6 gl E7 c7 A9 c9 gp h => by
    refine wpAnyH_ready (rs := [1, 3]) (by kernel_rfl) (by simp) ?_
    refine (AllReadyH.cons (o := { dst := some 12, op := Go.Op.call { callee := Go.Callee.value (Go.Operand.func 13), args := #[Go.Operand.tmp 11], argTypes := #[26] }, type := 26, pos := "law.go:135", after := #[{ on := 0, ground := Go.Ground.data }], guard := none }) (by kernel_rfl) (fun K hK => ?_) (AllReadyH.cons (o := { dst := some 14, op := Go.Op.buildSlice 26 1 #[(0, Go.Operand.tmp 13)], type := 26, pos := "law.go:135", after := #[{ on := 2, ground := Go.Ground.data }], guard := none }) (by kernel_rfl) (fun K hK => ?_) AllReadyH.nil))
    · have y11 : ((Act.put (Act.put (Act.put (Act.put a (some 11) (.slice E m ce)) (some 13) (.agg #[.int .i64 77, .string ⟨#[]⟩, .int .i64 0, .int .i64 0, .int .i64 0, .int .i64 0])) (some 16) (.agg (pCells p (.slice A n c)))) (some 8) (.pointer (some ⟨gp, 0, none⟩)))).eval (.tmp 11) = .slice E m ce := (by rw [ev_other (by omega)]; rw [ev_other (by omega)]; rw [ev_other (by omega)]; rw [ev_same (by (try simp only [put_size]); omega)])
      refine step_callX rfl 13 _ _ rfl #[.slice E m ce] (by simp only [List.map_toArray, List.map_cons, List.map_nil, y11]) entEvents _ (events_own E m ce l v (hE.below h.bel) (by omega)) fun e v2 hR => ?_
      obtain ⟨⟨v6, rfl, hown⟩, hb⟩ := hR
      refine ⟨v6, rfl, ?_⟩
      refine hK.out _ _ (h.t1 hown hb).bel fun _ => ?_
      (try dsimp only)
      rw [put_comm (d := 8) (t := 12) (by omega)]
      exact H17 v2 v6 gl E7 c7 A9 c9 gp (h.t1 hown hb)
    · have y13 : ((Act.put (Act.put (Act.put (Act.put a (some 11) (.slice E m ce)) (some 13) (.agg #[.int .i64 77, .string ⟨#[]⟩, .int .i64 0, .int .i64 0, .int .i64 0, .int .i64 0])) (some 16) (.agg (pCells p (.slice A n c)))) (some 8) (.pointer (some ⟨gp, 0, none⟩)))).eval (.tmp 13) = .agg #[.int .i64 77, .string ⟨#[]⟩, .int .i64 0, .int .i64 0, .int .i64 0, .int .i64 0] := (by rw [ev_other (by omega)]; rw [ev_other (by omega)]; rw [ev_same (by (try simp only [put_size]); omega)])
      refine step_lit1 rfl 26 46 _ rfl _ y13 #[.int .i64 77, .string ⟨#[]⟩, .int .i64 0, .int .i64 0, .int .i64 0, .int .i64 0] (hlit v) ?_
      refine hK.out _ _ (h.t3).bel fun _ => ?_
      (try dsimp only)
      rw [put_comm (d := 8) (t := 14) (by omega)]
      exact H37 _ v6 _ E7 c7 A9 c9 gp (h.t3)
  have H : ∀ (v : World) (v6 : Value) (gl : Nat) (E7 : Option Addr) (c7 : Nat) (A9 : Option Addr) (c9 gp : Nat), OwnInv w2 v p n m l false false false false false v6 gl E7 c7 A9 gp → wpAnyH Try.prog .any opsOwn Q (fun W => Below w2.heap.size w2 W) 7 #[true, false, true, false, false, true, false, false, false, false] (Act.put (Act.put (Act.put a (some 11) (.slice E m ce)) (some 13) (.agg #[.int .i64 77, .string ⟨#[]⟩, .int .i64 0, .int .i64 0, .int .i64 0, .int .i64 0])) (some 16) (.agg (pCells p (.slice A n c)))) v := fun v v6 gl E7 c7 A9 c9 gp h => by
    refine wpAnyH_ready (rs := [1, 3, 7]) (by kernel_rfl) (by simp) ?_
    refine (AllReadyH.cons (o := { dst := some 12, op := Go.Op.call { callee := Go.Callee.value (Go.Operand.func 13), args := #[Go.Operand.tmp 11], argTypes := #[26] }, type := 26, pos := "law.go:135", after := #[{ on := 0, ground := Go.Ground.data }], guard := none }) (by kernel_rfl) (fun K hK => ?_) (AllReadyH.cons (o := { dst := some 14, op := Go.Op.buildSlice 26 1 #[(0, Go.Operand.tmp 13)], type := 26, pos := "law.go:135", after := #[{ on := 2, ground := Go.Ground.data }], guard := none }) (by kernel_rfl) (fun K hK => ?_) (AllReadyH.cons (o := { dst := some 8, op := Go.Op.alloc 25, type := 0, pos := "law.go:135", after := #[], guard := none }) (by kernel_rfl) (fun K hK => ?_) AllReadyH.nil)))
    · have y11 : ((Act.put (Act.put (Act.put a (some 11) (.slice E m ce)) (some 13) (.agg #[.int .i64 77, .string ⟨#[]⟩, .int .i64 0, .int .i64 0, .int .i64 0, .int .i64 0])) (some 16) (.agg (pCells p (.slice A n c))))).eval (.tmp 11) = .slice E m ce := (by rw [ev_other (by omega)]; rw [ev_other (by omega)]; rw [ev_same (by (try simp only [put_size]); omega)])
      refine step_callX rfl 13 _ _ rfl #[.slice E m ce] (by simp only [List.map_toArray, List.map_cons, List.map_nil, y11]) entEvents _ (events_own E m ce l v (hE.below h.bel) (by omega)) fun e v2 hR => ?_
      obtain ⟨⟨v6, rfl, hown⟩, hb⟩ := hR
      refine ⟨v6, rfl, ?_⟩
      refine hK.out _ _ (h.t1 hown hb).bel fun _ => ?_
      (try dsimp only)
      exact H1 v2 v6 gl E7 c7 A9 c9 gp (h.t1 hown hb)
    · have y13 : ((Act.put (Act.put (Act.put a (some 11) (.slice E m ce)) (some 13) (.agg #[.int .i64 77, .string ⟨#[]⟩, .int .i64 0, .int .i64 0, .int .i64 0, .int .i64 0])) (some 16) (.agg (pCells p (.slice A n c))))).eval (.tmp 13) = .agg #[.int .i64 77, .string ⟨#[]⟩, .int .i64 0, .int .i64 0, .int .i64 0, .int .i64 0] := (by rw [ev_other (by omega)]; rw [ev_same (by (try simp only [put_size]); omega)])
      refine step_lit1 rfl 26 46 _ rfl _ y13 #[.int .i64 77, .string ⟨#[]⟩, .int .i64 0, .int .i64 0, .int .i64 0, .int .i64 0] (hlit v) ?_
      refine hK.out _ _ (h.t3).bel fun _ => ?_
      (try dsimp only)
      exact H3 _ v6 _ E7 c7 A9 c9 gp (h.t3)
    · refine step_alloc rfl 25 rfl zProd (hzz _) ?_
      refine hK.out _ _ (h.t7).bel fun _ => ?_
      (try dsimp only)
      exact H7 _ v6 gl E7 c7 A9 c9 _ (h.t7)
  refine wp_region_held (S := (fun W => Below w2.heap.size w2 W)) (by kernel_rfl) ?_
  change wpAnyH _ _ _ _ _ 10 (Array.replicate 10 false) _ (World.drew _)
  have HS : Below w2.heap.size w2 w2.drew := (Below.refl _ _).drew
  refine wpAnyH_take (i := 0) (oi := { dst := some 11, op := Go.Op.move (Go.Operand.tmp 1), type := 26, pos := "law.go:135", after := #[], guard := none }) (v := .slice E m ce) (by kernel_rfl) (by kernel_rfl) (by kernel_rfl) (by kernel_rfl) (fun c a w => hQP c a _ _ w) (yields_move rfl _ rfl _ e1) HS ?_
  refine wpAnyH_take (i := 2) (oi := { dst := some 13, op := Go.Op.build 46 #[(0, Go.Operand.const (Go.Value.int Go.IntKind.i64 77))], type := 46, pos := "law.go:135", after := #[], guard := none }) (v := .agg #[.int .i64 77, .string ⟨#[]⟩, .int .i64 0, .int .i64 0, .int .i64 0, .int .i64 0]) (by kernel_rfl) (by kernel_rfl) (by kernel_rfl) (by kernel_rfl) (fun c a w => hQP c a _ _ w) (.inl ⟨by rfl, fun w _ => by unfold execOp; go_simp⟩) HS ?_
  have y3 : ((Act.put (Act.put a (some 11) (.slice E m ce)) (some 13) (.agg #[.int .i64 77, .string ⟨#[]⟩, .int .i64 0, .int .i64 0, .int .i64 0, .int .i64 0]))).eval (.tmp 3) = .pointer (some ⟨g3, 0, none⟩) := by rw [ev_other (by omega)]; rw [ev_other (by omega)]; exact e3
  refine wpAnyH_take (i := 5) (oi := { dst := some 16, op := Go.Op.load 25 (Go.Operand.tmp 3), type := 25, pos := "law.go:135", after := #[], guard := none }) (v := .agg (pCells p (.slice A n c))) (by kernel_rfl) (by kernel_rfl) (by kernel_rfl) (by kernel_rfl) (fun c a w => hQP c a _ _ w) (yields_row (by rfl) 25 _ rfl g3 y3 _ _ _ _ (fun W S => (S.block _ (row_lt hrow)).trans hrow) Try.underlying25 rfl (info_prod _ _)) HS ?_
  exact H _ (.slice none 0 0) 0 none 0 none 0 0 ⟨HS, fun e => (by cases e), fun e => (by cases e), fun e => (by cases e), fun e => (by cases e), fun e => (by cases e)⟩
end Go.Proofs.Ytmpbpgcmiboflaa
