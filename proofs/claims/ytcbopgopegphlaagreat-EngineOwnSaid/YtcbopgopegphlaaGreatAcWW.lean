/-
  Joined texts: AcZ AcW AcW2. No statement is proved here.
-/
import Derived.Test.YtcbopgopegphlaaGreatAcX
import Derived.Deep.RegionHeld3
namespace Go.Proofs.YtcbopgopegphlaaGreat
open Go.RowKit
set_option linter.unusedVariables false

def zProd : Array Value := #[.string ⟨#[]⟩, .int .i64 0, .int .i64 0, .int .i64 0, .int .i64 0, .int .i64 0, .int .i64 0, .int .i64 0, .slice none 0 0]
theorem infoInt : (Tryz.prog.info? 3).map (fun i => (i.zero, i.size, i.bytes)) = some (some (.int .i64 0), 1, 8) := by kernel_rfl
theorem infoEv : (Tryz.prog.info? 39).map (fun i => (i.zero, i.size, i.bytes)) = some (some (.agg #[.int .i64 0, .string ⟨#[]⟩, .int .i64 0, .int .i64 0, .int .i64 0, .int .i64 0]), 6, 56) := by kernel_rfl
theorem ints_one (zs : List Int) : ∀ u ∈ zs.map (Value.int .i64), u.oneCell' = true := by
  intro u hu
  obtain ⟨x, _, rfl⟩ := List.mem_map.1 hu
  rfl
theorem RdI.kept {w w' : World} {A : Option Addr} {n g : Nat} {zs : List Int} (h : RdI w A n zs) (hk : KeptBut g w w') (hA : ∀ ad, A = some ad → ad.block ≠ g) : RdI w' A n zs :=
  ⟨h.1, fun hn => by
    obtain ⟨b, off, e, hc⟩ := h.2 hn
    exact ⟨b, off, e, fun j u hu => hk.cell (by simpa using hA _ e) (hc j u hu)⟩⟩
/-- append to a row of numbers of the call's own. -/
theorem app_int {ops : Array Oper} {rest : List Oper} {o : Oper} {a : Act} {Q : Exit → Act → World → Prop} {w : World} (hgd : o.guard = none) (s x : Operand)
    (ho : o.op = .call { callee := .builtin .append, args := #[s, x], argTypes := #[23, 23] })
    (base : Nat) (v : Value) (xs : List Int) (hs : a.eval s = v) (hown : w.ownsRow base 3 1 v xs.length (xs.map (Value.int .i64)))
    (A : Option Addr) (m c : Nat) (ys : List Int) (hx : a.eval x = .slice A m c) (hr : RdI w A m ys)
    (hlen : (xs.length + m) * 8 ≤ 140737488355328) (hbase : base ≤ w.heap.size)
    (h : ∀ A' c' w', RdI w' A' (xs.length + m) (xs ++ ys) → (∀ ad, A' = some ad → base ≤ ad.block) → Below base w w' → wpList Tryz.prog ops Q rest (a.put o.dst (.slice A' (xs.length + m) c')) w') : wpList Tryz.prog ops Q (o :: rest) a w := by
  obtain ⟨i0, hi, hz0, hz1, hz2⟩ := info_parts infoInt
  refine wpList_append_rd w hgd s x 23 ho base 3 i0 (.int .i64 0) 1 8 Tryz.underlying23 hi hz0 hz1 hz2 rfl (by decide) v xs.length _ hs hown A m c (ys.map (Value.int .i64)) hx hr (ints_one ys) (by unfold maxLen; omega) (by omega) hbase fun v' w' hown' hg _ => ?_
  have hb := (Below.refl base w).grown hg hbase fun k hk => (hown.lt k hk).1
  have hv : ∃ A' c', v' = .slice A' (xs.length + m) c' ∧ (∀ ad, A' = some ad → base ≤ ad.block) := by
    have hlt := hown'.lt
    rcases hown'.2 with ⟨rfl, h0⟩ | ⟨g, cap, cur, rfl, _⟩
    · exact ⟨none, 0, by rw [h0], fun ad h => by cases h⟩
    · exact ⟨_, _, rfl, fun ad h => by
        injection h with h
        subst h
        exact (hlt g rfl).1⟩
  obtain ⟨A', c', rfl, hbk⟩ := hv
  refine h A' c' w' ?_ hbk hb
  unfold RdI
  rw [List.map_append]
  exact Rd.of_own hown'
/-- The cells of events in a row. -/
def flatE (l : List Ev) : List Value := l.flatMap fun e => (evCells e).toList
theorem flatE_len (l : List Ev) : (flatE l).length = l.length * 6 := by
  induction l with
  | nil => rfl
  | cons e l ih => simp only [flatE, List.flatMap_cons, List.length_append] at ih ⊢; rw [ih, List.length_cons]; simp [evCells]; omega
theorem flatE_get (l : List Ev) : ∀ (j k : Nat) (h : j < l.length), k < 6 → (flatE l)[j * 6 + k]? = (evCells l[j])[k]? := by
  induction l with
  | nil => intro j k h; simp at h
  | cons e l ih =>
    intro j k h hk
    have h6 : (evCells e).toList.length = 6 := rfl
    cases j with
    | zero =>
      simp only [flatE, List.flatMap_cons]
      rw [List.getElem?_append_left (by omega)]
      simp
    | succ j =>
      have := ih j k (by simpa using h) hk
      simp only [flatE, List.flatMap_cons] at this ⊢
      rw [List.getElem?_append_right (by omega), h6, show (j + 1) * 6 + k - 6 = j * 6 + k by omega, this]
      simp
theorem flatE_one (l : List Ev) : ∀ u ∈ flatE l, u.oneCell' = true := by
  intro u hu
  obtain ⟨e, _, he⟩ := List.mem_flatMap.1 hu
  have := ev_one e
  rw [Array.all_eq_true_iff_forall_mem] at this
  exact this u (by simpa using he)
theorem RdE.rd {w : World} {A : Option Addr} {n : Nat} {l : List Ev} (h : RdE w A n l) : Rd w 6 A n (flatE l) := by
  refine ⟨by rw [flatE_len, h.1], fun hn => ?_⟩
  obtain ⟨b, off, e, hc⟩ := h.2 (by rw [flatE_len] at hn; have := h.1; omega)
  refine ⟨b, off, e, fun j u hu => ?_⟩
  have hj : j < l.length * 6 := by
    have := (List.getElem?_eq_some_iff.1 hu).1
    rwa [flatE_len] at this
  have := hc (j / 6) (by omega) (j % 6) u (by
    rw [← flatE_get l (j / 6) (j % 6) (by omega) (Nat.mod_lt _ (by omega)), show j / 6 * 6 + j % 6 = j by omega]
    exact hu)
  rw [show off + j / 6 * 6 + j % 6 = off + j by omega] at this
  exact this
theorem Rd.ev {w : World} {A : Option Addr} {n : Nat} {l : List Ev} (h : Rd w 6 A n (flatE l)) : RdE w A n l := by
  have hl : l.length = n := by have := h.1; rw [flatE_len] at this; omega
  refine ⟨hl, fun hn => ?_⟩
  obtain ⟨b, off, e, hc⟩ := h.2 (by rw [flatE_len]; omega)
  refine ⟨b, off, e, fun j hj k u hu => ?_⟩
  have hk : k < 6 := (Array.getElem?_eq_some_iff.1 hu).1
  rw [Nat.add_assoc]
  exact hc (j * 6 + k) u (by rw [flatE_get l j k hj hk]; exact hu)
theorem flatE_append (l m : List Ev) : flatE (l ++ m) = flatE l ++ flatE m := by simp [flatE]
/-- append to a row of events of the call's own. -/
theorem app_ev {ops : Array Oper} {rest : List Oper} {o : Oper} {a : Act} {Q : Exit → Act → World → Prop} {w : World} (hgd : o.guard = none) (s x : Operand)
    (ho : o.op = .call { callee := .builtin .append, args := #[s, x], argTypes := #[35, 35] })
    (base : Nat) (v : Value) (xs : List Ev) (hs : a.eval s = v) (hown : w.ownsRow base 39 6 v xs.length (flatE xs))
    (A : Option Addr) (m c : Nat) (ys : List Ev) (hx : a.eval x = .slice A m c) (hr : RdE w A m ys)
    (hlen : (xs.length + m) * 56 ≤ 140737488355328) (hbase : base ≤ w.heap.size)
    (h : ∀ v' w', w'.ownsRow base 39 6 v' (xs.length + m) (flatE (xs ++ ys)) → Below base w w' → wpList Tryz.prog ops Q rest (a.put o.dst v') w') : wpList Tryz.prog ops Q (o :: rest) a w := by
  obtain ⟨i0, hi, hz0, hz1, hz2⟩ := info_parts infoEv
  refine wpList_append_rd w hgd s x 35 ho base 39 i0 (.agg #[.int .i64 0, .string ⟨#[]⟩, .int .i64 0, .int .i64 0, .int .i64 0, .int .i64 0]) 6 56 Tryz.underlying35 hi hz0 hz1 hz2 rfl (by decide) v xs.length _ hs hown A m c (flatE ys) hx hr.rd (flatE_one ys) (by unfold maxLen; omega) (by omega) hbase fun v' w' hown' hg _ => ?_
  have hb := (Below.refl base w).grown hg hbase fun k hk => (hown.lt k hk).1
  refine h v' w' ?_ hb
  rw [flatE_append]
  exact hown'
theorem own_slice {w : World} {base n : Nat} {v : Value} {t : TypeId} {sz : Nat} {xs : List Value} (h : w.ownsRow base t sz v n xs) : ∃ A c, v = .slice A n c := by
  rcases h.2 with ⟨rfl, h0⟩ | ⟨g, cap, cur, rfl, _⟩
  · exact ⟨none, 0, by rw [h0]⟩
  · exact ⟨_, _, rfl⟩
set_option maxRecDepth 100000 in
set_option maxHeartbeats 2000000 in
theorem Copy_any (p : Prod) (A : Option Addr) (n c : Nat) (w : World) (hA : RdI w A n p.bounds) (hn : n * 8 ≤ 140737488355328) :
    Calls Tryz.prog 7 #[p.val (.slice A n c)] w fun e w' => (∃ A' c', e = .returned (p.val (.slice A' n c')) ∧ RdI w' A' n p.bounds) ∧ Below w.heap.size w w' := by
  obtain ⟨S, hS⟩ : ∃ S, S = pCells p (.slice A n c) := ⟨_, rfl⟩
  have hval : p.val (.slice A n c) = .agg S := by rw [hS]; rfl
  have hi : (Tryz.prog.info? 25).map (·.size) = some S.size := by rw [hS]; exact info_prod _ _
  rw [hval]
  have HSS := Lib.hid hS
  clear hS hval
  obtain ⟨w1, hw1⟩ : ∃ w1, w1 = (w.alloc (.cells S 25)).alloc (.cells zProd 25) := ⟨_, rfl⟩
  have hz1 : w1.heap.size = w.heap.size + 2 := by rw [hw1]; simp
  have hb1 : Below w.heap.size w w1 := by rw [hw1]; exact ((Below.refl _ _).alloc (Nat.le_refl _) _).alloc (by simp) _
  have hS1 : w1.heap[w.heap.size]? = some (.cells S 25 (0, 0)) := by rw [hw1]; exact heap_old (heap_alloc_new _ _)
  have hT1 : w1.heap[w.heap.size + 1]? = some (.cells zProd 25 (0, 0)) := by rw [hw1, ← World.size_alloc w]; exact heap_alloc_new _ _
  unfold zProd at hw1
  go_enter Tryz.func7, Tryz.ntmps7
  go_upto_region 1 with (fail)
  rw [← hw1]
  clear hw1
  obtain ⟨w2, hw2⟩ : ∃ w2, w2 = w1.alloc (.cells #[] 3) := ⟨_, rfl⟩
  have hb2 : Below w1.heap.size w1 w2 := by rw [hw2]; exact (Below.refl _ _).alloc (Nat.le_refl _) _
  have hown2 : w2.ownsRow w1.heap.size 3 1 (.slice (some ⟨w.heap.size + 2, 0, none⟩) 0 0) 0 [] := by rw [hw2, ← hz1]; exact World.ownsRow_lit w1 #[] 0 (Nat.le_refl _) (by simp [maxLen]) rfl
  have hA2 := hA.below (hb1.trans (hb2.mono hb1.size))
  have c8 : w1.cell? ⟨w.heap.size, 8, none⟩ = some (.slice A n c) := by rw [cell_of_row _ _ _ _ _ _ hS1, HSS.out]; rfl
  have hz2 := hb2.size
  go_wp2_with (first
    | (rw [← hw2]; clear hw2; refine app_int rfl _ _ rfl w1.heap.size _ [] rfl hown2 A n c p.bounds rfl hA2 (by simpa using hn) hz2 ?_))
  intro A' c' w3 hA3 hbk3 hb3
  have hb03 := hb1.trans ((hb2.trans ((by rw [hz1]; exact hb3 : Below w1.heap.size w2 w3))).mono hb1.size)
  have hz3 := hb03.size
  have hS3 := (hb3.block w.heap.size (by omega)).trans ((hb2.block w.heap.size (by omega)).trans hS1)
  have hT3 := (hb3.block (w.heap.size + 1) (by omega)).trans ((hb2.block (w.heap.size + 1) (by omega)).trans hT1)
  obtain ⟨hS4, hk4⟩ := row_set (i := 8) (.slice A' n c') hS3
  have hA4 := hA3.kept hk4 fun ad h => by have := hbk3 ad h; omega
  have hT4 := (hk4.block (w.heap.size + 1) (Array.getElem?_eq_some_iff.1 hT3).1 (by omega)).trans hT3
  have f8 : w3.frozen? ⟨w.heap.size, 8, none⟩ = false := by simp [World.frozen?, hS3]
  have d8 : w3.cell? ⟨w.heap.size, 8, none⟩ = some (.slice A n c) := by rw [cell_of_row _ _ _ _ _ _ hS3, HSS.out]; rfl
  have hb4 := hb03.trans (hk4.below (Nat.le_refl _) hz3)
  have HS' : Hid (S.setIfInBounds 8 (.slice A' n c') = pCells p (.slice A' n c')) := Lib.hid (by rw [HSS.out]; rfl)
  have hi4 : (Tryz.prog.info? 25).map (·.size) = some (S.setIfInBounds 8 (.slice A' n c')).size := by rw [HS'.out]; exact info_prod _ _
  have hsz4 : zProd.size = (S.setIfInBounds 8 (.slice A' n c')).size := by rw [HS'.out]; rfl
  have hone4 : (S.setIfInBounds 8 (.slice A' n c')).all (·.oneCell') = true := by rw [HS'.out]; simp [pCells, Value.oneCell']
  obtain ⟨w4, hw4⟩ : ∃ w4, w4 = w3.setCell ⟨w.heap.size, 8, none⟩ (.slice A' n c') := ⟨_, rfl⟩
  rw [← hw4] at hS4 hk4 hA4 hT4 hb4
  generalize S.setIfInBounds 8 (.slice A' n c') = S' at *
  clear hS3 hT3 hS1 hT1 hA hA2 hown2 hA3
  go_wp2_with (first
    | (rw [← hw4]; clear hw4; refine wpList_load_row rfl 25 _ rfl _ rfl _ _ _ _ hS4 Tryz.underlying25 rfl hi4 ?_)
    | (refine wpList_store_rowTo rfl 25 _ _ rfl rfl _ _ rfl rfl _ _ hT4 hi4 (by first | exact hsz4 | exact hsz4.symm) hone4 ?_))
  have hT5 := setRow_heap _ _ _ S' _ _ hT4
  refine bodyPost_ret (results_cell_row (fn := Tryz.f7) rfl _ _ (w.heap.size + 1) 25 S' (0, 0) _ rfl hT5 Tryz.underlying25 rfl hi4) rfl ⟨⟨A', c', by rw [HS'.out]; rfl, ?_⟩, below_row hb4 (by omega) _⟩
  exact hA4.kept ((KeptBut.refl (w.heap.size + 1) w4).setRow _) fun ad h => by have := hbk3 ad h; omega
end Go.Proofs.YtcbopgopegphlaaGreat

namespace Go.Proofs.YtcbopgopegphlaaGreat
open Go.RowKit
set_option linter.unusedVariables false

def p0 : Prod := ⟨⟨#[112]⟩, 360000000, 1, 1, 12, 1, 2, 3, [1, 30]⟩
def ev1 : Ev := ⟨1, ⟨#[97]⟩, 19723, 1, 100000, 0⟩
def ev2 : Ev := ⟨2, ⟨#[97]⟩, 19754, 2, 5000, 0⟩
theorem p0_ok : p0.Ok where
  name := by decide +kernel
  rate0 := by simp [p0]
  rate1 := by simp [p0]
  conv0 := by simp [p0]
  conv1 := by simp [p0]
  step0 := by simp [p0]
  step1 := by simp [p0]
  count0 := by simp [p0]
  count1 := by simp [p0]
  order := fun k h1 h2 => by simp only [p0]; omega
  len := by simp [p0]
  rises := by simp [p0, risesFrom]
theorem ev1_ok : ev1.Ok := ⟨by decide +kernel, by simp [ev1], by simp [ev1], .inl ⟨.inl rfl, by simp [ev1], by simp [ev1]⟩, by simp [ev1], by simp [ev1], .inr ⟨by simp [ev1], rfl⟩⟩
theorem ev2_ok : ev2.Ok := ⟨by decide +kernel, by simp [ev2], by simp [ev2], .inl ⟨.inr (.inl rfl), by simp [ev2], by simp [ev2]⟩, by simp [ev2], by simp [ev2], .inr ⟨by simp [ev2], rfl⟩⟩
theorem evs1_ok : EvsOk [ev1] := fun i h => by
  obtain rfl : i = 0 := by simp at h; omega
  exact ⟨ev1_ok, by simp [ev1], fun h0 => by omega⟩
theorem evs2_ok : EvsOk [ev1, ev2] := fun i h => by
  rcases (show i = 0 ∨ i = 1 by simp at h; omega) with rfl | rfl
  · exact ⟨ev1_ok, by simp [ev1], fun h0 => by omega⟩
  · exact ⟨ev2_ok, by simp [ev2], fun h0 => .inl (by simp [ev1, ev2])⟩
theorem wk_p1 : partsOf 19723 = (2024, 1, 1) := partsOf_eq (by unfold Valid; decide) (by decide +kernel)
theorem wk_p2 : partsOf 19754 = (2024, 2, 1) := partsOf_eq (by unfold Valid; decide) (by decide +kernel)
theorem wk_count : countOf 1 19723 19754 = (30, 360) := by
  unfold countOf
  rw [if_pos rfl, wk_p1, wk_p2]
  decide +kernel
theorem wk_int : interestOf 100000 360000000 30 360 = (3000, 0) := by decide +kernel
def st1 : St := ⟨19723, 360000000, 100000, 0, 0, 0, 100000, 0, 0, 0, 0, 0⟩
def st2 : St := ⟨19754, 360000000, 100000, 3000, 0, 0, 100000, 0, 3000, 0, 0, 0⟩
def ln1 : Ln := ⟨st1, 19723, true, true⟩
def ln2 : Ln := ⟨⟨19754, 360000000, 98000, 0, 0, 0, 100000, 5000, 3000, 0, 0, 0⟩, 19723, true, true⟩
theorem wk_step1 : evStep p0 (Ln.start p0) ev1 = some ln1 := by
  have h : toDay p0.conv (Ln.start p0) ev1.day = some (Ln.start p0) := by unfold toDay; rw [if_pos (.inl rfl)]
  unfold evStep
  rw [h]
  rfl
theorem wk_accr : accr 1 st1 19754 = some st2 := by
  unfold accr
  rw [show st1.day = 19723 from rfl, show st1.p = 100000 from rfl, show st1.rate = 360000000 from rfl, wk_count, wk_int]
  rw [if_neg (by simp [st1])]
  rfl
theorem wk_to : toDay 1 ln1 19754 = some ⟨st2, 19723, true, true⟩ := by
  unfold toDay
  rw [if_neg (by simp [ln1, st1]), show ln1.s = st1 from rfl, wk_accr]
  rfl
theorem wk_step2 : evStep p0 ln1 ev2 = some ln2 := by
  have h : toDay p0.conv ln1 ev2.day = some ⟨st2, 19723, true, true⟩ := wk_to
  unfold evStep
  rw [h]
  rfl
theorem wk_run1 : evRun p0 19754 (Ln.start p0) [ev1] = some ln1 := by
  rw [evRun, if_neg (by simp [ev1]), wk_step1]
  rfl
theorem wk_run2 : evRun p0 19754 (Ln.start p0) [ev1, ev2] = some ln2 := by
  rw [evRun, if_neg (by simp [ev1]), wk_step1]
  simp only
  rw [evRun, if_neg (by simp [ev2]), wk_step2]
  rfl
theorem wk_ans1 : ∃ s, replayAns p0 [ev1] 19754 = (s, 0) ∧ s.i = 3000 ∧ s.p = 100000 := by
  rw [replay_run p0_ok (by decide) (by simp) evs1_ok, wk_run1]
  have h : toDay p0.conv ln1 19754 = some ⟨st2, 19723, true, true⟩ := wk_to
  simp only [endOf, h]
  exact ⟨_, rfl, rfl, rfl⟩
theorem wk_ans2 : ∃ s, replayAns p0 [ev1, ev2] 19754 = (s, 0) ∧ s.i = 0 ∧ s.p = 98000 := by
  rw [replay_run p0_ok (by decide) (by simp) evs2_ok, wk_run2]
  have h : toDay p0.conv ln2 19754 = some ln2 := by
    unfold toDay
    rw [if_pos (.inr (by simp [ln2]))]
  simp only [endOf, h]
  exact ⟨_, rfl, rfl, rfl⟩
theorem wk_add : addDay 19723 1 = (19754, 0) := by
  unfold addDay
  rw [wk_p1]
  decide +kernel
theorem wk_late : lateAns p0 19723 1200 0 19756 = (2, 1, 0) := by
  have h : lateOf p0 19723 1200 0 19756 = 2 := by
    unfold lateOf
    rw [show p0.count.toNat = 11 + 1 from rfl, lateFrom, show ((1 : Nat) : Int) * p0.step = 1 from rfl, wk_add, if_neg (by simp), if_pos (by decide +kernel)]
    rfl
  unfold lateAns
  rw [if_neg (by simpa using p0_ok), if_neg (by simp), if_neg (by simp), h]
  rfl
end Go.Proofs.YtcbopgopegphlaaGreat

namespace Go.Proofs.YtcbopgopegphlaaGreat
open Go.RowKit
set_option linter.unusedVariables false

theorem Below.then {w1 W w5 : World} (k : Below W.heap.size W w5) (h : Below w1.heap.size w1 W) : Below w1.heap.size w1 w5 := h.trans (k.mono h.size)
theorem cells12 {W : World} {g : Nat} (h : W.heap[g]? = some (.cells #[.int .i64 0, .int .i64 0, .int .i64 0, .int .i64 0, .int .i64 0, .int .i64 0, .int .i64 0, .int .i64 0, .int .i64 0, .int .i64 0, .int .i64 0, .int .i64 0] 45 (0, 0))) : (W.cell? ⟨g, 0, none⟩ = some (.int .i64 0) ∧ W.cell? ⟨g, 1, none⟩ = some (.int .i64 0) ∧ W.cell? ⟨g, 2, none⟩ = some (.int .i64 0) ∧ W.cell? ⟨g, 3, none⟩ = some (.int .i64 0) ∧ W.cell? ⟨g, 4, none⟩ = some (.int .i64 0) ∧ W.cell? ⟨g, 5, none⟩ = some (.int .i64 0) ∧ W.cell? ⟨g, 6, none⟩ = some (.int .i64 0) ∧ W.cell? ⟨g, 7, none⟩ = some (.int .i64 0) ∧ W.cell? ⟨g, 8, none⟩ = some (.int .i64 0) ∧ W.cell? ⟨g, 9, none⟩ = some (.int .i64 0) ∧ W.cell? ⟨g, 10, none⟩ = some (.int .i64 0) ∧ W.cell? ⟨g, 11, none⟩ = some (.int .i64 0)) ∧ W.frozen? ⟨g, 0, none⟩ = false ∧ W.frozen? ⟨g, 1, none⟩ = false ∧ W.frozen? ⟨g, 2, none⟩ = false ∧ W.frozen? ⟨g, 3, none⟩ = false ∧ W.frozen? ⟨g, 4, none⟩ = false ∧ W.frozen? ⟨g, 5, none⟩ = false ∧ W.frozen? ⟨g, 6, none⟩ = false ∧ W.frozen? ⟨g, 7, none⟩ = false ∧ W.frozen? ⟨g, 8, none⟩ = false ∧ W.frozen? ⟨g, 9, none⟩ = false ∧ W.frozen? ⟨g, 10, none⟩ = false ∧ W.frozen? ⟨g, 11, none⟩ = false := by
  refine ⟨⟨?_, ?_, ?_, ?_, ?_, ?_, ?_, ?_, ?_, ?_, ?_, ?_⟩, ?_, ?_, ?_, ?_, ?_, ?_, ?_, ?_, ?_, ?_, ?_, ?_⟩
  all_goals first | (rw [cell_of_row _ _ _ _ _ _ h]; rfl) | (simp [World.frozen?, h]; done)
theorem row12 {W : World} {g : Nat} (h : W.heap[g]? = some (.cells #[.int .i64 0, .int .i64 0, .int .i64 0, .int .i64 0, .int .i64 0, .int .i64 0, .int .i64 0, .int .i64 0, .int .i64 0, .int .i64 0, .int .i64 0, .int .i64 0] 45 (0, 0))) (v0 v1 v2 v3 v4 v5 v6 v7 v8 v9 v10 v11 : Value) : ((((((((((((W.setCell ⟨g, 0, none⟩ v0).setCell ⟨g, 1, none⟩ v1).setCell ⟨g, 2, none⟩ v2).setCell ⟨g, 3, none⟩ v3).setCell ⟨g, 4, none⟩ v4).setCell ⟨g, 5, none⟩ v5).setCell ⟨g, 6, none⟩ v6).setCell ⟨g, 7, none⟩ v7).setCell ⟨g, 8, none⟩ v8).setCell ⟨g, 9, none⟩ v9).setCell ⟨g, 10, none⟩ v10).setCell ⟨g, 11, none⟩ v11).heap[g]? = some (.cells #[v0, v1, v2, v3, v4, v5, v6, v7, v8, v9, v10, v11] 45 (0, 0)) := by
  have h0 := (row_set (i := 0) v0 h).1
  have h1 := (row_set (i := 1) v1 h0).1
  have h2 := (row_set (i := 2) v2 h1).1
  have h3 := (row_set (i := 3) v3 h2).1
  have h4 := (row_set (i := 4) v4 h3).1
  have h5 := (row_set (i := 5) v5 h4).1
  have h6 := (row_set (i := 6) v6 h5).1
  have h7 := (row_set (i := 7) v7 h6).1
  have h8 := (row_set (i := 8) v8 h7).1
  have h9 := (row_set (i := 9) v9 h8).1
  have h10 := (row_set (i := 10) v10 h9).1
  have h11 := (row_set (i := 11) v11 h10).1
  simp only [List.setIfInBounds_toArray, List.set_cons_zero, List.set_cons_succ] at h11
  exact h11
theorem row_now {W w5 : World} {o : Obj} (hb : Below (W.alloc o).heap.size (W.alloc o) w5) : w5.heap[W.heap.size]? = some o := (hb.block _ (by simp)).trans (heap_alloc_new _ _)
theorem row_kept {W w5 : World} {g : Nat} {o : Obj} (h : W.heap[g]? = some o) (hb : Below W.heap.size W w5) : w5.heap[g]? = some o := (hb.block _ (Array.getElem?_eq_some_iff.1 h).1).trans h
theorem row_kept' {W w5 : World} {g : Nat} {o q : Obj} (h : W.heap[g]? = some o) (hb : Below (W.alloc q).heap.size (W.alloc q) w5) : w5.heap[g]? = some o := row_kept (heap_old h) hb
theorem rangeAt_row {W : World} {g : Nat} {cs : Array Value} {t : TypeId} {fr : Nat × Nat} (h : W.heap[g]? = some (.cells cs t fr)) : W.rangeAt g 0 cs.toList := fun j v hv => by
  rw [cell_of_row _ _ _ _ _ _ h]
  simpa using hv
set_option maxHeartbeats 1000000 in
theorem wk_rows (w : World) : ∃ w1, w1 = ((w.alloc (.cells #[.int .i64 1, .int .i64 30] 3)).alloc (.cells #[.string ⟨#[112]⟩, .int .i64 360000000, .int .i64 1, .int .i64 1, .int .i64 12, .int .i64 1, .int .i64 2, .int .i64 3, (.slice (some ⟨w.heap.size, 0, none⟩) 2 2)] 25)).alloc (.cells #[.int .i64 1, .string ⟨#[97]⟩, .int .i64 19723, .int .i64 1, .int .i64 100000, .int .i64 0, .int .i64 2, .string ⟨#[97]⟩, .int .i64 19754, .int .i64 2, .int .i64 5000, .int .i64 0] 39) ∧
    Below w.heap.size w w1 ∧ w.heap.size + 1 < w1.heap.size ∧ w1.heap[w.heap.size + 1]? = some (.cells (pCells p0 (.slice (some ⟨w.heap.size, 0, none⟩) 2 2)) 25 (0, 0)) ∧ RdI w1 (some ⟨w.heap.size, 0, none⟩) 2 p0.bounds ∧
    RdE w1 (some ⟨w.heap.size + 1 + 1, 0, none⟩) 1 [ev1] ∧ RdE w1 (some ⟨w.heap.size + 1 + 1, 0, none⟩) 2 [ev1, ev2] := by
  refine ⟨_, rfl, (((Below.refl _ _).alloc (Nat.le_refl _) _).alloc (by simp) _).alloc (by first | (simp; done) | (simp; omega)) _, by first | (simp; done) | (simp; omega), ?_, ?_, ?_, ?_⟩
  · refine heap_old ?_
    rw [← World.size_alloc w]
    exact heap_alloc_new _ _
  · have h := heap_old (p := .cells #[.int .i64 1, .string ⟨#[97]⟩, .int .i64 19723, .int .i64 1, .int .i64 100000, .int .i64 0, .int .i64 2, .string ⟨#[97]⟩, .int .i64 19754, .int .i64 2, .int .i64 5000, .int .i64 0] 39) (heap_old (p := .cells #[.string ⟨#[112]⟩, .int .i64 360000000, .int .i64 1, .int .i64 1, .int .i64 12, .int .i64 1, .int .i64 2, .int .i64 3, (.slice (some ⟨w.heap.size, 0, none⟩) 2 2)] 25) (heap_alloc_new w (.cells #[.int .i64 1, .int .i64 30] 3)))
    refine ⟨rfl, fun _ => ⟨w.heap.size, 0, rfl, fun j u hu => ?_⟩⟩
    rw [cell_of_row _ _ _ _ _ _ h]
    have hj := (List.getElem?_eq_some_iff.1 hu).1
    have hj2 : j < 2 := hj
    rcases (show j = 0 ∨ j = 1 by omega) with rfl | rfl <;> exact hu
  all_goals
    have h := heap_alloc_new ((w.alloc (.cells #[.int .i64 1, .int .i64 30] 3)).alloc (.cells #[.string ⟨#[112]⟩, .int .i64 360000000, .int .i64 1, .int .i64 1, .int .i64 12, .int .i64 1, .int .i64 2, .int .i64 3, (.slice (some ⟨w.heap.size, 0, none⟩) 2 2)] 25)) (.cells #[.int .i64 1, .string ⟨#[97]⟩, .int .i64 19723, .int .i64 1, .int .i64 100000, .int .i64 0, .int .i64 2, .string ⟨#[97]⟩, .int .i64 19754, .int .i64 2, .int .i64 5000, .int .i64 0] 39)
    rw [World.size_alloc, World.size_alloc] at h
    refine ⟨rfl, fun _ => ⟨w.heap.size + 1 + 1, 0, rfl, fun j hj k u hu => ?_⟩⟩
    refine (cell_of_row _ _ _ _ _ _ h).trans ?_
    clear h
    have hk : k < 6 := (Array.getElem?_eq_some_iff.1 hu).1
  · obtain rfl : j = 0 := by simp at hj; omega
    rcases (show k = 0 ∨ k = 1 ∨ k = 2 ∨ k = 3 ∨ k = 4 ∨ k = 5 by omega) with rfl | rfl | rfl | rfl | rfl | rfl <;> simpa [evCells, ev1] using hu
  · rcases (show j = 0 ∨ j = 1 by simp at hj; omega) with rfl | rfl <;> rcases (show k = 0 ∨ k = 1 ∨ k = 2 ∨ k = 3 ∨ k = 4 ∨ k = 5 by omega) with rfl | rfl | rfl | rfl | rfl | rfl <;> simpa [evCells, ev1, ev2] using hu
theorem RdE.alloc {w : World} {A : Option Addr} {n : Nat} {l : List Ev} (h : RdE w A n l) (o : Obj) : RdE (w.alloc o) A n l := h.below ((Below.refl _ _).alloc (Nat.le_refl _) _)
theorem RdI.alloc {w : World} {A : Option Addr} {n : Nat} {l : List Int} (h : RdI w A n l) (o : Obj) : RdI (w.alloc o) A n l := h.below ((Below.refl _ _).alloc (Nat.le_refl _) _)
theorem wk_copy (A : Option Addr) (c : Nat) (W : World) (hA : RdI W A 2 p0.bounds) :
    Calls Tryz.prog 7 #[.agg #[.string ⟨#[112]⟩, .int .i64 360000000, .int .i64 1, .int .i64 1, .int .i64 12, .int .i64 1, .int .i64 2, .int .i64 3, (.slice A 2 c)]] W fun e w' => (∃ A' c', e = .returned (.agg #[.string ⟨#[112]⟩, .int .i64 360000000, .int .i64 1, .int .i64 1, .int .i64 12, .int .i64 1, .int .i64 2, .int .i64 3, (.slice A' 2 c')]) ∧ RdI w' A' 2 p0.bounds) ∧ Below W.heap.size W w' := Copy_any p0 A 2 c W hA (by omega)
end Go.Proofs.YtcbopgopegphlaaGreat
