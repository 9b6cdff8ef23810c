/-
  AccrueOwn: what its region of calls, an append and an allocation wants. No statement is proved here.
-/
import Derived.Test.YtmpbpgcmiboflaaAcWW
import Derived.Test.YtmpbpgcmiboflaaAcM
namespace Go.Proofs.Ytmpbpgcmiboflaa
open Go.RowKit
set_option linter.unusedVariables false

def ev77 : Ev := ⟨77, ⟨#[]⟩, 0, 0, 0, 0⟩
theorem rowE77 (W : World) : RdE (W.alloc (.cells #[.int .i64 77, .string ⟨#[]⟩, .int .i64 0, .int .i64 0, .int .i64 0, .int .i64 0] 46)) (some ⟨W.heap.size, 0, none⟩) 1 [ev77] :=
  ⟨rfl, fun _ => ⟨W.heap.size, 0, rfl, fun j hj k u hu => by
    obtain rfl : j = 0 := by simp at hj; omega
    have h := heap_alloc_new W (.cells #[.int .i64 77, .string ⟨#[]⟩, .int .i64 0, .int .i64 0, .int .i64 0, .int .i64 0] 46)
    refine (cell_of_row _ _ _ _ _ _ h).trans ?_
    have hk : k < 6 := (Array.getElem?_eq_some_iff.1 hu).1
    rcases (show k = 0 ∨ k = 1 ∨ k = 2 ∨ k = 3 ∨ k = 4 ∨ k = 5 by omega) with rfl | rfl | rfl | rfl | rfl | rfl <;> simpa [evCells, ev77] using hu⟩⟩
theorem drewsz (w : World) : w.drew.heap.size = w.heap.size := rfl
theorem own_slice2 {w : World} {base n : Nat} {v : Value} {t : TypeId} {sz : Nat} {xs : List Value} (h : w.ownsRow base t sz v n xs) : ∃ A c, v = .slice A n c ∧ n ≤ c := by
  rcases h.2 with ⟨rfl, h0⟩ | ⟨g, cap, cur, rfl, _, _, hle, _⟩
  · exact ⟨none, 0, by rw [h0], by omega⟩
  · exact ⟨_, _, rfl, hle⟩
theorem step_app_e {ops : Array Oper} {o : Oper} {a : Act} {K : Act → World → Prop} {Q : Exit → Act → World → Prop} {E : Prop} {w : World} (hgd : o.guard = none) (s x : Operand)
    (ho : o.op = .call { callee := .builtin .append, args := #[s, x], argTypes := #[26, 26] })
    (base : Nat) (v : Value) (xs : List Ev) (n : Nat) (hn : xs.length = n) (hs : a.eval s = v) (hown : w.ownsRow base 46 6 v n (flatE xs))
    (A : Option Addr) (m c : Nat) (ys : List Ev) (hx : a.eval x = .slice A m c) (hr : RdE w A m ys)
    (hlen : (n + m) * 56 ≤ 140737488355328) (hbase : base ≤ w.heap.size)
    (h : ∀ A' c' w', n + m ≤ c' → RdE w' A' (n + m) (xs ++ ys) → Below base w w' → (∀ g o, w.heap[g]? = some o → (∀ k, v.ownBlock = some k → k ≠ g) → w'.heap[g]? = some o ∧ ∀ ad, A' = some ad → ad.block ≠ g) → K (a.put o.dst (.slice A' (n + m) c')) w') :
    if Region.wanted o (yielded ops a.tmps) = true then Oper.wp Try.prog o a w K Q else E := by
  have hw : Region.wanted o (yielded ops a.tmps) = true := by simp [Region.wanted, hgd]
  rw [if_pos hw]
  obtain ⟨i0, hi, hz0, hz1, hz2⟩ := info_parts infoEv
  subst hn
  refine wp_append_rd w s x 26 ho base 46 i0 (.agg #[.int .i64 0, .string ⟨#[]⟩, .int .i64 0, .int .i64 0, .int .i64 0, .int .i64 0]) 6 56 Try.underlying26 hi hz0 hz1 hz2 rfl (by decide) v xs.length _ hs hown A m c (flatE ys) hx hr.rd (flatE_one ys) (by unfold maxLen; omega) (by omega) hbase fun v' w' hown' hg hbk => ?_
  have hb := (Below.refl base w).grown hg hbase fun k hk => (hown.lt k hk).1
  rw [← flatE_append] at hown'
  obtain ⟨A', c', rfl, hle⟩ := own_slice2 hown'
  refine h A' c' w' hle (Rd.of_own hown').ev hb fun g o hgo hne => ?_
  have hlt : g < w.heap.size := (Array.getElem?_eq_some_iff.1 hgo).1
  refine ⟨(hg.block g hlt (fun e => hne g e.symm rfl)).trans hgo, fun ad e => ?_⟩
  subst e
  rcases hbk with hbk | hbk
  · exact hne ad.block (by rw [← hbk]; rfl)
  · have : ad.block = w.heap.size := by simpa [Value.ownBlock] using hbk
    omega
theorem cells9 {W : World} {g : Nat} (h : W.heap[g]? = some (.cells #[.string ⟨#[]⟩, .int .i64 0, .int .i64 0, .int .i64 0, .int .i64 0, .int .i64 0, .int .i64 0, .int .i64 0, .slice none 0 0] 25 (0, 0))) : (W.cell? ⟨g, 0, none⟩ = some (.string ⟨#[]⟩) ∧ W.cell? ⟨g, 1, none⟩ = some (.int .i64 0) ∧ W.cell? ⟨g, 2, none⟩ = some (.int .i64 0) ∧ W.cell? ⟨g, 3, none⟩ = some (.int .i64 0) ∧ W.cell? ⟨g, 4, none⟩ = some (.int .i64 0) ∧ W.cell? ⟨g, 5, none⟩ = some (.int .i64 0) ∧ W.cell? ⟨g, 6, none⟩ = some (.int .i64 0) ∧ W.cell? ⟨g, 7, none⟩ = some (.int .i64 0) ∧ W.cell? ⟨g, 8, none⟩ = some (.slice none 0 0)) ∧ W.frozen? ⟨g, 0, none⟩ = false ∧ W.frozen? ⟨g, 1, none⟩ = false ∧ W.frozen? ⟨g, 2, none⟩ = false ∧ W.frozen? ⟨g, 3, none⟩ = false ∧ W.frozen? ⟨g, 4, none⟩ = false ∧ W.frozen? ⟨g, 5, none⟩ = false ∧ W.frozen? ⟨g, 6, none⟩ = false ∧ W.frozen? ⟨g, 7, none⟩ = false ∧ W.frozen? ⟨g, 8, none⟩ = false := by
  refine ⟨⟨?_, ?_, ?_, ?_, ?_, ?_, ?_, ?_, ?_⟩, ?_, ?_, ?_, ?_, ?_, ?_, ?_, ?_, ?_⟩
  all_goals first | (rw [cell_of_row _ _ _ _ _ _ h]; rfl) | (simp [World.frozen?, h]; done)
theorem row9 {W : World} {g : Nat} (h : W.heap[g]? = some (.cells #[.string ⟨#[]⟩, .int .i64 0, .int .i64 0, .int .i64 0, .int .i64 0, .int .i64 0, .int .i64 0, .int .i64 0, .slice none 0 0] 25 (0, 0))) (v0 v1 v2 v3 v4 v5 v6 v7 v8 : Value) : ((((((((((W.setCell ⟨g, 0, none⟩ v0).setCell ⟨g, 1, none⟩ v1).setCell ⟨g, 2, none⟩ v2).setCell ⟨g, 3, none⟩ v3).setCell ⟨g, 4, none⟩ v4).setCell ⟨g, 5, none⟩ v5).setCell ⟨g, 6, none⟩ v6).setCell ⟨g, 7, none⟩ v7).setCell ⟨g, 8, none⟩ v8)).heap[g]? = some (.cells #[v0, v1, v2, v3, v4, v5, v6, v7, v8] 25 (0, 0)) := by
  have h0 := (row_set (i := 0) v0 h).1
  have h1 := (row_set (i := 1) v1 h0).1
  have h2 := (row_set (i := 2) v2 h1).1
  have h3 := (row_set (i := 3) v3 h2).1
  have h4 := (row_set (i := 4) v4 h3).1
  have h5 := (row_set (i := 5) v5 h4).1
  have h6 := (row_set (i := 6) v6 h5).1
  have h7 := (row_set (i := 7) v7 h6).1
  have h8 := (row_set (i := 8) v8 h7).1
  simp only [List.setIfInBounds_toArray, List.set_cons_zero, List.set_cons_succ] at h8
  exact h8
set_option maxRecDepth 100000 in
set_option maxHeartbeats 2000000 in
theorem Copy_new (p : Prod) (A : Option Addr) (n c : Nat) (w : World) (hA : RdI w A n p.bounds) (hn : n * 8 ≤ 140737488355328) :
    Calls Try.prog 12 #[p.val (.slice A n c)] w fun e w' => (∃ A' c', e = .returned (p.val (.slice A' n c')) ∧ RdI w' A' n p.bounds ∧ ∀ ad, A' = some ad → w.heap.size ≤ ad.block) ∧ Below w.heap.size w w' := by
  obtain ⟨S, hS⟩ : ∃ S, S = pCells p (.slice A n c) := ⟨_, rfl⟩
  have hval : p.val (.slice A n c) = .agg S := by rw [hS]; rfl
  have hi : (Try.prog.info? 25).map (·.size) = some S.size := by rw [hS]; exact info_prod _ _
  rw [hval]
  have HSS := Lib.hid hS
  clear hS hval
  obtain ⟨w1, hw1⟩ : ∃ w1, w1 = (w.alloc (.cells S 25)).alloc (.cells zProd 25) := ⟨_, rfl⟩
  have hz1 : w1.heap.size = w.heap.size + 2 := by rw [hw1]; simp
  have hb1 : Below w.heap.size w w1 := by rw [hw1]; exact ((Below.refl _ _).alloc (Nat.le_refl _) _).alloc (by simp) _
  have hS1 : w1.heap[w.heap.size]? = some (.cells S 25 (0, 0)) := by rw [hw1]; exact heap_old (heap_alloc_new _ _)
  have hT1 : w1.heap[w.heap.size + 1]? = some (.cells zProd 25 (0, 0)) := by rw [hw1, ← World.size_alloc w]; exact heap_alloc_new _ _
  unfold zProd at hw1
  go_enter Try.func12, Try.ntmps12
  go_upto_region 1 with (fail)
  rw [← hw1]
  clear hw1
  obtain ⟨w2, hw2⟩ : ∃ w2, w2 = w1.alloc (.cells #[] 3) := ⟨_, rfl⟩
  have hb2 : Below w1.heap.size w1 w2 := by rw [hw2]; exact (Below.refl _ _).alloc (Nat.le_refl _) _
  have hown2 : w2.ownsRow w1.heap.size 3 1 (.slice (some ⟨w.heap.size + 2, 0, none⟩) 0 0) 0 [] := by rw [hw2, ← hz1]; exact World.ownsRow_lit w1 #[] 0 (Nat.le_refl _) (by simp [maxLen]) rfl
  have hA2 := hA.below (hb1.trans (hb2.mono hb1.size))
  have c8 : w1.cell? ⟨w.heap.size, 8, none⟩ = some (.slice A n c) := by rw [cell_of_row _ _ _ _ _ _ hS1, HSS.out]; rfl
  have hz2 := hb2.size
  go_wp2_with (first
    | (rw [← hw2]; clear hw2; refine app_int rfl _ _ rfl w1.heap.size _ [] rfl hown2 A n c p.bounds rfl hA2 (by simpa using hn) hz2 ?_))
  intro A' c' w3 hA3 hbk3 hb3
  have hb03 := hb1.trans ((hb2.trans ((by rw [hz1]; exact hb3 : Below w1.heap.size w2 w3))).mono hb1.size)
  have hz3 := hb03.size
  have hS3 := (hb3.block w.heap.size (by omega)).trans ((hb2.block w.heap.size (by omega)).trans hS1)
  have hT3 := (hb3.block (w.heap.size + 1) (by omega)).trans ((hb2.block (w.heap.size + 1) (by omega)).trans hT1)
  obtain ⟨hS4, hk4⟩ := row_set (i := 8) (.slice A' n c') hS3
  have hA4 := hA3.kept hk4 fun ad h => by have := hbk3 ad h; omega
  have hT4 := (hk4.block (w.heap.size + 1) (Array.getElem?_eq_some_iff.1 hT3).1 (by omega)).trans hT3
  have f8 : w3.frozen? ⟨w.heap.size, 8, none⟩ = false := by simp [World.frozen?, hS3]
  have d8 : w3.cell? ⟨w.heap.size, 8, none⟩ = some (.slice A n c) := by rw [cell_of_row _ _ _ _ _ _ hS3, HSS.out]; rfl
  have hb4 := hb03.trans (hk4.below (Nat.le_refl _) hz3)
  have HS' : Hid (S.setIfInBounds 8 (.slice A' n c') = pCells p (.slice A' n c')) := Lib.hid (by rw [HSS.out]; rfl)
  have hi4 : (Try.prog.info? 25).map (·.size) = some (S.setIfInBounds 8 (.slice A' n c')).size := by rw [HS'.out]; exact info_prod _ _
  have hsz4 : zProd.size = (S.setIfInBounds 8 (.slice A' n c')).size := by rw [HS'.out]; rfl
  have hone4 : (S.setIfInBounds 8 (.slice A' n c')).all (·.oneCell') = true := by rw [HS'.out]; simp [pCells, Value.oneCell']
  obtain ⟨w4, hw4⟩ : ∃ w4, w4 = w3.setCell ⟨w.heap.size, 8, none⟩ (.slice A' n c') := ⟨_, rfl⟩
  rw [← hw4] at hS4 hk4 hA4 hT4 hb4
  generalize S.setIfInBounds 8 (.slice A' n c') = S' at *
  clear hS3 hT3 hS1 hT1 hA hA2 hown2 hA3
  go_wp2_with (first
    | (rw [← hw4]; clear hw4; refine wpList_load_row rfl 25 _ rfl _ rfl _ _ _ _ hS4 Try.underlying25 rfl hi4 ?_)
    | (refine wpList_store_rowTo rfl 25 _ _ rfl rfl _ _ rfl rfl _ _ hT4 hi4 (by first | exact hsz4 | exact hsz4.symm) hone4 ?_))
  have hT5 := setRow_heap _ _ _ S' _ _ hT4
  refine bodyPost_ret (results_cell_row (fn := Try.f12) rfl _ _ (w.heap.size + 1) 25 S' (0, 0) _ rfl hT5 Try.underlying25 rfl hi4) rfl ⟨⟨A', c', by rw [HS'.out]; rfl, ?_, fun ad h => by have := hbk3 ad h; omega⟩, below_row hb4 (by omega) _⟩
  exact hA4.kept ((KeptBut.refl (w.heap.size + 1) w4).setRow _) fun ad h => by have := hbk3 ad h; omega
theorem keep9 {W : World} {g : Nat} (h : W.heap[g]? = some (.cells #[.string ⟨#[]⟩, .int .i64 0, .int .i64 0, .int .i64 0, .int .i64 0, .int .i64 0, .int .i64 0, .int .i64 0, .slice none 0 0] 25 (0, 0))) (v0 v1 v2 v3 v4 v5 v6 v7 v8 : Value) : KeptBut g W (((((((((W.setCell ⟨g, 0, none⟩ v0).setCell ⟨g, 1, none⟩ v1).setCell ⟨g, 2, none⟩ v2).setCell ⟨g, 3, none⟩ v3).setCell ⟨g, 4, none⟩ v4).setCell ⟨g, 5, none⟩ v5).setCell ⟨g, 6, none⟩ v6).setCell ⟨g, 7, none⟩ v7).setCell ⟨g, 8, none⟩ v8) := by
  obtain ⟨h0, k0⟩ := row_set (i := 0) v0 h
  obtain ⟨h1, k1⟩ := row_set (i := 1) v1 h0
  obtain ⟨h2, k2⟩ := row_set (i := 2) v2 h1
  obtain ⟨h3, k3⟩ := row_set (i := 3) v3 h2
  obtain ⟨h4, k4⟩ := row_set (i := 4) v4 h3
  obtain ⟨h5, k5⟩ := row_set (i := 5) v5 h4
  obtain ⟨h6, k6⟩ := row_set (i := 6) v6 h5
  obtain ⟨h7, k7⟩ := row_set (i := 7) v7 h6
  obtain ⟨h8, k8⟩ := row_set (i := 8) v8 h7
  exact (((((((k0.trans k1).trans k2).trans k3).trans k4).trans k5).trans k6).trans k7).trans k8
theorem RdE.kept {w w' : World} {A : Option Addr} {n g : Nat} {l : List Ev} (h : RdE w A n l) (hk : KeptBut g w w') (hA : ∀ ad, A = some ad → ad.block ≠ g) : RdE w' A n l :=
  ⟨h.1, fun hn => by
    obtain ⟨b, off, e, hc⟩ := h.2 hn
    exact ⟨b, off, e, fun j hj k u hu => hk.cell (by simpa using hA _ e) (hc j hj k u hu)⟩⟩
theorem cell_in {w : World} {a : Addr} {v : Value} (h : w.cell? a = some v) : a.block < w.heap.size := by
  apply Classical.byContradiction
  intro hn
  have h0 : w.heap[a.block]? = none := Array.getElem?_eq_none (by omega)
  simp [World.cell?, h0] at h
theorem RdE.lt {w : World} {A : Option Addr} {n : Nat} {l : List Ev} (h : RdE w A n l) (hn : 0 < n) : ∀ ad, A = some ad → ad.block < w.heap.size := fun ad e => by
  obtain ⟨b, off, rfl, hc⟩ := h.2 hn
  injection e with e
  subst e
  have := hc 0 (by have := h.1; omega) 0 _ (show (evCells _)[0]? = some _ from rfl)
  exact cell_in this
theorem elemUndE : Try.prog.underlying 26 = some (.slice (Try.prog.elem 26)) := by kernel_rfl
theorem cut_e (E : Option Addr) (m ce j : Nat) (hj : j ≤ m) (hm : m ≤ ce) : ∃ E', (∀ W, (Instr.slice 26 (.slice E m ce) none (some (.int .i64 (j : Int))) none).run Try.prog W = .ok (.slice E' j ce) W) ∧ (∀ W l, RdE W E m l → RdE W E' j (l.take j)) := by
  refine ⟨(if ce = 0 then E else E.map (·.add (0 * 6))), fun W => ?_, fun W l h => ?_⟩
  · have hs : (sizeOf (Try.prog.elem 26)).run Try.prog W = .ok 6 W := by kernel_rfl
    rw [run_slice_h W 26 E m ce elemUndE .i64 _ (by omega) (by omega), hs]
    simp [Result.andThen, sliced]
  · have hl := h.1
    refine ⟨by rw [List.length_take]; omega, fun h0 => ?_⟩
    obtain ⟨b, off, rfl, hc⟩ := h.2 (by omega)
    refine ⟨b, off, by rw [if_neg (by omega)]; simp [Addr.add], fun q hq k u hu => ?_⟩
    rw [List.getElem_take] at hu
    exact hc q (by rw [List.length_take] at hq; omega) k u hu

end Go.Proofs.Ytmpbpgcmiboflaa
