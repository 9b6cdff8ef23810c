/-
  The walk of the reference's Lines.
-/
import Derived.Test.YtpmbbhefcejjlaaLedW
namespace Go.Proofs.Ytpmbbhefcejjlaa
open Go.RowKit
set_option linter.unusedVariables false

theorem RdL.lo {w w' : World} {B g off n : Nat} {ls : List (Int × Int)} (h : RdL w (some ⟨g, off, none⟩) n ls) (hg : g < B) (hb : Below B w w') : RdL w' (some ⟨g, off, none⟩) n ls :=
  ⟨h.1, fun hn => by
    obtain ⟨b', off', e, hc⟩ := h.2 hn
    refine ⟨b', off', e, fun j u hu => ?_⟩
    injection e with e
    injection e with e1 e2
    subst e1 e2
    exact (hb.cell (p := ⟨g, off + j, none⟩) hg).trans (hc j u hu)⟩
theorem filter_snoc (l : List (Int × Int)) (j : Nat) (h : j < l.length) : (l.take (j + 1)).filter (fun x => x.2 != 0) = (l.take j).filter (fun x => x.2 != 0) ++ (if l[j].2 != 0 then [l[j]] else []) := by
  rw [take_snoc' l j h, List.filter_append]
  congr 1
  by_cases hz : l[j].2 = 0 <;> simp [hz]
theorem linesAt_far {s t : St} (h : ¬ (Within s ∧ Within t)) : linesAt s t = ([], 2) := by unfold linesAt; rw [if_pos h]
theorem linesAt_odd {s t : St} (h1 : Within s) (h2 : Within t) (h : ¬ (Even s ∧ Even t)) : linesAt s t = ([], 52) := by unfold linesAt; rw [if_neg (fun h => h ⟨h1, h2⟩), if_pos h]
theorem linesAt_ok {s t : St} (h1 : Within s) (h2 : Within t) (h3 : Even s) (h4 : Even t) : linesAt s t = (linesOf s t, 0) := by unfold linesAt; rw [if_neg (fun h => h ⟨h1, h2⟩), if_neg (fun h => h ⟨h3, h4⟩)]

theorem OwnL.lower {w : World} {base base' : Nat} {v : Value} {ls : List (Int × Int)} (h : OwnL w base v ls) (hb : base' ≤ base) : OwnL w base' v ls := by
  refine ⟨h.1, ?_⟩
  rcases h.2 with h2 | ⟨g, cap, cur, hv, hg, r⟩
  · exact .inl h2
  · exact .inr ⟨g, cap, cur, hv, Nat.le_trans hb hg, r⟩
theorem heap_alloc_old {w : World} {k : Nat} {o p : Obj} (h : w.heap[k]? = some o) : (w.alloc p).heap[k]? = some o := by
  have hk := (Array.getElem?_eq_some_iff.1 h).1
  exact ((Below.refl w.heap.size w).alloc (Nat.le_refl _) p).block k hk |>.trans h
/-- A state that lies in a row: its cells. -/
def stCells (s : St) : Array Value := #[.int .i64 s.day, .int .i64 s.rate, .int .i64 s.p, .int .i64 s.i, .int .i64 s.f, .int .i64 s.c, .int .i64 s.o, .int .i64 s.n, .int .i64 s.a, .int .i64 s.ch, .int .i64 s.late, .int .i64 s.bk]
theorem st_cells {w : World} {g : Nat} {t : TypeId} (s : St) (h : w.heap[g]? = some (.cells (stCells s) t (0, 0))) : w.cell? ⟨g, 0, none⟩ = some (.int .i64 s.day) ∧ w.cell? ⟨g, 1, none⟩ = some (.int .i64 s.rate) ∧ w.cell? ⟨g, 2, none⟩ = some (.int .i64 s.p) ∧ w.cell? ⟨g, 3, none⟩ = some (.int .i64 s.i) ∧ w.cell? ⟨g, 4, none⟩ = some (.int .i64 s.f) ∧ w.cell? ⟨g, 5, none⟩ = some (.int .i64 s.c) ∧ w.cell? ⟨g, 6, none⟩ = some (.int .i64 s.o) ∧ w.cell? ⟨g, 7, none⟩ = some (.int .i64 s.n) ∧ w.cell? ⟨g, 8, none⟩ = some (.int .i64 s.a) ∧ w.cell? ⟨g, 9, none⟩ = some (.int .i64 s.ch) ∧ w.cell? ⟨g, 10, none⟩ = some (.int .i64 s.late) ∧ w.cell? ⟨g, 11, none⟩ = some (.int .i64 s.bk) := by
  refine ⟨?_, ?_, ?_, ?_, ?_, ?_, ?_, ?_, ?_, ?_, ?_, ?_⟩ <;> (rw [cell_of_row _ _ _ _ _ _ h]; rfl)
/-- What both answer. -/
def Says (w : World) (r : List (Int × Int) × Int) (e : Ending) (w' : World) : Prop := ∃ v, e = .returned (.tuple #[v, .int .i64 r.2]) ∧ OwnL w' w.heap.size v r.1 ∧ Below w.heap.size w w'

set_option maxRecDepth 100000 in
set_option maxHeartbeats 4000000 in
theorem refLines_any (s t : St) (w : World) :
    Calls Try.prog 11 #[s.val, t.val] w (Says w (linesAt s t)) := by
  have W := Lib.hid within_any
  have E := Lib.hid even_any
  have fold_s : ∀ (x : St), x.val = .agg #[.int .i64 x.day, .int .i64 x.rate, .int .i64 x.p, .int .i64 x.i, .int .i64 x.f, .int .i64 x.c, .int .i64 x.o, .int .i64 x.n, .int .i64 x.a, .int .i64 x.ch, .int .i64 x.late, .int .i64 x.bk] := fun x => rfl
  rw [fold_s s, fold_s t]
  clear fold_s
  have HS := Lib.hid (fun (h : ¬ (Within s ∧ Within t)) => linesAt_far h)
  have HO := Lib.hid (fun (h1 : Within s) (h2 : Within t) (h : ¬ (Even s ∧ Even t)) => linesAt_odd h1 h2 h)
  have HK := Lib.hid (fun (h1 : Within s) (h2 : Within t) (h3 : Even s) (h4 : Even t) => linesAt_ok h1 h2 h3 h4)
  obtain ⟨w0, hw0⟩ : ∃ w0, w0 = (w.alloc (.cells #[.int .i64 s.day, .int .i64 s.rate, .int .i64 s.p, .int .i64 s.i, .int .i64 s.f, .int .i64 s.c, .int .i64 s.o, .int .i64 s.n, .int .i64 s.a, .int .i64 s.ch, .int .i64 s.late, .int .i64 s.bk] 23)).alloc (.cells #[.int .i64 t.day, .int .i64 t.rate, .int .i64 t.p, .int .i64 t.i, .int .i64 t.f, .int .i64 t.c, .int .i64 t.o, .int .i64 t.n, .int .i64 t.a, .int .i64 t.ch, .int .i64 t.late, .int .i64 t.bk] 23) := ⟨_, rfl⟩
  have hb0 : Below w.heap.size w w0 := by rw [hw0]; exact ((Below.refl _ _).alloc (Nat.le_refl _) _).alloc (by simp) _
  have hs0 : w0.heap.size = w.heap.size + 2 := by rw [hw0]; simp
  have hS0 : w0.heap[w.heap.size]? = some (.cells #[.int .i64 s.day, .int .i64 s.rate, .int .i64 s.p, .int .i64 s.i, .int .i64 s.f, .int .i64 s.c, .int .i64 s.o, .int .i64 s.n, .int .i64 s.a, .int .i64 s.ch, .int .i64 s.late, .int .i64 s.bk] 23 (0, 0)) := by
    rw [hw0]; exact heap_alloc_old (heap_alloc_new _ _)
  have hT0 : w0.heap[w.heap.size + 1]? = some (.cells #[.int .i64 t.day, .int .i64 t.rate, .int .i64 t.p, .int .i64 t.i, .int .i64 t.f, .int .i64 t.c, .int .i64 t.o, .int .i64 t.n, .int .i64 t.a, .int .i64 t.ch, .int .i64 t.late, .int .i64 t.bk] 23 (0, 0)) := by
    rw [hw0, ← World.size_alloc w]; exact heap_alloc_new _ _
  go_enter Try.func11, Try.ntmps11
  go_wp2_with fail
  rw [← hw0]
  clear hw0
  refine (W.out s _).mono ?_
  rintro e w1 ⟨rfl, hb1⟩
  have hb01 := hb0.trans (hb1.mono hb0.size)
  have hS1 := (hb1.block w.heap.size (by omega)).trans hS0
  have hT1 := (hb1.block (w.heap.size + 1) (by omega)).trans hT0
  obtain ⟨t0, t1, t2, t3, t4, t5, t6, t7, t8, t9, t10, t11⟩ := st_cells t hT1
  have fin : ∀ (l : List (Int × Int)) (e : Int) (w' : World), linesAt s t = (l, e) → ∀ v, OwnL w' w.heap.size v l → Below w.heap.size w w' → Says w (linesAt s t) (.returned (.tuple #[v, .int .i64 e])) w' := fun l e w' h v hv hb => by
    rw [h]; exact ⟨v, rfl, hv, hb⟩
  have FIN := Lib.hid fin
  clear fin
  by_cases hs : Within s
  · rw [decide_eq_true hs]
    have HWS := Lib.hid hs
    clear hs
    go_wp2_with fail
    refine (W.out t _).mono ?_
    rintro e w2 ⟨rfl, hb2⟩
    have hb02 := hb01.trans (hb2.mono hb01.size)
    have hz1 := hb1.size
    have hS2 := (hb2.block w.heap.size (by omega)).trans hS1
    have hT2 := (hb2.block (w.heap.size + 1) (by omega)).trans hT1
    obtain ⟨s0, s1, s2, s3, s4, s5, s6, s7, s8, s9, s10, s11⟩ := st_cells s hS2
    by_cases ht : Within t
    · rw [decide_eq_true ht]
      have HWT := Lib.hid ht
      clear ht
      go_wp2_with fail
      refine (E.out s _ HWS.out).mono ?_
      rintro e w3 ⟨rfl, hb3⟩
      have hb03 := hb02.trans (hb3.mono hb02.size)
      have hz2 := hb2.size
      have hS3 := (hb3.block w.heap.size (by omega)).trans hS2
      have hT3 := (hb3.block (w.heap.size + 1) (by omega)).trans hT2
      obtain ⟨t0', t1', t2', t3', t4', t5', t6', t7', t8', t9', t10', t11'⟩ := st_cells t hT3
      by_cases es : Even s
      · rw [decide_eq_true es]
        have HES := Lib.hid es
        clear es
        go_wp2_with fail
        refine (E.out t _ HWT.out).mono ?_
        rintro e w4 ⟨rfl, hb4⟩
        have hb04 := hb03.trans (hb4.mono hb03.size)
        have hz3 := hb3.size
        have hz4 := hb4.size
        have hS4 := (hb4.block w.heap.size (by omega)).trans hS3
        have hT4 := (hb4.block (w.heap.size + 1) (by omega)).trans hT3
        by_cases et : Even t
        · rw [decide_eq_true et]
          have HET := Lib.hid et
          clear et
          clear s0 s1 s2 s3 s4 s5 s6 s7 s8 s9 s10 s11 t0 t1 t2 t3 t4 t5 t6 t7 t8 t9 t10 t11 t0' t1' t2' t3' t4' t5' t6' t7' t8' t9' t10' t11' hS0 hT0 hS1 hT1 hS2 hT2 hS3 hT3
          obtain ⟨s0, s1, s2, s3, s4, s5, s6, s7, s8, s9, s10, s11⟩ := st_cells s hS4
          obtain ⟨t0, t1, t2, t3, t4, t5, t6, t7, t8, t9, t10, t11⟩ := st_cells t hT4
          obtain ⟨⟨p0, p1⟩, ⟨i0, i1⟩, ⟨f0, f1⟩, ⟨c0, c1⟩, ⟨o0, o1⟩, ⟨n0, n1⟩, ⟨a0, a1⟩, ⟨h0, h1⟩⟩ := HWS.out.all
          obtain ⟨⟨q0, q1⟩, ⟨j0, j1⟩, ⟨g0, g1⟩, ⟨d0, d1⟩, ⟨u0, u1⟩, ⟨m0, m1⟩, ⟨b0, b1⟩, ⟨k0, k1⟩⟩ := HWT.out.all
          have H7 := Lib.hid (show (all7 s t).length = 7 from rfl)
          have HC7 : Hid (#[.int .i64 1, .int .i64 (t.n - t.o - s.n + s.o), .int .i64 2, .int .i64 (t.p - s.p), .int .i64 3, .int .i64 (t.i - s.i), .int .i64 4, .int .i64 (t.f - s.f), .int .i64 5, .int .i64 (s.c - t.c), .int .i64 6, .int .i64 (s.a - t.a), .int .i64 7, .int .i64 (s.ch - t.ch)] = (lcs (all7 s t)).toArray) := Lib.hid rfl
          have HLO : Hid (linesOf s t = (all7 s t).filter (fun x => x.2 != 0)) := Lib.hid rfl
          go_wp2
          go_loopw [7, 76] (fun v i wr => ∃ j : Nat, j ≤ 7 ∧ i = .int .i64 j ∧ OwnL wr (w4.heap.size + 1) v (((all7 s t).take j).filter (fun x => x.2 != 0)) ∧ RdL wr (some ⟨w4.heap.size, 0, none⟩) 7 (all7 s t) ∧ Below w.heap.size w wr ∧ w4.heap.size + 1 ≤ wr.heap.size) (fun _ i _ => 7 - (intOf i).toNat)
          case atStart => exact ⟨0, by omega, rfl, OwnL.nil _ _, RdL.lit _ _ _ HC7.out 7 H7.out _, hb04.alloc hb04.size _, by simp⟩
          case round =>
            obtain ⟨j, hj, rfl, hown, hrd, hb, hsz⟩ := hrel
            by_cases hlt : j < 7
            · have hjl : j < (all7 s t).length := by have := H7.out; omega
              obtain ⟨hc1, hc2⟩ := hrd.cells j hjl
              have HF := Lib.hid (filter_snoc (all7 s t) j hjl)
              have HL9 : Hid (((List.take j (all7 s t)).filter (fun x => x.2 != 0)).length ≤ 7) := Lib.hid (Nat.le_trans (List.length_filter_le _ _) (by rw [List.length_take]; omega))
              generalize (all7 s t)[j] = l at hc1 hc2 HF
              obtain ⟨acc, am⟩ := l
              simp only at hc1 hc2 HF
              rw [Nat.zero_add] at hc1 hc2
              by_cases hz : am = 0
              · subst hz
                have hF2 := HF.out
                rw [show ((0 : Int) != 0) = false from rfl, if_neg (by simp), List.append_nil] at hF2
                have HF2 := Lib.hid hF2
                clear hF2
                go_wp2
                go_roundw
                case rel => exact ⟨j + 1, by omega, by go_num, by rw [HF2.out]; exact hown, hrd, hb, hsz⟩
                case measure => simp [intOf]; omega
              · have f1 : (am != 0) = true := by rw [bne_iff_ne]; exact hz
                have hF2 := HF.out
                rw [f1, if_pos rfl] at hF2
                have HF2 := Lib.hid hF2
                clear hF2
                have hcell2 : Hid (#[.int .i64 acc, .int .i64 am] = (lcs [(acc, am)]).toArray) := Lib.hid rfl
                go_wp2_with (at_builtin; refine app_line rfl _ _ rfl (w4.heap.size + 1) _ _ rfl (hown.alloc _) _ 1 1 [(acc, am)] rfl (RdL.lit wr _ _ hcell2.out 1 rfl _) ?c1 ?c2 ?_)
                case c1 => have := HL9.out; omega
                case c2 => exact Nat.le_trans hsz (by simp)
                intro v' wn hv' hbn _
                have hbw : Below (w4.heap.size + 1) wr wn := ((Below.refl _ _).alloc hsz _).trans hbn
                have hbz := hb04.size
                go_wp2
                go_roundw
                case rel => exact ⟨j + 1, by omega, by go_num, by rw [HF2.out]; exact hv', hrd.lo (by omega) hbw, hb.trans (hbw.mono (by omega)), Nat.le_trans hsz hbw.size⟩
                case measure => simp [intOf]; omega
            · obtain rfl : j = 7 := by omega
              rw [show (all7 s t).take 7 = all7 s t from rfl, ← HLO.out] at hown
              have hown2 := OwnL.lower (base' := w.heap.size) hown (by have := hb04.size; omega)
              have hr := FIN.out _ _ wr (HK.out HWS.out HWT.out HES.out HET.out) _ hown2 hb
              clear hown hown2
              go_wp2
              go_ret2
              exact hr
        · rw [decide_eq_false et]
          have hr := FIN.out _ _ w4 (HO.out HWS.out HWT.out (fun h => et h.2)) _ (OwnL.nil _ _) hb04
          clear et
          go_wp2
          go_ret2
          exact hr
      · rw [decide_eq_false es]
        have hr := FIN.out _ _ w3 (HO.out HWS.out HWT.out (fun h => es h.1)) _ (OwnL.nil _ _) hb03
        clear es
        go_wp2
        go_ret2
        exact hr
    · rw [decide_eq_false ht]
      have hr := FIN.out _ _ w2 (HS.out (fun h => ht h.2)) _ (OwnL.nil _ _) hb02
      clear ht
      go_wp2
      go_ret2
      exact hr
  · rw [decide_eq_false hs]
    have hr := FIN.out _ _ w1 (HS.out (fun h => hs h.1)) _ (OwnL.nil _ _) hb01
    clear hs
    go_wp2
    go_ret2
    exact hr
end Go.Proofs.Ytpmbbhefcejjlaa
