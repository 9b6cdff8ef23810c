/-
  Joined texts: AcY AcY2 AcY3. No statement is proved here.
-/
import Derived.Test.YtcbopgopegphlaaGreatAcLL
import Derived.Test.YtcbopgopegphlaaGreatAmA
import Derived.Test.YtcbopgopegphlaaGreatAcEE
namespace Go.Proofs.YtcbopgopegphlaaGreat
open Go.RowKit
set_option linter.unusedVariables false

abbrev StRow (g : Nat) (s : St) (w : World) : Prop := w.heap[g]? = some (.cells (stCells s) 45 (0, 0))
set_option maxRecDepth 100000 in
set_option maxHeartbeats 2000000 in
theorem refAccrue_any (s : St) (c d e : Int) (w : World) (c0 : 1 ≤ c) (c1 : c ≤ 3) (d0 : -719162 ≤ d) (d1 : d ≤ 2932896) (e0 : -719162 ≤ e) (e1 : e ≤ 2932896) (hde : d ≤ e)
    (p0 : 0 ≤ s.p) (p1 : s.p ≤ 1000000000000000) (r0 : 0 ≤ s.rate) (r1 : s.rate ≤ 1000000000) (i0 : 0 ≤ s.i) (i1 : s.i ≤ s.a) (a1 : s.a ≤ 1000000000000000) (n0 : 0 ≤ (countOf c d e).1) (n1 : (countOf c d e).1 ≤ 9223372036854775807) :
    Calls Tryz.prog 39 #[s.val, .int .i64 c, .int .i64 d, .int .i64 e] w fun x w' => Below w.heap.size w w' ∧ (accr c { s with day := d } e = none ∧ x = .returned (.tuple #[St.zero.val, .int .i64 4]) ∨
      ∃ T, accr c { s with day := d } e = some T ∧ x = .returned (.tuple #[({ T with day := s.day } : St).val, .int .i64 0])) := by
  have hac : accr c { s with day := d } e = if (interestOf s.p s.rate (countOf c d e).1 (countOf c d e).2).2 ≠ 0 ∨ 1000000000000000 - s.a < (interestOf s.p s.rate (countOf c d e).1 (countOf c d e).2).1 then none
      else some { s with i := s.i + (interestOf s.p s.rate (countOf c d e).1 (countOf c d e).2).1, a := s.a + (interestOf s.p s.rate (countOf c d e).1 (countOf c d e).2).1, day := e } := rfl
  have hden : 0 ≤ (countOf c d e).2 ∧ (countOf c d e).2 ≤ 365 := by
    unfold countOf
    split
    · simp
    · split <;> simp
  have HC := Lib.hid fun W => refCount_any c d e W c0 c1 d0 d1 e0 e1 hde
  have HI := Lib.hid fun W => refInterest s.p s.rate (countOf c d e).1 (countOf c d e).2 W (by omega) (by omega) (by omega) (by omega) (by omega) (by omega) (by omega) (by omega)
  have hnn := fun h2 => interest_nonneg s.p s.rate (countOf c d e).1 (countOf c d e).2 h2 p0
  have HAD := Lib.hid fun (h : (interestOf s.p s.rate (countOf c d e).1 (countOf c d e).2).2 = 0) W => refAdd_any s.a (interestOf s.p s.rate (countOf c d e).1 (countOf c d e).2).1 W (by omega) (by omega) (by have := hnn h; omega) (by have := hnn h; omega)
  have HNN := Lib.hid hnn
  clear hnn
  generalize (interestOf s.p s.rate (countOf c d e).1 (countOf c d e).2).1 = I at *
  generalize (interestOf s.p s.rate (countOf c d e).1 (countOf c d e).2).2 = E at *
  generalize (countOf c d e).1 = num at *
  generalize (countOf c d e).2 = den at *
  have HAC := Lib.hid hac
  clear hac
  obtain ⟨w1, hw1⟩ : ∃ w1, w1 = (w.alloc (.cells (stCells s) 45)).alloc (.cells #[.int .i64 0, .int .i64 0, .int .i64 0, .int .i64 0, .int .i64 0, .int .i64 0, .int .i64 0, .int .i64 0, .int .i64 0, .int .i64 0, .int .i64 0, .int .i64 0] 45) := ⟨_, rfl⟩
  have hz1 : w1.heap.size = w.heap.size + 2 := by rw [hw1]; simp
  have hb1 : Below w.heap.size w w1 := by rw [hw1]; exact ((Below.refl _ _).alloc (Nat.le_refl _) _).alloc (by simp) _
  have hS1 : StRow w.heap.size s w1 := by rw [hw1]; exact heap_old (heap_alloc_new _ _)
  have hT1 : StRow (w.heap.size + 1) St.zero w1 := by rw [hw1, ← World.size_alloc w]; exact heap_alloc_new _ _
  unfold St.val at *
  obtain ⟨SC, hSC⟩ : ∃ SC, SC = stCells s := ⟨_, rfl⟩
  rw [← hSC] at hw1
  rw [← hSC]
  clear hSC
  go_enter Tryz.func39, Tryz.ntmps39
  go_wp2_with fail
  rw [← hw1]
  clear hw1
  refine (HC.out _).mono ?_
  rintro x w2 ⟨rfl, rfl⟩
  have k1 : w2.cell? ⟨w.heap.size, 1, none⟩ = some (.int .i64 s.rate) := by rw [cell_of_row _ _ _ _ _ _ hS1]; rfl
  have k2 : w2.cell? ⟨w.heap.size, 2, none⟩ = some (.int .i64 s.p) := by rw [cell_of_row _ _ _ _ _ _ hS1]; rfl
  go_wp2_with fail
  refine (HI.out _).mono ?_
  rintro x w3 ⟨rfl, hb3⟩
  have hS3 : StRow w.heap.size s w3 := (hb3.block _ (by omega)).trans hS1
  have hT3 : StRow (w.heap.size + 1) St.zero w3 := (hb3.block _ (by omega)).trans hT1
  have hbb := hb1.trans (hb3.mono hb1.size)
  clear k1 k2 hS1 hT1 hb3 hb1 HC HI
  by_cases hE : E = 0
  case neg =>
    have hEb : (E != 0) = true := by simpa using hE
    have HN : Hid (accr c { s with day := d } e = none) := Lib.hid (by rw [HAC.out, if_pos (.inl hE)])
    clear HAC HAD HNN hE
    go_wp2_with (first
      | (refine wpList_buildTo rfl 45 _ rfl _ rfl _ built_z ?_)
      | (refine wpList_store_rowTo rfl 45 _ _ rfl rfl _ _ rfl rfl _ _ hT3 (info_st St.zero) rfl (st_one _) ?_))
    exact bodyPost_ret (results_cell2E (fn := Tryz.f39) rfl _ _ (w.heap.size + 1) 45 (stCells St.zero) (0, 0) _ rfl (setRow_heap _ _ _ _ _ _ hT3) Tryz.underlying45 rfl (info_st St.zero)) rfl ⟨below_row hbb (by omega) _, .inl ⟨HN.out, rfl⟩⟩
  subst hE
  obtain ⟨I0, I1⟩ := HNN.out rfl
  have HAD2 := Lib.hid (HAD.out rfl)
  have k8 : w3.cell? ⟨w.heap.size, 8, none⟩ = some (.int .i64 s.a) := by rw [cell_of_row _ _ _ _ _ _ hS3]; rfl
  clear HAD HNN
  go_wp2_with fail
  refine (HAD2.out _).mono ?_
  rintro x w4 ⟨rfl, rfl⟩
  clear HAD2 k8
  by_cases hI : 1000000000000000 - s.a < I
  · have HN : Hid (accr c { s with day := d } e = none) := Lib.hid (by rw [HAC.out, if_pos (.inr hI)])
    clear HAC
    by_cases hf : s.a + I ≤ 9223372036854775807
    · have e1 := fit_in (s.a + I) (by omega) hf
      rw [e1]
      clear e1
      go_wp2_with (first
        | (refine wpList_buildTo rfl 45 _ rfl _ rfl _ built_z ?_)
        | (refine wpList_store_rowTo rfl 45 _ _ rfl rfl _ _ rfl rfl _ _ hT3 (info_st St.zero) rfl (st_one _) ?_))
      exact bodyPost_ret (results_cell2E (fn := Tryz.f39) rfl _ _ (w.heap.size + 1) 45 (stCells St.zero) (0, 0) _ rfl (setRow_heap _ _ _ _ _ _ hT3) Tryz.underlying45 rfl (info_st St.zero)) rfl ⟨below_row hbb (by omega) _, .inl ⟨HN.out, rfl⟩⟩
    · have e1 := fit_out (s.a + I) (by omega)
      rw [e1]
      clear e1
      go_wp2_with (first
        | (refine wpList_buildTo rfl 45 _ rfl _ rfl _ built_z ?_)
        | (refine wpList_store_rowTo rfl 45 _ _ rfl rfl _ _ rfl rfl _ _ hT3 (info_st St.zero) rfl (st_one _) ?_))
      exact bodyPost_ret (results_cell2E (fn := Tryz.f39) rfl _ _ (w.heap.size + 1) 45 (stCells St.zero) (0, 0) _ rfl (setRow_heap _ _ _ _ _ _ hT3) Tryz.underlying45 rfl (info_st St.zero)) rfl ⟨below_row hbb (by omega) _, .inl ⟨HN.out, rfl⟩⟩
  · have HN : Hid (accr c { s with day := d } e = some { s with i := s.i + I, a := s.a + I, day := e }) := Lib.hid (by rw [HAC.out, if_neg (by rw [not_or]; exact ⟨fun h => h rfl, hI⟩)])
    have e1 := fit_in (s.a + I) (by omega) (by omega)
    rw [e1]
    clear e1 HAC
    have k3 : w4.cell? ⟨w.heap.size, 3, none⟩ = some (.int .i64 s.i) := by rw [cell_of_row _ _ _ _ _ _ hS3]; rfl
    have k8 : w4.cell? ⟨w.heap.size, 8, none⟩ = some (.int .i64 s.a) := by rw [cell_of_row _ _ _ _ _ _ hS3]; rfl
    have f3 : w4.frozen? ⟨w.heap.size, 3, none⟩ = false := by simp [World.frozen?, hS3]
    have f8 : w4.frozen? ⟨w.heap.size, 8, none⟩ = false := by simp [World.frozen?, hS3]
    obtain ⟨r1', q1⟩ := row_set (i := 8) (.int .i64 (s.a + I)) hS3
    obtain ⟨r2', q2⟩ := row_set (i := 3) (.int .i64 (s.i + I)) r1'
    have HR : Hid (StRow w.heap.size { s with i := s.i + I, a := s.a + I } ((w4.setCell ⟨w.heap.size, 8, none⟩ (.int .i64 (s.a + I))).setCell ⟨w.heap.size, 3, none⟩ (.int .i64 (s.i + I)))) := Lib.hid r2'
    have HQ := Lib.hid (q1.trans q2)
    have HT4 := Lib.hid hT3
    have hlt4 := hbb.size
    have hz4 : w.heap.size + 1 < w4.heap.size := (Array.getElem?_eq_some_iff.1 hT3).1
    clear r1' r2' q1 q2 hS3 hT3
    go_upto_region 10 with (fail)
    refine wp_at (fun wx => StRow w.heap.size { s with i := s.i + I, a := s.a + I } wx ∧ KeptBut w.heap.size w4 wx) ⟨HR.out, HQ.out⟩ ?_
    rintro w5 ⟨hr5, hk5⟩
    have hT5 := (hk5.block (w.heap.size + 1) hz4 (by omega)).trans HT4.out
    have hb5 := hbb.trans (hk5.below (Nat.le_refl _) hbb.size)
    clear HR HQ k3 k8 f3 f8 HT4
    have hTeq : ({ ({ s with i := s.i + I, a := s.a + I, day := e } : St) with day := s.day } : St) = { s with i := s.i + I, a := s.a + I } := rfl
    have HN2 : Hid (∃ T, accr c { s with day := d } e = some T ∧ ({ T with day := s.day } : St) = { s with i := s.i + I, a := s.a + I }) := Lib.hid ⟨_, HN.out, hTeq⟩
    clear HN hTeq
    have hr5' : w5.heap[w.heap.size]? = some (.cells (stCells { s with i := s.i + I, a := s.a + I }) 45 (0, 0)) := hr5
    generalize ({ s with i := s.i + I, a := s.a + I } : St) = T at *
    go_wp2_with (first
      | (refine wpList_load_row rfl 45 _ rfl _ rfl _ _ _ _ hr5' Tryz.underlying45 rfl (info_st T) ?_)
      | (refine wpList_store_rowTo rfl 45 _ _ rfl rfl _ _ rfl rfl _ _ hT5 (info_st T) rfl (st_one _) ?_))
    obtain ⟨T2, hT2, hT3⟩ := HN2.out
    exact bodyPost_ret (results_cell2E (fn := Tryz.f39) rfl _ _ (w.heap.size + 1) 45 (stCells T) (0, 0) _ rfl (setRow_heap _ _ _ _ _ _ hT5) Tryz.underlying45 rfl (info_st T)) rfl ⟨below_row hb5 (by omega) _, .inr ⟨T2, hT2, by rw [hT3]; rfl⟩⟩
end Go.Proofs.YtcbopgopegphlaaGreat

namespace Go.Proofs.YtcbopgopegphlaaGreat
open Go.RowKit
set_option linter.unusedVariables false

set_option maxRecDepth 100000 in
set_option maxHeartbeats 2000000 in
theorem refSpend_any (p : Prod) (s : St) (w : World) (hp : p.Ok) (hs : s.Low) :
    Calls Tryz.prog 40 #[s.val, .agg #[.int .i64 p.o1, .int .i64 p.o2, .int .i64 p.o3]] w fun x w' => x = .returned (spendAll p s).val ∧ Below w.heap.size w w' := by
  have HORD := Lib.hid fun j => ord_mem hp j
  have HLOW := Lib.hid fun j => spendTo_low (p := p) hs j
  have HALL : Hid (spendTo p s 3 = spendAll p s) := Lib.hid rfl
  obtain ⟨w1, hw1⟩ : ∃ w1, w1 = ((w.alloc (.cells (stCells s) 45)).alloc (.cells #[.int .i64 p.o1, .int .i64 p.o2, .int .i64 p.o3] 22)).alloc (.cells #[.int .i64 0, .int .i64 0, .int .i64 0, .int .i64 0, .int .i64 0, .int .i64 0, .int .i64 0, .int .i64 0, .int .i64 0, .int .i64 0, .int .i64 0, .int .i64 0] 45) := ⟨_, rfl⟩
  have hz1 : w1.heap.size = w.heap.size + 3 := by rw [hw1]; simp
  have hb1 : Below w.heap.size w w1 := by rw [hw1]; exact (((Below.refl _ _).alloc (Nat.le_refl _) _).alloc (by simp) _).alloc (by first | (simp; done) | (simp; omega)) _
  have hS1 : StRow w.heap.size s w1 := by rw [hw1]; exact heap_old (heap_old (heap_alloc_new _ _))
  have hO1 : w1.heap[w.heap.size + 1]? = some (.cells #[.int .i64 p.o1, .int .i64 p.o2, .int .i64 p.o3] 22 (0, 0)) := by
    rw [hw1]
    refine heap_old ?_
    rw [← World.size_alloc w]
    exact heap_alloc_new _ _
  have hT1 : StRow (w.heap.size + 2) St.zero w1 := by
    rw [hw1]
    have := heap_alloc_new ((w.alloc (.cells (stCells s) 45)).alloc (.cells #[.int .i64 p.o1, .int .i64 p.o2, .int .i64 p.o3] 22)) (.cells #[.int .i64 0, .int .i64 0, .int .i64 0, .int .i64 0, .int .i64 0, .int .i64 0, .int .i64 0, .int .i64 0, .int .i64 0, .int .i64 0, .int .i64 0, .int .i64 0] 45)
    rw [World.size_alloc, World.size_alloc] at this
    exact this
  unfold St.val
  obtain ⟨SC, hSC⟩ : ∃ SC, SC = stCells s := ⟨_, rfl⟩
  rw [← hSC] at hw1
  rw [← hSC]
  clear hSC
  have HO : Hid (∀ (j : Nat) W, j < 3 → KeptBut w.heap.size w1 W → W.cell? ⟨w.heap.size + 1, j, none⟩ = some (.int .i64 (p.ord j))) := Lib.hid fun j W hj hW => hW.cell (by simp) (by
    rw [cell_of_row _ _ _ _ _ _ hO1]
    rcases (show j = 0 ∨ j = 1 ∨ j = 2 by omega) with rfl | rfl | rfl <;> rfl)
  go_enter Tryz.func40, Tryz.ntmps40
  go_wp2
  rw [← hw1]
  clear hw1 hO1
  go_loopw [5] (fun i wr => ∃ j : Nat, j ≤ 3 ∧ i = .int .i64 j ∧ StRow w.heap.size (spendTo p s j) wr ∧ KeptBut w.heap.size w1 wr) (fun i _ => 3 - (intOf i).toNat)
  case atStart => exact ⟨0, by omega, rfl, hS1, KeptBut.refl _ _⟩
  case round =>
    obtain ⟨j, hj, rfl, hrj, hkj⟩ := hrel
    by_cases hlt : j < 3
    · have ho := HO.out j wr hlt hkj
      have hNext : Hid (spendTo p s (j + 1) = spend1 (spendTo p s j) (p.ord j)) := Lib.hid rfl
      obtain ⟨l1, l2, l3, l4, l5, l6, l7, l8⟩ := HLOW.out j
      have hkk := HORD.out j
      generalize spendTo p s j = T at *
      generalize p.ord j = k at *
      have d5 : wr.cell? ⟨w.heap.size, 5, none⟩ = some (.int .i64 T.c) := by rw [cell_of_row _ _ _ _ _ _ hrj]; rfl
      have f5 : wr.frozen? ⟨w.heap.size, 5, none⟩ = false := by simp [World.frozen?, hrj]
      rcases hkk with rfl | rfl | rfl
      · have dk : wr.cell? ⟨w.heap.size, 4, none⟩ = some (.int .i64 T.f) := by rw [cell_of_row _ _ _ _ _ _ hrj]; rfl
        have fk : wr.frozen? ⟨w.heap.size, 4, none⟩ = false := by simp [World.frozen?, hrj]
        obtain ⟨t1, q1⟩ := row_set (i := 4) (.int .i64 (T.f - min T.c T.f)) hrj
        obtain ⟨t2, q2⟩ := row_set (i := 5) (.int .i64 (T.c - min T.c T.f)) t1
        have hsp : spend1 T 1 = { T with f := T.f - min T.c T.f, c := T.c - min T.c T.f } := rfl
        have HT : Hid (StRow w.heap.size (spendTo p s (j + 1)) ((wr.setCell ⟨w.heap.size, 4, none⟩ (.int .i64 (T.f - min T.c T.f))).setCell ⟨w.heap.size, 5, none⟩ (.int .i64 (T.c - min T.c T.f)))) := Lib.hid (by rw [hNext.out, hsp]; exact t2)
        have HQ := Lib.hid ((hkj.trans q1).trans q2)
        clear hrj hkj t1 q1 t2 q2 hsp hNext
        go_wp2
        go_roundw
        case rel => exact ⟨j + 1, by omega, by go_num, HT.out, HQ.out⟩
        case measure => simp [intOf]; omega
      · have dk : wr.cell? ⟨w.heap.size, 3, none⟩ = some (.int .i64 T.i) := by rw [cell_of_row _ _ _ _ _ _ hrj]; rfl
        have fk : wr.frozen? ⟨w.heap.size, 3, none⟩ = false := by simp [World.frozen?, hrj]
        obtain ⟨t1, q1⟩ := row_set (i := 3) (.int .i64 (T.i - min T.c T.i)) hrj
        obtain ⟨t2, q2⟩ := row_set (i := 5) (.int .i64 (T.c - min T.c T.i)) t1
        have hsp : spend1 T 2 = { T with i := T.i - min T.c T.i, c := T.c - min T.c T.i } := rfl
        have HT : Hid (StRow w.heap.size (spendTo p s (j + 1)) ((wr.setCell ⟨w.heap.size, 3, none⟩ (.int .i64 (T.i - min T.c T.i))).setCell ⟨w.heap.size, 5, none⟩ (.int .i64 (T.c - min T.c T.i)))) := Lib.hid (by rw [hNext.out, hsp]; exact t2)
        have HQ := Lib.hid ((hkj.trans q1).trans q2)
        clear hrj hkj t1 q1 t2 q2 hsp hNext
        go_wp2
        go_roundw
        case rel => exact ⟨j + 1, by omega, by go_num, HT.out, HQ.out⟩
        case measure => simp [intOf]; omega
      · have dk : wr.cell? ⟨w.heap.size, 2, none⟩ = some (.int .i64 T.p) := by rw [cell_of_row _ _ _ _ _ _ hrj]; rfl
        have fk : wr.frozen? ⟨w.heap.size, 2, none⟩ = false := by simp [World.frozen?, hrj]
        obtain ⟨t1, q1⟩ := row_set (i := 2) (.int .i64 (T.p - min T.c T.p)) hrj
        obtain ⟨t2, q2⟩ := row_set (i := 5) (.int .i64 (T.c - min T.c T.p)) t1
        have hsp : spend1 T 3 = { T with p := T.p - min T.c T.p, c := T.c - min T.c T.p } := rfl
        have HT : Hid (StRow w.heap.size (spendTo p s (j + 1)) ((wr.setCell ⟨w.heap.size, 2, none⟩ (.int .i64 (T.p - min T.c T.p))).setCell ⟨w.heap.size, 5, none⟩ (.int .i64 (T.c - min T.c T.p)))) := Lib.hid (by rw [hNext.out, hsp]; exact t2)
        have HQ := Lib.hid ((hkj.trans q1).trans q2)
        clear hrj hkj t1 q1 t2 q2 hsp hNext
        go_wp2
        go_roundw
        case rel => exact ⟨j + 1, by omega, by go_num, HT.out, HQ.out⟩
        case measure => simp [intOf]; omega
    · obtain rfl : j = 3 := by omega
      have hr3 : wr.heap[w.heap.size]? = some (.cells (stCells (spendAll p s)) 45 (0, 0)) := hrj
      have hT3 := (hkj.block (w.heap.size + 2) (by omega) (by omega)).trans hT1
      have hb3 := hb1.trans (hkj.below (Nat.le_refl _) (by omega))
      clear hrj hkj hT1 hS1 hb1
      obtain ⟨T, hT⟩ : ∃ T, T = spendAll p s := ⟨_, rfl⟩
      rw [← hT] at hr3
      have HTT := Lib.hid hT
      clear hT
      go_wp2_with (first
        | (refine wpList_load_row rfl 45 _ rfl _ rfl _ _ _ _ hr3 Tryz.underlying45 rfl (info_st T) ?_)
        | (refine wpList_store_rowTo rfl 45 _ _ rfl rfl _ _ rfl rfl _ _ hT3 (info_st T) rfl (st_one _) ?_))
      exact bodyPost_ret (results_cell_row (fn := Tryz.f40) rfl _ _ (w.heap.size + 2) 45 (stCells T) (0, 0) _ rfl (setRow_heap _ _ _ _ _ _ hT3) Tryz.underlying45 rfl (info_st T)) rfl ⟨by rw [← HTT.out], below_row hb3 (by omega) _⟩
end Go.Proofs.YtcbopgopegphlaaGreat

namespace Go.Proofs.YtcbopgopegphlaaGreat
open Go.RowKit
set_option linter.unusedVariables false

theorem lateFrom_stop {p : Prod} {first out repaid v : Int} {n k : Nat} (h : (addDay first ((k : Int) * p.step)).2 ≠ 0 ∨ v ≤ (addDay first ((k : Int) * p.step)).1) : lateFrom p first out repaid v (n + 1) k = 0 := by rw [lateFrom, if_pos h]
theorem lateFrom_hit {p : Prod} {first out repaid v : Int} {n k : Nat} (h : ¬ ((addDay first ((k : Int) * p.step)).2 ≠ 0 ∨ v ≤ (addDay first ((k : Int) * p.step)).1)) (h2 : repaid < (mulDivOf out k p.count).1) : lateFrom p first out repaid v (n + 1) k = v - (addDay first ((k : Int) * p.step)).1 := by rw [lateFrom, if_neg h, if_pos h2]
theorem lateFrom_next {p : Prod} {first out repaid v : Int} {n k : Nat} (h : ¬ ((addDay first ((k : Int) * p.step)).2 ≠ 0 ∨ v ≤ (addDay first ((k : Int) * p.step)).1)) (h2 : ¬ repaid < (mulDivOf out k p.count).1) : lateFrom p first out repaid v (n + 1) k = lateFrom p first out repaid v n (k + 1) := by rw [lateFrom, if_neg h, if_neg h2]
theorem good_iff (d : Int) : decide (-719162 ≤ d ∧ d ≤ 2932896) = true ↔ -719162 ≤ d ∧ d ≤ 2932896 := by simp
set_option maxRecDepth 100000 in
set_option maxHeartbeats 4000000 in
theorem refLate_any (p : Prod) (A : Option Addr) (n c : Nat) (first out repaid v : Int) (w : World) (hA : RdI w A n p.bounds) (hs : p.name.size ≤ 9223372036854775806) (hn : n ≤ 9223372036854775806)
    (o0 : -9223372036854775808 ≤ out) (o1 : out ≤ 9223372036854775807) :
    Calls Tryz.prog 41 #[p.val (.slice A n c), .int .i64 first, .int .i64 out, .int .i64 repaid, .int .i64 v] w fun e w' =>
      e = .returned (.tuple #[.int .i64 (lateAns p first out repaid v).1, .int .i64 (lateAns p first out repaid v).2.1, .int .i64 (lateAns p first out repaid v).2.2]) ∧ Below w.heap.size w w' := by
  have HC := Lib.hid fun W hW => refCheck_any p A n c W hW hs hn
  have D1 := Lib.hid fun W => refGood_any first W
  have D2 := Lib.hid fun W => refGood_any v W
  generalize hans : lateAns p first out repaid v = ans
  have HANS := Lib.hid hans
  clear hans
  obtain ⟨S, hS⟩ : ∃ S, S = pCells p (.slice A n c) := ⟨_, rfl⟩
  have hval : p.val (.slice A n c) = .agg S := by rw [hS]; rfl
  have hi : (Tryz.prog.info? 25).map (·.size) = some S.size := by rw [hS]; exact info_prod _ _
  rw [hval] at HC ⊢
  obtain ⟨w1, hw1⟩ : ∃ w1, w1 = w.alloc (.cells S 25) := ⟨_, rfl⟩
  have hb1 : Below w.heap.size w w1 := by rw [hw1]; exact (Below.refl _ _).alloc (Nat.le_refl _) _
  have hS1 : w1.heap[w.heap.size]? = some (.cells S 25 (0, 0)) := by rw [hw1]; exact heap_alloc_new _ _
  have hz1 : w1.heap.size = w.heap.size + 1 := by rw [hw1]; simp
  have hA1 := Lib.hid (hA.below hb1)
  have HSS := Lib.hid hS
  clear hA hS hval
  go_enter Tryz.func41, Tryz.ntmps41
  go_upto_region 1 with (fail)
  rw [← hw1]
  clear hw1
  go_step
  refine wpList_load_row rfl 25 _ rfl _ rfl _ _ _ _ hS1 Tryz.underlying25 rfl hi ?_
  go_wp2_with fail
  refine (HC.out _ hA1.out).mono ?_
  rintro e w2 ⟨rfl, hb2⟩
  have hbb := hb1.trans (hb2.mono hb1.size)
  have hS2 := (hb2.block w.heap.size (by omega)).trans hS1
  have hA2 := Lib.hid (hA1.out.below hb2)
  clear hS1 hb1 hb2 hA1 HC
  by_cases hp : p.Ok
  case neg =>
    have ha : ans = (0, 0, 50) := by rw [← HANS.out]; unfold lateAns; rw [if_pos hp]
    subst ha
    rw [if_neg hp]
    clear HANS
    go_wp2
    go_ret3
    exact ⟨rfl, hbb⟩
  rw [if_pos hp]
  have i1 := Lib.hid (good_iff first)
  have i2 := Lib.hid (good_iff v)
  generalize decide (-719162 ≤ first ∧ first ≤ 2932896) = b1 at *
  generalize decide (-719162 ≤ v ∧ v ≤ 2932896) = b2 at *
  cases b1
  · have j1 := i1.out
    simp only [Bool.false_eq_true, false_iff] at j1
    have ha : ans = (0, 0, 6) := by rw [← HANS.out]; unfold lateAns; rw [if_neg (by simpa using hp), if_pos (.inl j1)]
    subst ha
    clear HANS
    go_wp2_with (first | (with_reducible refine (D1.out _).mono ?_; rintro e w3 ⟨rfl, rfl⟩) | (with_reducible refine (D2.out _).mono ?_; rintro e w3 ⟨rfl, rfl⟩))
    go_ret3
    exact ⟨rfl, hbb⟩
  cases b2
  · have j1 := i2.out
    simp only [Bool.false_eq_true, false_iff] at j1
    have ha : ans = (0, 0, 6) := by rw [← HANS.out]; unfold lateAns; rw [if_neg (by simpa using hp), if_pos (.inr j1)]
    subst ha
    clear HANS
    go_wp2_with (first | (with_reducible refine (D1.out _).mono ?_; rintro e w3 ⟨rfl, rfl⟩) | (with_reducible refine (D2.out _).mono ?_; rintro e w3 ⟨rfl, rfl⟩))
    go_ret3
    exact ⟨rfl, hbb⟩
  have k1 := i1.out.1 rfl
  have k2 := i2.out.1 rfl
  by_cases hmo : (0 ≤ out ∧ out ≤ 1000000000000000) ∧ (0 ≤ repaid ∧ repaid ≤ 1000000000000000)
  case neg =>
    have ha : ans = (0, 0, 2) := by rw [← HANS.out]; unfold lateAns; rw [if_neg (by simpa using hp), if_neg (by rw [not_or]; exact ⟨fun h => h k1, fun h => h k2⟩), if_pos (by omega)]
    subst ha
    clear HANS
    rcases (show out < 0 ∨ 0 ≤ out ∧ 1000000000000000 < out ∨ 0 ≤ out ∧ out ≤ 1000000000000000 ∧ repaid < 0 ∨ 0 ≤ out ∧ out ≤ 1000000000000000 ∧ 0 ≤ repaid ∧ 1000000000000000 < repaid by omega) with h1 | ⟨h1, h2⟩ | ⟨h1, h2, h3⟩ | ⟨h1, h2, h3, h4⟩
    all_goals
      clear hmo
      go_wp2_with (first | (with_reducible refine (D1.out _).mono ?_; rintro e w3 ⟨rfl, rfl⟩) | (with_reducible refine (D2.out _).mono ?_; rintro e w3 ⟨rfl, rfl⟩))
      go_ret3
      exact ⟨rfl, hbb⟩
  obtain ⟨⟨q1, q2⟩, q3, q4⟩ := hmo
  have ha : ans = (lateOf p first out repaid v, ((bucketOf p (lateOf p first out repaid v) : Nat) : Int), 0) := by
    rw [← HANS.out]
    unfold lateAns
    rw [if_neg (by simpa using hp), if_neg (by rw [not_or]; exact ⟨fun h => h k1, fun h => h k2⟩), if_neg (by omega)]
  have HA := Lib.hid ha
  clear ha HANS i1 i2
  have t1 : decide (out < 0) = false := decide_eq_false (by omega)
  have t2 : decide (1000000000000000 < out) = false := decide_eq_false (by omega)
  have t3 : decide (repaid < 0) = false := decide_eq_false (by omega)
  have t4 : decide (1000000000000000 < repaid) = false := decide_eq_false (by omega)
  go_upto_block 0 with (first | (with_reducible refine (D1.out _).mono ?_; rintro e w3 ⟨rfl, rfl⟩) | (with_reducible refine (D2.out _).mono ?_; rintro e w3 ⟨rfl, rfl⟩))
  clear t1 t2 t3 t4 D1 D2
  obtain ⟨N, hN⟩ : ∃ N : Nat, p.count = N := Int.eq_ofNat_of_zero_le (by have := hp.count0; omega)
  have s0 := hp.step0
  have s1 := hp.step1
  have n0 := hp.count0
  have n1 := hp.count1
  have c3 : w2.cell? ⟨w.heap.size, 3, none⟩ = some (.int .i64 p.step) := by rw [cell_of_row _ _ _ _ _ _ hS2, HSS.out]; rfl
  have c4 : w2.cell? ⟨w.heap.size, 4, none⟩ = some (.int .i64 p.count) := by rw [cell_of_row _ _ _ _ _ _ hS2, HSS.out]; rfl
  have c8 : w2.cell? ⟨w.heap.size, 8, none⟩ = some (.slice A n c) := by rw [cell_of_row _ _ _ _ _ _ hS2, HSS.out]; rfl
  rw [hN] at c4
  go_cut [13] from 14 to 81 (fun y wx => y = .int .i64 (lateOf p first out repaid v) ∧ Below w2.heap.size w2 wx)
  case first =>
    go_wp2
    go_loopw [13, 14] (fun y i wr => y = .int .i64 0 ∧ ∃ k : Nat, 1 ≤ k ∧ k ≤ N + 1 ∧ i = .int .i64 k ∧ Hid (lateOf p first out repaid v = lateFrom p first out repaid v (N + 1 - k) k) ∧ Below w2.heap.size w2 wr) (fun _ i _ => N + 1 - (intOf i).toNat)
    case atStart => exact ⟨rfl, 1, by omega, by omega, rfl, Lib.hid (by unfold lateOf; rw [show p.count.toNat = N by omega]; rfl), Below.refl _ _⟩
    case round =>
      obtain ⟨rfl, k, h1, h2, rfl, hlf, hbr⟩ := hrel
      have x3 := cell_later hbr c3
      have x4 := cell_later hbr c4
      by_cases hle : k ≤ N
      · obtain ⟨q, hq⟩ : ∃ q, N + 1 - k = q + 1 := ⟨N - k, by omega⟩
        have hq2 : N + 1 - (k + 1) = q := by omega
        rw [hq] at hlf
        have hks0 : 0 ≤ (k : Int) * p.step := Int.mul_nonneg (by omega) (by omega)
        have hks1 : (k : Int) * p.step ≤ 480 * 120 := Int.mul_le_mul (by omega) s1 (by omega) (by omega)
        have HADD := Lib.hid fun W => refAddDay_any first ((k : Int) * p.step) W k1.1 k1.2 (by omega) (by omega)
        have HRG := Lib.hid fun h => addDay_range first ((k : Int) * p.step) k1.1 k1.2 h
        have HMD := Lib.hid fun W => refMulDiv out k p.count W (by omega) (by omega) (by omega) (by omega) (by omega) (by omega)
        have STOP := Lib.hid fun h => hlf.out.trans (lateFrom_stop h)
        have HIT := Lib.hid fun h h2 => hlf.out.trans (lateFrom_hit h h2)
        have NEXT := Lib.hid fun h h2 => hlf.out.trans (lateFrom_next h h2)
        rw [hN] at HMD HIT NEXT
        clear hlf
        generalize hks : (k : Int) * p.step = ks at *
        generalize (addDay first ks).1 = D at *
        generalize (addDay first ks).2 = E at *
        generalize (mulDivOf out k N).1 = M1 at *
        generalize (mulDivOf out k N).2 = M2 at *
        go_wp2_with fail
        refine (HADD.out _).mono ?_
        rintro e w4 ⟨rfl, rfl⟩
        clear HADD
        by_cases hE : E = 0
        case neg =>
          have hEb : (E != 0) = true := by simpa using hE
          have hL := Lib.hid (STOP.out (.inl hE))
          clear STOP HIT NEXT HMD hE HRG
          go_wp2
          go_meet
          case rel => exact ⟨by rw [hL.out], hbr⟩
        subst hE
        obtain ⟨r1, r2⟩ := HRG.out rfl
        by_cases hvd : v ≤ D
        · have hL := Lib.hid (STOP.out (.inr hvd))
          clear STOP HIT NEXT HMD HRG
          go_wp2
          go_meet
          case rel => exact ⟨by rw [hL.out], hbr⟩
        have hns : ¬ ((0 : Int) ≠ 0 ∨ v ≤ D) := by omega
        have HIT2 := Lib.hid (HIT.out hns)
        have NEXT2 := Lib.hid (NEXT.out hns)
        clear STOP HIT NEXT HRG hns
        go_wp2_with fail
        refine (HMD.out _).mono ?_
        rintro e w5 ⟨rfl, hb5⟩
        have hb2 := hbr.trans (hb5.mono hbr.size)
        clear HMD hbr x3 x4 hb5
        by_cases hdue : repaid < M1
        · have hL := Lib.hid (HIT2.out hdue)
          clear HIT2 NEXT2
          go_wp2
          go_meet
          case rel => exact ⟨by rw [hL.out], hb2⟩
        · have hL := Lib.hid (NEXT2.out (by omega))
          clear HIT2 NEXT2
          go_wp2
          go_roundw
          case rel => exact ⟨rfl, k + 1, by omega, by omega, by go_num, Lib.hid (by rw [hq2]; exact hL.out), hb2⟩
          case measure => simp [intOf]; omega
      · have hL : Hid (lateOf p first out repaid v = 0) := Lib.hid (by rw [hlf.out, show N + 1 - k = 0 by omega]; rfl)
        clear hlf
        go_wp2
        go_meet
        case rel => exact ⟨by rw [hL.out], hbr⟩
  case rest =>
    obtain ⟨rfl, hbc⟩ := hcut
    generalize hL : lateOf p first out repaid v = L at *
    have x8 := cell_later hbc c8
    clear c3 c4 c8
    have hA3 := Lib.hid (hA2.out.below hbc)
    have hlen := hA3.out.len
    have hlen8 := hp.len
    clear hA2
    have HCNT : Hid (∀ j (hj : j < p.bounds.length), (p.bounds.take (j + 1)).countP (fun b => decide (b ≤ L)) = (p.bounds.take j).countP (fun b => decide (b ≤ L)) + if p.bounds[j] ≤ L then 1 else 0) := Lib.hid fun j hj => by
      rw [List.take_succ_eq_append_getElem hj, List.countP_append]
      congr 1
      simp [List.countP_cons]
    go_wp2
    go_loopw [85, 19, 20] (fun i bk z wr => ∃ j : Nat, j ≤ n ∧ i = .int .i64 j ∧ bk = .int .i64 ((p.bounds.take j).countP fun b => decide (b ≤ L) : Nat) ∧ Below wc.heap.size wc wr) (fun i _ _ _ => n - (intOf i).toNat)
    case atStart => exact ⟨0, by omega, rfl, rfl, Below.refl _ _⟩
    case round =>
      obtain ⟨j, hj, rfl, rfl, hbr⟩ := hrel
      have y8 := cell_later hbr x8
      by_cases hlt : j < n
      · obtain ⟨b, off, rfl⟩ := hA3.out.addr (by omega)
        have hj' : j < p.bounds.length := by omega
        have yj := cell_later hbr (hA3.out.cell j hj')
        have hcn := Lib.hid (HCNT.out j hj')
        have hle : (p.bounds.take j).countP (fun b => decide (b ≤ L)) ≤ j := by
          have := List.countP_le_length (p := fun b => decide (b ≤ L)) (l := p.bounds.take j)
          rw [List.length_take] at this
          omega
        generalize (p.bounds.take j).countP (fun b => decide (b ≤ L)) = K at *
        generalize p.bounds[j] = bj at *
        by_cases hb : bj ≤ L
        · have hcn2 := Lib.hid (hcn.out.trans (by rw [if_pos hb]))
          clear hcn
          go_wp2
          go_roundw
          case rel => exact ⟨j + 1, by omega, by go_num, by rw [hcn2.out]; go_num, hbr⟩
          case measure => simp [intOf]; omega
        · have hcn2 := Lib.hid (hcn.out.trans (by rw [if_neg hb]))
          clear hcn
          go_wp2
          go_roundw
          case rel => exact ⟨j + 1, by omega, by go_num, by rw [hcn2.out]; go_num, hbr⟩
          case measure => simp [intOf]; omega
      · obtain rfl : j = n := by omega
        have hfull : p.bounds.take j = p.bounds := List.take_of_length_le (by omega)
        rw [hfull]
        have HB : Hid (ans = (L, ((p.bounds.countP (fun b => decide (b ≤ L)) : Nat) : Int), 0)) := Lib.hid HA.out
        generalize p.bounds.countP (fun b => decide (b ≤ L)) = K at *
        go_wp2
        go_ret3
        refine ⟨?_, hbb.trans ((hbc.trans (hbr.mono hbc.size)).mono hbb.size)⟩
        rw [HB.out]
        rfl
end Go.Proofs.YtcbopgopegphlaaGreat
