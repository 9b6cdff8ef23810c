/-
  The engine's At; an engine as its callers see it. No statement is proved here.
-/
import Derived.Test.YtcbopgopegphlaaGreatEnR
import Derived.Test.YtcbopgopegphlaaGreatEnJ
namespace Go.Proofs.YtcbopgopegphlaaGreat
open Go.RowKit
set_option linter.unusedVariables false
/-- The latest booking. -/
def lastSeq (l : List Ev) : Int := ((l.getLast?).map (·.seq)).getD 0
set_option maxRecDepth 100000 in
set_option maxHeartbeats 2000000 in
theorem At_any (ge gm : Nat) (p : Prod) (A : Option Addr) (n c : Nat) (v : Value) (l : List Ev) (M : List ((Int × Int) × Ln)) (d : Int) (w : World) (h : EngAt w ge gm p A n c v l M) (hE : EvsIn p l) (hP : PtsOk p l M) (hI : PtsIn l.length M) :
    Calls Tryz.prog 11 #[.pointer (some ⟨ge, 0, none⟩), .int .i64 d] w (AsOfSays w ge gm p A n c v l (replayAns p (knownOf l (lastSeq l)) d)) := by
  have HEN := Lib.hid h
  have HC := Lib.hid fun (b : Int) W hW => AsOf_any ge gm p A n c v l M d b W hW hE hP hI
  obtain ⟨k, hk⟩ : ∃ k, k = l.length := ⟨_, rfl⟩
  have HK := Lib.hid hk
  have hk4 : k ≤ 4096 := by rw [hk]; exact hE.len
  obtain ⟨E, m, rfl, hRd⟩ := own_rdE h.row
  have hge : ge < w.heap.size := h.lt (.inl rfl)
  have hLT : Hid (∀ k, EBlk ge gm (.slice E l.length m) A n k → k < w.heap.size) := Lib.hid fun k hk => h.lt hk
  obtain ⟨w1, hw1⟩ : ∃ w1, w1 = w.alloc (.cells #[.int .i64 0, .int .i64 0, .int .i64 0, .int .i64 0, .int .i64 0, .int .i64 0, .int .i64 0, .int .i64 0, .int .i64 0, .int .i64 0, .int .i64 0, .int .i64 0] 45) := ⟨_, rfl⟩
  have hb1 : Below w.heap.size w w1 := by rw [hw1]; exact (Below.refl _ _).alloc (Nat.le_refl _) _
  have hT1 : w1.heap[w.heap.size]? = some (.cells (stCells St.zero) 45 (0, 0)) := by rw [hw1]; exact heap_alloc_new _ _
  have hz1 : w1.heap.size = w.heap.size + 1 := by rw [hw1]; simp
  have HE1 := Lib.hid (HEN.out.below hb1)
  have hRd1 : RdE w1 E k l := by rw [hk]; exact hRd.below hb1
  have HRD := Lib.hid hRd1
  have c9 : w1.cell? ⟨ge, 9, none⟩ = some (.slice E k m) := by rw [cell_of_row _ _ _ _ _ _ HE1.out.cells, hk]; rfl
  obtain ⟨b, hb⟩ : ∃ b, b = lastSeq l := ⟨_, rfl⟩
  have HB := Lib.hid hb
  rw [← hb]
  have HA := Lib.hid (HC.out b w1 HE1.out)
  clear h hE hP hI hk hRd hRd1 hb HC
  generalize hans : replayAns p (knownOf l b) d = ans at *
  clear hans
  obtain ⟨s, e⟩ := ans
  have HSV : Hid (s.val = .agg (stCells s)) := Lib.hid rfl
  go_enter Tryz.func11, Tryz.ntmps11
  go_upto_region 1 with (fail)
  rw [← hw1]
  clear hw1
  go_upto_if 17 with (fail)
  go_cut [17, 6] from 18 to 26 (fun _ t wx => t = .int .i64 b ∧ wx = w1)
  case first =>
    rcases Nat.eq_zero_or_pos k with hk0 | hk0
    · have hgt : ¬ (0 : Int) < (k : Int) := by omega
      have hb0 : Hid (b = 0) := Lib.hid (by
        rw [HB.out]
        have : l = [] := List.eq_nil_of_length_eq_zero (by rw [← HK.out, hk0])
        rw [this]; rfl)
      clear hk0
      go_wp2_with fail
      go_meet
      exact ⟨by rw [hb0.out], rfl⟩
    · obtain ⟨k', hk'⟩ : ∃ k' : Nat, k = k' + 1 := ⟨k - 1, by omega⟩
      have hgt : (0 : Int) < (k : Int) := by omega
      have hkk : (k : Int) - 1 = (k' : Int) := by omega
      have hlt : (k' : Int) < (k : Int) := by omega
      have hkl : k' < l.length := by have := HK.out; omega
      obtain ⟨b0, off, rfl, _⟩ := HRD.out.2 hk0
      obtain ⟨y0, y1, y2, y3, y4, y5⟩ := ev_six HRD.out k' hkl
      have hlast : Hid (b = l[k'].seq) := Lib.hid (by
        rw [HB.out]
        unfold lastSeq
        rw [List.getLast?_eq_getElem?, show l.length - 1 = k' by have := HK.out; omega, List.getElem?_eq_getElem hkl]
        rfl)
      clear hk' hk0
      generalize l[k'] = la' at *
      obtain ⟨ls, ll, ld, lk, la, lr⟩ := la'
      dsimp only at *
      go_wp2_with fail
      go_meet
      exact ⟨by rw [hlast.out], rfl⟩
  case rest =>
    obtain ⟨rfl, rfl⟩ := hcut
    obtain ⟨w2, rfl⟩ : ∃ x, x = wc := ⟨_, rfl⟩
    go_wp2_with (first
      | (go_at_call 13; refine HA.out.mono ?_; rintro x w3 ⟨rfl, hk3, M', hen3, hp3, hi3⟩; unfold St.val; have hT3 := (hk3.block w.heap.size (by omega) (fun e => by have := hLT.out gm (.inr (.inl rfl)); omega)).trans hT1)
      | (refine wpList_store_rowTo rfl 45 _ _ rfl rfl _ _ rfl rfl _ _ hT3 (info_st s) rfl (st_one _) ?_))
    refine bodyPost_ret (results_cell2E (fn := Tryz.f11) rfl _ _ w.heap.size 45 (stCells s) (0, 0) _ rfl (setRow_heap _ _ _ _ _ _ hT3) Tryz.underlying45 rfl (info_st s)) rfl ?_
    have hk := (KeptBut.of_below (g := gm) hb1).trans hk3
    exact ⟨rfl, ⟨hk.os, hk.tape, hk.output, by rw [setRow_size]; exact hk.size, fun q h1 h2 => by rw [setRow_other _ _ _ _ (by omega)]; exact hk.block q h1 h2⟩, M', hen3.on fun q hq => setRow_other _ _ _ _ (by have := hLT.out q hq; omega), hp3, hi3⟩
end Go.Proofs.YtcbopgopegphlaaGreat
