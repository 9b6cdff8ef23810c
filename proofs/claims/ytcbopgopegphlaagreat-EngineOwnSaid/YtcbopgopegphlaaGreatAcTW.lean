/-
  Joined texts: AcV3 AcV4. No statement is proved here.
-/
import Derived.Test.YtcbopgopegphlaaGreatAcTV
import Derived.Deep.CutBlock
import Derived.Deep.CutRange
namespace Go.Proofs.YtcbopgopegphlaaGreat
open Go.RowKit
set_option linter.unusedVariables false

theorem interest_zero (rate num den : Int) : (interestOf 0 rate num den).1 = 0 := by
  unfold interestOf
  split
  · rfl
  · have e : decide ((0 : Int) < 0) = false := by decide
    rw [e]
    unfold overOf
    have h : evenDiv (Int.natAbs 0 * rate.natAbs * num.natAbs) (1000000000 * den.natAbs) = 0 := by
      simp [evenDiv_eq]
    rw [h]
    rfl
theorem toDay_fine {p : Prod} {L M : Ln} {d : Int} (hL : L.Fine) (d0 : -719162 ≤ d) (d1 : d ≤ 2932896) (h : toDay p.conv L d = some M) :
    M.Fine ∧ M.first = L.first ∧ M.began = L.began ∧ M.lent = L.lent ∧ M.s.rate = L.s.rate ∧ M.s.p = L.s.p ∧ M.s.f = L.s.f ∧ M.s.c = L.s.c ∧ M.s.o = L.s.o ∧ M.s.n = L.s.n ∧ M.s.ch = L.s.ch ∧ L.s.i ≤ M.s.i ∧ M.s.a - L.s.a = M.s.i - L.s.i := by
  unfold toDay at h
  split at h
  · injection h with h
    subst h
    exact ⟨hL, rfl, rfl, rfl, rfl, rfl, rfl, rfl, rfl, rfl, rfl, Int.le_refl _, by omega⟩
  · rename_i hb
    unfold accr at h
    split at h
    · cases h
    · rename_i hc
      have hnn := fun h2 => interest_nonneg L.s.p L.s.rate (countOf p.conv L.s.day d).1 (countOf p.conv L.s.day d).2 h2 hL.p0
      have hzz : L.s.p = 0 → (interestOf L.s.p L.s.rate (countOf p.conv L.s.day d).1 (countOf p.conv L.s.day d).2).1 = 0 := fun h => by rw [h]; exact interest_zero _ _ _
      generalize (interestOf L.s.p L.s.rate (countOf p.conv L.s.day d).1 (countOf p.conv L.s.day d).2).1 = I at *
      generalize (interestOf L.s.p L.s.rate (countOf p.conv L.s.day d).1 (countOf p.conv L.s.day d).2).2 = E at *
      rw [not_or] at hc
      obtain ⟨hc1, hc2⟩ := hc
      have := hnn (by omega)
      injection h with h
      subst h
      obtain ⟨a1, a2, a3, a4, a5, a6, a7, a8, a9, a10, a11, a12, a13, a14, a15, a16, a17, a18, a19, a20, a21⟩ := hL
      refine ⟨⟨fun _ => d0, fun _ => d1, a3, a4, a5, a6, a7, ?_, ?_, ?_, a11, a12, a13, a14, a15, a16, ?_, a18, a19, ?_, a21⟩, rfl, rfl, rfl, rfl, rfl, rfl, rfl, rfl, rfl, rfl, ?_, ?_⟩
      all_goals (simp only at *; omega)
/-- The state with an event added. -/
def Ln.added (M : Ln) (e : Ev) : St := addEv { M.s with day := e.day } e
theorem added1 {M : Ln} {e : Ev} (h : e.kind = 1) : M.added e = { M.s with day := e.day, p := M.s.p + e.amount, o := M.s.o + e.amount } := by unfold Ln.added addEv; rw [if_pos h]
theorem added2 {M : Ln} {e : Ev} (h : e.kind = 2) : M.added e = { M.s with day := e.day, c := M.s.c + e.amount, n := M.s.n + e.amount } := by unfold Ln.added addEv; rw [if_neg (by omega), if_pos h]
theorem added4 {M : Ln} {e : Ev} (h : e.kind = 4) : M.added e = { M.s with day := e.day, f := M.s.f + e.amount, ch := M.s.ch + e.amount } := by unfold Ln.added addEv; rw [if_neg (by omega), if_neg (by omega), if_pos h]
theorem added3 {M : Ln} {e : Ev} (h : e.kind = 3) : M.added e = { M.s with day := e.day, rate := e.amount } := by unfold Ln.added addEv; rw [if_neg (by omega), if_neg (by omega), if_neg (by omega), if_pos h]
theorem kinds {e : Ev} (h : e.Ok) (h5 : e.kind ≠ 5) : (e.kind = 1 ∨ e.kind = 2 ∨ e.kind = 4) ∧ 1 ≤ e.amount ∧ e.amount ≤ 1000000000000000 ∨ e.kind = 3 ∧ 0 ≤ e.amount ∧ e.amount ≤ 1000000000 := by
  have := h.amount
  omega
theorem added_low {M : Ln} {e : Ev} (hM : M.Fine) (h : e.Ok) (h5 : e.kind ≠ 5) : (M.added e).Low := by
  obtain ⟨a1, a2, a3, a4, a5, a6, a7, a8, a9, a10, a11, a12, a13, a14, a15, a16, a17, a18, a19, a20, a21⟩ := hM
  rcases kinds h h5 with ⟨hk | hk | hk, k1, k2⟩ | ⟨hk, k1, k2⟩
  · rw [added1 hk]; constructor <;> simp only <;> omega
  · rw [added2 hk]; constructor <;> simp only <;> omega
  · rw [added4 hk]; constructor <;> simp only <;> omega
  · rw [added3 hk]; constructor <;> simp only <;> omega
theorem evStep_fine {p : Prod} (hp : p.Ok) {L M : Ln} {e : Ev} (hL : L.Fine) (h : e.Ok) (h5 : e.kind ≠ 5) (hs : evStep p L e = some M) : M.Fine ∧ M.began = true ∧ M.s.day = e.day := by
  unfold evStep at hs
  split at hs
  · cases hs
  · rename_i N hN
    obtain ⟨hF, n1, n2, n3, _⟩ := toDay_fine hL h.day0 h.day1 hN
    have hlow := added_low hF h h5
    have hsp := spendAll_spent p hlow
    have hnone := spendAll_none hp hlow
    change (if over (N.added e) then none else some (⟨spendAll p (N.added e), if e.kind = 1 ∧ N.lent = false then e.day else N.first, true, if e.kind = 1 then true else N.lent⟩ : Ln)) = some M at hs
    split at hs
    · cases hs
    · rename_i hov
      injection hs with hs
      subst hs
      obtain ⟨⟨s1, s2, s3, s4, s5, s6, s7, s8, s9, s10, s11, s12, s13⟩, hl⟩ := hsp
      have hl1 := hl.p0
      have hl2 := hl.i0
      have hl3 := hl.f0
      have hl4 := hl.c0
      have d0 := h.day0
      have d1 := h.day1
      unfold over at hov
      obtain ⟨a1, a2, a3, a4, a5, a6, a7, a8, a9, a10, a11, a12, a13, a14, a15, a16, a17, a18, a19, a20, a21⟩ := hF
      generalize spendAll p (N.added e) = T at *
      have hfirst : (if e.kind = 1 then true else N.lent) = true → -719162 ≤ (if e.kind = 1 ∧ N.lent = false then e.day else N.first) ∧ (if e.kind = 1 ∧ N.lent = false then e.day else N.first) ≤ 2932896 := by
        intro ht
        split
        · exact ⟨d0, d1⟩
        · rename_i hno
          by_cases hk : e.kind = 1
          · have : N.lent = true := by
              cases hl : N.lent
              · exact absurd ⟨hk, hl⟩ hno
              · rfl
            exact a21 this
          · rw [if_neg hk] at ht
            exact a21 ht
      rcases kinds h h5 with ⟨hk | hk | hk, k1, k2⟩ | ⟨hk, k1, k2⟩
      · rw [added1 hk] at *
        simp only at *
        refine ⟨⟨fun _ => (by simp only; omega), fun _ => (by simp only; omega), (by simp only; omega), (by simp only; omega), (by simp only; omega), (by simp only; omega), (by simp only; omega), (by simp only; omega), (by simp only; omega), (by simp only; omega), (by simp only; omega), (by simp only; omega), (by simp only; omega), (by simp only; omega), (by simp only; omega), (by simp only; omega), (by simp only; omega), (by simp only; omega), (by simp only; omega), hnone, hfirst⟩, trivial, (by omega)⟩
      · rw [added2 hk] at *
        simp only at *
        refine ⟨⟨fun _ => (by simp only; omega), fun _ => (by simp only; omega), (by simp only; omega), (by simp only; omega), (by simp only; omega), (by simp only; omega), (by simp only; omega), (by simp only; omega), (by simp only; omega), (by simp only; omega), (by simp only; omega), (by simp only; omega), (by simp only; omega), (by simp only; omega), (by simp only; omega), (by simp only; omega), (by simp only; omega), (by simp only; omega), (by simp only; omega), hnone, hfirst⟩, trivial, (by omega)⟩
      · rw [added4 hk] at *
        simp only at *
        refine ⟨⟨fun _ => (by simp only; omega), fun _ => (by simp only; omega), (by simp only; omega), (by simp only; omega), (by simp only; omega), (by simp only; omega), (by simp only; omega), (by simp only; omega), (by simp only; omega), (by simp only; omega), (by simp only; omega), (by simp only; omega), (by simp only; omega), (by simp only; omega), (by simp only; omega), (by simp only; omega), (by simp only; omega), (by simp only; omega), (by simp only; omega), hnone, hfirst⟩, trivial, (by omega)⟩
      · rw [added3 hk] at *
        simp only at *
        refine ⟨⟨fun _ => (by simp only; omega), fun _ => (by simp only; omega), (by simp only; omega), (by simp only; omega), (by simp only; omega), (by simp only; omega), (by simp only; omega), (by simp only; omega), (by simp only; omega), (by simp only; omega), (by simp only; omega), (by simp only; omega), (by simp only; omega), (by simp only; omega), (by simp only; omega), (by simp only; omega), (by simp only; omega), (by simp only; omega), (by simp only; omega), hnone, hfirst⟩, trivial, (by omega)⟩
end Go.Proofs.YtcbopgopegphlaaGreat

namespace Go.Proofs.YtcbopgopegphlaaGreat
open Go.RowKit
set_option linter.unusedVariables false

abbrev EvRow (g : Nat) (p : Prod) (B : Value) (L : Ln) (w : World) : Prop := w.heap[g]? = some (.cells (lnCells p B L) 69 (0, 0))
set_option maxRecDepth 100000 in
set_option maxHeartbeats 4000000 in
theorem Event_any (g : Nat) (p : Prod) (B : Value) (L : Ln) (e : Ev) (w : World) (hp : p.Ok) (hL : L.Fine) (he : e.Ok) (h5 : e.kind ≠ 5) (h : EvRow g p B L w) :
    Calls Tryz.prog 30 #[.pointer (some ⟨g, 0, none⟩), e.val] w fun x w' => KeptBut g w w' ∧ (evStep p L e = none ∧ x = .returned (.int .i64 4) ∨ ∃ M, evStep p L e = some M ∧ x = .returned (.int .i64 0) ∧ EvRow g p B M w') := by
  have hg := (Array.getElem?_eq_some_iff.1 h).1
  have hmf : ∀ (fn : Fn) (first cap : Array Value) (w : World), (Instr.makeFunc fn first cap).run Tryz.prog w = .ok (.func fn first cap) w := fun _ _ _ _ => rfl
  have HTo := Lib.hid fun W hW => To_any g p B L e.day W hp hL he.day0 he.day1 hW
  unfold Ev.val evCells
  go_enter Tryz.func30, Tryz.ntmps30
  go_wp2_with fail
  obtain ⟨w1, hw1⟩ : ∃ w1, w1 = w.alloc (.cells #[.int .i64 e.seq, .string e.loan, .int .i64 e.day, .int .i64 e.kind, .int .i64 e.amount, .int .i64 e.ref] 39) := ⟨_, rfl⟩
  have hz1 : w1.heap.size = w.heap.size + 1 := by rw [hw1]; simp
  have hge : w1.heap[w.heap.size]? = some (.cells #[.int .i64 e.seq, .string e.loan, .int .i64 e.day, .int .i64 e.kind, .int .i64 e.amount, .int .i64 e.ref] 39 (0, 0)) := by rw [hw1]; exact heap_alloc_new _ _
  have hr1 : EvRow g p B L w1 := by rw [hw1]; exact heap_old h
  have hk1 : KeptBut g w w1 := by rw [hw1]; exact KeptBut.of_below ((Below.refl _ _).alloc (Nat.le_refl _) _)
  rw [← hw1]
  clear hw1
  refine (HTo.out _ hr1).mono ?_
  rintro x w2 ⟨hk2, (⟨hn, rfl⟩ | ⟨M, hm, rfl, hr2⟩)⟩
  · have HN : Hid (evStep p L e = none) := Lib.hid (by unfold evStep; rw [hn])
    have HK := Lib.hid (hk1.trans hk2)
    clear hk1 hk2 hr1 hge HTo h hn
    go_wp2
    go_ret
    exact ⟨HK.out, .inl ⟨HN.out, rfl⟩⟩
  have hF := toDay_fine hL he.day0 he.day1 hm
  have HS : Hid (evStep p L e = if over (M.added e) then none else some ⟨spendAll p (M.added e), if e.kind = 1 ∧ M.lent = false then e.day else M.first, true, if e.kind = 1 then true else M.lent⟩) := Lib.hid (by unfold evStep; rw [hm]; rfl)
  have HK := Lib.hid (hk1.trans hk2)
  have c0 : ∀ j u, (#[Value.int .i64 e.seq, .string e.loan, .int .i64 e.day, .int .i64 e.kind, .int .i64 e.amount, .int .i64 e.ref] : Array Value)[j]? = some u → w2.cell? ⟨w.heap.size, j, none⟩ = some u := fun j u hu => hk2.cell (by simp; omega) (by rw [cell_of_row _ _ _ _ _ _ hge]; exact hu)
  have e2 : w2.cell? ⟨w.heap.size, 2, none⟩ = some (.int .i64 e.day) := c0 2 _ rfl
  have e3 : w2.cell? ⟨w.heap.size, 3, none⟩ = some (.int .i64 e.kind) := c0 3 _ rfl
  have e4 : w2.cell? ⟨w.heap.size, 4, none⟩ = some (.int .i64 e.amount) := c0 4 _ rfl
  have hz2 := hk2.size
  have HM := Lib.hid hm
  have HR := Lib.hid hr2
  clear hk1 hk2 hr1 hge HTo h hm c0
  have k9 : w2.cell? ⟨g, 9, none⟩ = some (.int .i64 M.s.day) := by rw [cell_of_row _ _ _ _ _ _ hr2]; rfl
  have k22 : w2.cell? ⟨g, 22, none⟩ = some (.bool M.began) := by rw [cell_of_row _ _ _ _ _ _ hr2]; rfl
  have f9 : w2.frozen? ⟨g, 9, none⟩ = false := by simp [World.frozen?, hr2]
  have f22 : w2.frozen? ⟨g, 22, none⟩ = false := by simp [World.frozen?, hr2]
  clear hr2
  obtain ⟨r1, q1⟩ := row_set (i := 9) (.int .i64 e.day) HR.out
  obtain ⟨r2, q2⟩ := row_set (i := 22) (.bool true) r1
  have HR2 : Hid (EvRow g p B ⟨{ M.s with day := e.day }, M.first, true, M.lent⟩ ((w2.setCell ⟨g, 9, none⟩ (.int .i64 e.day)).setCell ⟨g, 22, none⟩ (.bool true))) := Lib.hid r2
  have HQ2 := Lib.hid (q1.trans q2)
  clear r1 q1 r2 q2
  go_upto_block 0 with (fail)
  have hgs : w.heap.size ≠ g := by omega
  refine wp_at (fun wx => EvRow g p B ⟨{ M.s with day := e.day }, M.first, true, M.lent⟩ wx ∧ KeptBut g w2 wx) ⟨HR2.out, HQ2.out⟩ ?_
  rintro w3 ⟨hr3, hk3⟩
  have m2 := hk3.cell hgs e2
  have m4 := hk3.cell hgs e4
  have HR3 := Lib.hid hr3
  have HK3 := Lib.hid hk3
  clear HR2 HQ2 k9 k22 f9 f22 e2 e3 e4 HR
  go_cut [8] from 35 to 84 (fun y wx => KeptBut g w3 wx ∧ (y = .int .i64 4 ∧ over (M.added e) ∨ y = .int .i64 0 ∧ ¬ over (M.added e) ∧ EvRow g p B ⟨M.added e, if e.kind = 1 ∧ M.lent = false then e.day else M.first, true, if e.kind = 1 then true else M.lent⟩ wx))
  case first =>
    have hF1 := hF.1
    obtain ⟨a1, a2, a3, a4, a5, a6, a7, a8, a9, a10, a11, a12, a13, a14, a15, a16, a17, a18, a19, a20, a21⟩ := hF1
    clear a1 a2 a17 a18 a19 a20 a21 hF HS HK HM hk3 hz2
    have l23 : w3.cell? ⟨g, 23, none⟩ = some (.bool M.lent) := by rw [cell_of_row _ _ _ _ _ _ hr3]; rfl
    rcases kinds he h5 with ⟨hk | hk | hk, k1, k2⟩ | ⟨hk, k1, k2⟩
    · cases hl : M.lent
      · have b1 : (e.kind == 1) = true := by simp [hk]
        have c21 : w3.cell? ⟨g, 21, none⟩ = some (.int .i64 M.first) := by rw [cell_of_row _ _ _ _ _ _ hr3]; rfl
        have f21 : w3.frozen? ⟨g, 21, none⟩ = false := by simp [World.frozen?, hr3]
        have f23 : w3.frozen? ⟨g, 23, none⟩ = false := by simp [World.frozen?, hr3]
        rw [hl] at l23
        obtain ⟨r1, q1⟩ := row_set (i := 21) (.int .i64 e.day) HR3.out
        obtain ⟨r2, q2⟩ := row_set (i := 23) (.bool true) r1
        have HR5 : Hid (EvRow g p B ⟨{ M.s with day := e.day }, e.day, true, true⟩ ((w3.setCell ⟨g, 21, none⟩ (.int .i64 e.day)).setCell ⟨g, 23, none⟩ (.bool true))) := Lib.hid r2
        have HQ := Lib.hid (q1.trans q2)
        clear r1 q1 r2 q2 hr3
        go_upto_region 12 with (fail)
        refine wp_at (fun wx => EvRow g p B ⟨{ M.s with day := e.day }, e.day, true, true⟩ wx ∧ KeptBut g w3 wx) ⟨HR5.out, HQ.out⟩ ?_
        rintro w5 ⟨hr5, hq5⟩
        have m4 := hq5.cell hgs m4
        clear HR5 HQ c21 f21 f23 l23 m2
        obtain ⟨cs, hcs⟩ : ∃ cs, cs = lnCells p B ⟨{ M.s with day := e.day }, e.day, true, true⟩ := ⟨_, rfl⟩
        have hr5c : w5.heap[g]? = some (.cells cs 69 (0, 0)) := by rw [hcs]; exact hr5
        have HADD := Lib.hid fun (W : World) (hW : W.heap = w5.heap) => (addC_any g w.heap.size 11 15 M.s.p M.s.o e.amount cs 69 W (fun h => hgs h.symm) (by decide) (by rw [hW]; exact hr5c) (by rw [hcs]; rfl) (by rw [hcs]; rfl) (by unfold World.cell? at m4 ⊢; rw [hW]; exact m4) (by omega) (by omega) (by omega) (by omega) (by omega) (by omega)).mono fun x w' ⟨h1, h2, h3⟩ => (⟨_, Lib.hid rfl, h1, h2, h3⟩ : ∃ r : Int, Hid (r = if 1000000000000000 < M.s.o + e.amount then 4 else 0) ∧ x = Ending.returned (.int .i64 r) ∧ KeptBut g W w' ∧ w'.heap[g]? = some (Obj.cells ((cs.setIfInBounds 11 (Value.int .i64 (M.s.p + e.amount))).setIfInBounds 15 (Value.int .i64 (M.s.o + e.amount))) 69 (0, 0)))
        have hrow : ∀ W : World, W.heap[g]? = some (.cells ((cs.setIfInBounds 11 (.int .i64 (M.s.p + e.amount))).setIfInBounds 15 (.int .i64 (M.s.o + e.amount))) 69 (0, 0)) → EvRow g p B ⟨M.added e, e.day, true, true⟩ W := fun W hW => by rw [added1 hk]; rw [hcs] at hW; exact hW
        have hov : over (M.added e) ↔ 1000000000000000 < M.s.o + e.amount := by rw [added1 hk]; unfold over; simp only; omega
        have HROW := Lib.hid hrow
        have HOV := Lib.hid hov
        have HCS := Lib.hid hcs
        have HQ5 := Lib.hid hq5
        have HFI : Hid ((if e.kind = 1 ∧ M.lent = false then e.day else M.first) = e.day ∧ (if e.kind = 1 then true else M.lent) = true) := Lib.hid (by simp [hk, hl])
        clear hrow hov hcs hr5 hk hl
        go_upto_region 12 with (fail)
        go_region_held3 (fun W => KeptBut g w5 W) (first | assumption | exact KeptBut.refl _ _ | exact (KeptBut.refl _ _).drew | exact (KeptBut.refl _ _).drewN _ | exact KeptBut.drew (by assumption) | exact KeptBut.drewN (by assumption) _ | exact ⟨hk6.os, hk6.tape, hk6.output, hk6.size, hk6.block⟩) (first | (go_simp; go_at_call 47; refine (HADD.out _ (by rfl)).mono ?_; rintro x w6 ⟨r, hrv, rfl, hk6', hr6⟩; have hk6 : KeptBut g w5 w6 := (⟨hk6'.os, hk6'.tape, hk6'.output, hk6'.size, hk6'.block⟩); clear hk6'))
        all_goals
          go_wp2
          go_meet
          case rel =>
            refine ⟨⟨(HQ5.out.trans hk6).os, (HQ5.out.trans hk6).tape, (HQ5.out.trans hk6).output, (HQ5.out.trans hk6).size, (HQ5.out.trans hk6).block⟩, ?_⟩
            by_cases hv : 1000000000000000 < M.s.o + e.amount
            · exact .inl ⟨by rw [hrv.out, if_pos hv], HOV.out.2 hv⟩
            · exact .inr ⟨by rw [hrv.out, if_neg hv], fun h => hv (HOV.out.1 h), by rw [HFI.out.1, HFI.out.2]; exact HROW.out _ hr6⟩
      · have b1 : (e.kind == 1) = true := by simp [hk]
        rw [hl] at l23
        obtain ⟨w5, hw5⟩ : ∃ w5, w5 = w3 := ⟨_, rfl⟩
        have hr5 : EvRow g p B ⟨{ M.s with day := e.day }, M.first, true, true⟩ w5 := by rw [hw5]; have := hr3; rw [hl] at this; exact this
        have hq5 : KeptBut g w3 w5 := by rw [hw5]; exact KeptBut.refl _ _
        rw [← hw5]
        rw [← hw5] at m4 m2 l23
        clear hw5 hr3
        obtain ⟨cs, hcs⟩ : ∃ cs, cs = lnCells p B ⟨{ M.s with day := e.day }, M.first, true, true⟩ := ⟨_, rfl⟩
        have hr5c : w5.heap[g]? = some (.cells cs 69 (0, 0)) := by rw [hcs]; exact hr5
        have HADD := Lib.hid fun (W : World) (hW : W.heap = w5.heap) => (addC_any g w.heap.size 11 15 M.s.p M.s.o e.amount cs 69 W (fun h => hgs h.symm) (by decide) (by rw [hW]; exact hr5c) (by rw [hcs]; rfl) (by rw [hcs]; rfl) (by unfold World.cell? at m4 ⊢; rw [hW]; exact m4) (by omega) (by omega) (by omega) (by omega) (by omega) (by omega)).mono fun x w' ⟨h1, h2, h3⟩ => (⟨_, Lib.hid rfl, h1, h2, h3⟩ : ∃ r : Int, Hid (r = if 1000000000000000 < M.s.o + e.amount then 4 else 0) ∧ x = Ending.returned (.int .i64 r) ∧ KeptBut g W w' ∧ w'.heap[g]? = some (Obj.cells ((cs.setIfInBounds 11 (Value.int .i64 (M.s.p + e.amount))).setIfInBounds 15 (Value.int .i64 (M.s.o + e.amount))) 69 (0, 0)))
        have hrow : ∀ W : World, W.heap[g]? = some (.cells ((cs.setIfInBounds 11 (.int .i64 (M.s.p + e.amount))).setIfInBounds 15 (.int .i64 (M.s.o + e.amount))) 69 (0, 0)) → EvRow g p B ⟨M.added e, M.first, true, true⟩ W := fun W hW => by rw [added1 hk]; rw [hcs] at hW; exact hW
        have hov : over (M.added e) ↔ 1000000000000000 < M.s.o + e.amount := by rw [added1 hk]; unfold over; simp only; omega
        have HROW := Lib.hid hrow
        have HOV := Lib.hid hov
        have HCS := Lib.hid hcs
        have HQ5 := Lib.hid hq5
        have HFI : Hid ((if e.kind = 1 ∧ M.lent = false then e.day else M.first) = M.first ∧ (if e.kind = 1 then true else M.lent) = true) := Lib.hid (by simp [hk, hl])
        clear hrow hov hcs hr5 hk hl
        go_upto_region 12 with (fail)
        go_region_held3 (fun W => KeptBut g w5 W) (first | assumption | exact KeptBut.refl _ _ | exact (KeptBut.refl _ _).drew | exact (KeptBut.refl _ _).drewN _ | exact KeptBut.drew (by assumption) | exact KeptBut.drewN (by assumption) _ | exact ⟨hk6.os, hk6.tape, hk6.output, hk6.size, hk6.block⟩) (first | (go_simp; go_at_call 47; refine (HADD.out _ (by rfl)).mono ?_; rintro x w6 ⟨r, hrv, rfl, hk6', hr6⟩; have hk6 : KeptBut g w5 w6 := (⟨hk6'.os, hk6'.tape, hk6'.output, hk6'.size, hk6'.block⟩); clear hk6'))
        all_goals
          go_wp2
          go_meet
          case rel =>
            refine ⟨⟨(HQ5.out.trans hk6).os, (HQ5.out.trans hk6).tape, (HQ5.out.trans hk6).output, (HQ5.out.trans hk6).size, (HQ5.out.trans hk6).block⟩, ?_⟩
            by_cases hv : 1000000000000000 < M.s.o + e.amount
            · exact .inl ⟨by rw [hrv.out, if_pos hv], HOV.out.2 hv⟩
            · exact .inr ⟨by rw [hrv.out, if_neg hv], fun h => hv (HOV.out.1 h), by rw [HFI.out.1, HFI.out.2]; exact HROW.out _ hr6⟩
    · have b1 : (e.kind == 1) = false := by simp [hk]
      have b2 : (e.kind == 2) = true := by simp [hk]
      have hl : True := trivial
      obtain ⟨w5, hw5⟩ : ∃ w5, w5 = w3 := ⟨_, rfl⟩
      have hr5 : EvRow g p B ⟨{ M.s with day := e.day }, M.first, true, M.lent⟩ w5 := by rw [hw5]; exact hr3
      have hq5 : KeptBut g w3 w5 := by rw [hw5]; exact KeptBut.refl _ _
      rw [← hw5]
      rw [← hw5] at m4 m2 l23
      clear hw5 hr3
      obtain ⟨cs, hcs⟩ : ∃ cs, cs = lnCells p B ⟨{ M.s with day := e.day }, M.first, true, M.lent⟩ := ⟨_, rfl⟩
      have hr5c : w5.heap[g]? = some (.cells cs 69 (0, 0)) := by rw [hcs]; exact hr5
      have HADD := Lib.hid fun (W : World) (hW : W.heap = w5.heap) => (addC_any g w.heap.size 14 16 M.s.c M.s.n e.amount cs 69 W (fun h => hgs h.symm) (by decide) (by rw [hW]; exact hr5c) (by rw [hcs]; rfl) (by rw [hcs]; rfl) (by unfold World.cell? at m4 ⊢; rw [hW]; exact m4) (by omega) (by omega) (by omega) (by omega) (by omega) (by omega)).mono fun x w' ⟨h1, h2, h3⟩ => (⟨_, Lib.hid rfl, h1, h2, h3⟩ : ∃ r : Int, Hid (r = if 1000000000000000 < M.s.n + e.amount then 4 else 0) ∧ x = Ending.returned (.int .i64 r) ∧ KeptBut g W w' ∧ w'.heap[g]? = some (Obj.cells ((cs.setIfInBounds 14 (Value.int .i64 (M.s.c + e.amount))).setIfInBounds 16 (Value.int .i64 (M.s.n + e.amount))) 69 (0, 0)))
      have hrow : ∀ W : World, W.heap[g]? = some (.cells ((cs.setIfInBounds 14 (.int .i64 (M.s.c + e.amount))).setIfInBounds 16 (.int .i64 (M.s.n + e.amount))) 69 (0, 0)) → EvRow g p B ⟨M.added e, M.first, true, M.lent⟩ W := fun W hW => by rw [added2 hk]; rw [hcs] at hW; exact hW
      have hov : over (M.added e) ↔ 1000000000000000 < M.s.n + e.amount := by rw [added2 hk]; unfold over; simp only; omega
      have HROW := Lib.hid hrow
      have HOV := Lib.hid hov
      have HCS := Lib.hid hcs
      have HQ5 := Lib.hid hq5
      have HFI : Hid ((if e.kind = 1 ∧ M.lent = false then e.day else M.first) = M.first ∧ (if e.kind = 1 then true else M.lent) = M.lent) := Lib.hid (by simp [hk])
      clear hrow hov hcs hr5 hk hl
      go_upto_region 14 with (fail)
      go_region_held3 (fun W => KeptBut g w5 W) (first | assumption | exact KeptBut.refl _ _ | exact (KeptBut.refl _ _).drew | exact (KeptBut.refl _ _).drewN _ | exact KeptBut.drew (by assumption) | exact KeptBut.drewN (by assumption) _ | exact ⟨hk6.os, hk6.tape, hk6.output, hk6.size, hk6.block⟩) (first | (go_simp; go_at_call 47; refine (HADD.out _ (by rfl)).mono ?_; rintro x w6 ⟨r, hrv, rfl, hk6', hr6⟩; have hk6 : KeptBut g w5 w6 := (⟨hk6'.os, hk6'.tape, hk6'.output, hk6'.size, hk6'.block⟩); clear hk6'))
      all_goals
        go_wp2
        go_meet
        case rel =>
          refine ⟨⟨(HQ5.out.trans hk6).os, (HQ5.out.trans hk6).tape, (HQ5.out.trans hk6).output, (HQ5.out.trans hk6).size, (HQ5.out.trans hk6).block⟩, ?_⟩
          by_cases hv : 1000000000000000 < M.s.n + e.amount
          · exact .inl ⟨by rw [hrv.out, if_pos hv], HOV.out.2 hv⟩
          · exact .inr ⟨by rw [hrv.out, if_neg hv], fun h => hv (HOV.out.1 h), by rw [HFI.out.1, HFI.out.2]; exact HROW.out _ hr6⟩
    · have b1 : (e.kind == 1) = false := by simp [hk]
      have b2 : (e.kind == 2) = false := by simp [hk]
      have b4 : (e.kind == 4) = true := by simp [hk]
      have hl : True := trivial
      obtain ⟨w5, hw5⟩ : ∃ w5, w5 = w3 := ⟨_, rfl⟩
      have hr5 : EvRow g p B ⟨{ M.s with day := e.day }, M.first, true, M.lent⟩ w5 := by rw [hw5]; exact hr3
      have hq5 : KeptBut g w3 w5 := by rw [hw5]; exact KeptBut.refl _ _
      rw [← hw5]
      rw [← hw5] at m4 m2 l23
      clear hw5 hr3
      obtain ⟨cs, hcs⟩ : ∃ cs, cs = lnCells p B ⟨{ M.s with day := e.day }, M.first, true, M.lent⟩ := ⟨_, rfl⟩
      have hr5c : w5.heap[g]? = some (.cells cs 69 (0, 0)) := by rw [hcs]; exact hr5
      have HADD := Lib.hid fun (W : World) (hW : W.heap = w5.heap) => (addC_any g w.heap.size 13 18 M.s.f M.s.ch e.amount cs 69 W (fun h => hgs h.symm) (by decide) (by rw [hW]; exact hr5c) (by rw [hcs]; rfl) (by rw [hcs]; rfl) (by unfold World.cell? at m4 ⊢; rw [hW]; exact m4) (by omega) (by omega) (by omega) (by omega) (by omega) (by omega)).mono fun x w' ⟨h1, h2, h3⟩ => (⟨_, Lib.hid rfl, h1, h2, h3⟩ : ∃ r : Int, Hid (r = if 1000000000000000 < M.s.ch + e.amount then 4 else 0) ∧ x = Ending.returned (.int .i64 r) ∧ KeptBut g W w' ∧ w'.heap[g]? = some (Obj.cells ((cs.setIfInBounds 13 (Value.int .i64 (M.s.f + e.amount))).setIfInBounds 18 (Value.int .i64 (M.s.ch + e.amount))) 69 (0, 0)))
      have hrow : ∀ W : World, W.heap[g]? = some (.cells ((cs.setIfInBounds 13 (.int .i64 (M.s.f + e.amount))).setIfInBounds 18 (.int .i64 (M.s.ch + e.amount))) 69 (0, 0)) → EvRow g p B ⟨M.added e, M.first, true, M.lent⟩ W := fun W hW => by rw [added4 hk]; rw [hcs] at hW; exact hW
      have hov : over (M.added e) ↔ 1000000000000000 < M.s.ch + e.amount := by rw [added4 hk]; unfold over; simp only; omega
      have HROW := Lib.hid hrow
      have HOV := Lib.hid hov
      have HCS := Lib.hid hcs
      have HQ5 := Lib.hid hq5
      have HFI : Hid ((if e.kind = 1 ∧ M.lent = false then e.day else M.first) = M.first ∧ (if e.kind = 1 then true else M.lent) = M.lent) := Lib.hid (by simp [hk])
      clear hrow hov hcs hr5 hk hl
      go_upto_region 16 with (fail)
      go_region_held3 (fun W => KeptBut g w5 W) (first | assumption | exact KeptBut.refl _ _ | exact (KeptBut.refl _ _).drew | exact (KeptBut.refl _ _).drewN _ | exact KeptBut.drew (by assumption) | exact KeptBut.drewN (by assumption) _ | exact ⟨hk6.os, hk6.tape, hk6.output, hk6.size, hk6.block⟩) (first | (go_simp; go_at_call 47; refine (HADD.out _ (by rfl)).mono ?_; rintro x w6 ⟨r, hrv, rfl, hk6', hr6⟩; have hk6 : KeptBut g w5 w6 := (⟨hk6'.os, hk6'.tape, hk6'.output, hk6'.size, hk6'.block⟩); clear hk6'))
      all_goals
        go_wp2
        go_meet
        case rel =>
          refine ⟨⟨(HQ5.out.trans hk6).os, (HQ5.out.trans hk6).tape, (HQ5.out.trans hk6).output, (HQ5.out.trans hk6).size, (HQ5.out.trans hk6).block⟩, ?_⟩
          by_cases hv : 1000000000000000 < M.s.ch + e.amount
          · exact .inl ⟨by rw [hrv.out, if_pos hv], HOV.out.2 hv⟩
          · exact .inr ⟨by rw [hrv.out, if_neg hv], fun h => hv (HOV.out.1 h), by rw [HFI.out.1, HFI.out.2]; exact HROW.out _ hr6⟩
    · have b1 : (e.kind == 1) = false := by simp [hk]
      have b2 : (e.kind == 2) = false := by simp [hk]
      have b4 : (e.kind == 4) = false := by simp [hk]
      have b3 : (e.kind == 3) = true := by simp [hk]
      have c10 : w3.cell? ⟨g, 10, none⟩ = some (.int .i64 M.s.rate) := by rw [cell_of_row _ _ _ _ _ _ hr3]; rfl
      have f10 : w3.frozen? ⟨g, 10, none⟩ = false := by simp [World.frozen?, hr3]
      obtain ⟨r1, q1⟩ := row_set (i := 10) (.int .i64 e.amount) HR3.out
      have HROW : Hid (EvRow g p B ⟨M.added e, if e.kind = 1 ∧ M.lent = false then e.day else M.first, true, if e.kind = 1 then true else M.lent⟩ (w3.setCell ⟨g, 10, none⟩ (.int .i64 e.amount))) := Lib.hid (by
        rw [added3 hk, if_neg (by omega), if_neg (by omega)]
        exact r1)
      have HQ := Lib.hid q1
      have HOV : Hid (¬ over (M.added e)) := Lib.hid (by rw [added3 hk]; unfold over; simp only; omega)
      clear r1 q1 hk hr3
      go_wp2
      go_meet
      case rel => exact ⟨HQ.out, .inr ⟨rfl, HOV.out, HROW.out⟩⟩
  case rest =>
    obtain ⟨hkc, (⟨rfl, hov⟩ | ⟨rfl, hnov, hrc⟩)⟩ := hcut
    · have HN : Hid (evStep p L e = none) := Lib.hid (by rw [HS.out, if_pos hov])
      have HKK := Lib.hid ((HK.out.trans HK3.out).trans hkc)
      clear hkc hov hF HS HK HK3 HR3 hr3 hk3 m2 m4
      go_wp2
      go_ret
      exact ⟨HKK.out, .inl ⟨HN.out, rfl⟩⟩
    have HN := Lib.hid (HS.out.trans (if_neg hnov))
    have HKK := Lib.hid ((HK.out.trans HK3.out).trans hkc)
    have hlow := added_low hF.1 he h5
    have hz3 := HKK.out.size
    generalize M.added e = N at *
    generalize (if e.kind = 1 ∧ M.lent = false then e.day else M.first) = fi at *
    generalize (if e.kind = 1 then true else M.lent) = le at *
    have HRC := Lib.hid hrc
    clear hkc hnov hF HS HK HK3 HR3 hr3 hk3 m2 m4 hrc
    go_upto_region 21 with (fail)
    go_region
    obtain ⟨w4, hw4⟩ : ∃ w4, w4 = (wc.alloc (.cells #[.pointer none, .pointer (some ⟨g, 13, none⟩), .pointer (some ⟨g, 12, none⟩), .pointer (some ⟨g, 11, none⟩)] 96)).drew := ⟨_, rfl⟩
    have hr4 : EvRow g p B ⟨N, fi, true, le⟩ w4 := by rw [hw4]; exact heap_old HRC.out
    have hp4 : w4.heap[wc.heap.size]? = some (.cells #[.pointer none, .pointer (some ⟨g, 13, none⟩), .pointer (some ⟨g, 12, none⟩), .pointer (some ⟨g, 11, none⟩)] 96 (0, 0)) := by rw [hw4]; exact heap_alloc_new _ _
    have hk4 : KeptBut g wc w4 := by rw [hw4]; exact (KeptBut.of_below ((Below.refl _ _).alloc (Nat.le_refl _) _)).drew
    rw [← hw4]
    clear hw4
    have hgp : wc.heap.size ≠ g := by omega
    have c5 : w4.cell? ⟨g, 5, none⟩ = some (.int .i64 p.o1) := by rw [cell_of_row _ _ _ _ _ _ hr4]; rfl
    have c6 : w4.cell? ⟨g, 6, none⟩ = some (.int .i64 p.o2) := by rw [cell_of_row _ _ _ _ _ _ hr4]; rfl
    have c7 : w4.cell? ⟨g, 7, none⟩ = some (.int .i64 p.o3) := by rw [cell_of_row _ _ _ _ _ _ hr4]; rfl
    have HK4 := Lib.hid (HKK.out.trans hk4)
    have HP4 : Hid (∀ (j : Nat) u W, KeptBut g w4 W → (#[Value.pointer none, .pointer (some ⟨g, 13, none⟩), .pointer (some ⟨g, 12, none⟩), .pointer (some ⟨g, 11, none⟩)] : Array Value)[j]? = some u → W.cell? ⟨wc.heap.size, j, none⟩ = some u) := Lib.hid fun j u W hW hu => hW.cell hgp (by rw [cell_of_row _ _ _ _ _ _ hp4]; exact hu)
    have HR4 := Lib.hid hr4
    have HORD := Lib.hid fun j => ord_mem hp j
    have HLOW := Lib.hid fun j => spendTo_low (p := p) hlow j
    have HIX : Hid (∀ j : Nat, j < 3 → ∀ W, (Instr.index 22 (.agg #[.int .i64 p.o1, .int .i64 p.o2, .int .i64 p.o3]) (.int .i64 j)).run Tryz.prog W = .ok (.int .i64 (p.ord j)) W) := Lib.hid (by
      intro j hj W
      rcases (show j = 0 ∨ j = 1 ∨ j = 2 by omega) with rfl | rfl | rfl <;> simp [Instr.index, asIntOf, run_underlying Tryz.underlying22] <;> rfl)
    clear hk4 hr4 hp4 hlow HRC
    go_wp2
    go_loopw [103] (fun i wr => ∃ j : Nat, j ≤ 3 ∧ i = .int .i64 j ∧ EvRow g p B ⟨spendTo p N j, fi, true, le⟩ wr ∧ KeptBut g w4 wr) (fun i _ => 3 - (intOf i).toNat)
    case atStart => exact ⟨0, by omega, rfl, HR4.out, KeptBut.refl _ _⟩
    case round =>
      obtain ⟨j, hj, rfl, hrj, hkj⟩ := hrel
      by_cases hlt : j < 3
      · have hix := HIX.out j hlt
        have hNext : Hid (spendTo p N (j + 1) = spend1 (spendTo p N j) (p.ord j)) := Lib.hid rfl
        obtain ⟨l1, l2, l3, l4, l5, l6, l7, l8⟩ := HLOW.out j
        have hkk := HORD.out j
        generalize spendTo p N j = T at *
        generalize p.ord j = k at *
        have d14 : wr.cell? ⟨g, 14, none⟩ = some (.int .i64 T.c) := by rw [cell_of_row _ _ _ _ _ _ hrj]; rfl
        have f14 : wr.frozen? ⟨g, 14, none⟩ = false := by simp [World.frozen?, hrj]
        have HRJ := Lib.hid hrj
        have HKJ := Lib.hid hkj
        rcases hkk with rfl | rfl | rfl
        · have dk : wr.cell? ⟨g, 13, none⟩ = some (.int .i64 T.f) := by rw [cell_of_row _ _ _ _ _ _ hrj]; rfl
          have fk : wr.frozen? ⟨g, 13, none⟩ = false := by simp [World.frozen?, hrj]
          have pk : wr.cell? ⟨wc.heap.size, 1, none⟩ = some (.pointer (some ⟨g, 13, none⟩)) := HP4.out 1 _ wr hkj rfl
          obtain ⟨t1, q1⟩ := row_set (i := 13) (.int .i64 (T.f - min T.c T.f)) HRJ.out
          obtain ⟨t2, q2⟩ := row_set (i := 14) (.int .i64 (T.c - min T.c T.f)) t1
          have hsp : spend1 T 1 = { T with f := T.f - min T.c T.f, c := T.c - min T.c T.f } := rfl
          have HT : Hid (EvRow g p B ⟨spendTo p N (j + 1), fi, true, le⟩ ((wr.setCell ⟨g, 13, none⟩ (.int .i64 (T.f - min T.c T.f))).setCell ⟨g, 14, none⟩ (.int .i64 (T.c - min T.c T.f)))) := Lib.hid (by rw [hNext.out, hsp]; exact t2)
          have HQ := Lib.hid ((hkj.trans q1).trans q2)
          clear hrj hkj t1 q1 t2 q2 hsp hNext
          go_upto_region 25 with (fail)
          go_quiet (fail)
          go_wp2
          go_roundw
          case rel => exact ⟨j + 1, by omega, by go_num, HT.out, ⟨HQ.out.os, HQ.out.tape, HQ.out.output, HQ.out.size, HQ.out.block⟩⟩
          case measure => simp [intOf]; omega
        · have dk : wr.cell? ⟨g, 12, none⟩ = some (.int .i64 T.i) := by rw [cell_of_row _ _ _ _ _ _ hrj]; rfl
          have fk : wr.frozen? ⟨g, 12, none⟩ = false := by simp [World.frozen?, hrj]
          have pk : wr.cell? ⟨wc.heap.size, 2, none⟩ = some (.pointer (some ⟨g, 12, none⟩)) := HP4.out 2 _ wr hkj rfl
          obtain ⟨t1, q1⟩ := row_set (i := 12) (.int .i64 (T.i - min T.c T.i)) HRJ.out
          obtain ⟨t2, q2⟩ := row_set (i := 14) (.int .i64 (T.c - min T.c T.i)) t1
          have hsp : spend1 T 2 = { T with i := T.i - min T.c T.i, c := T.c - min T.c T.i } := rfl
          have HT : Hid (EvRow g p B ⟨spendTo p N (j + 1), fi, true, le⟩ ((wr.setCell ⟨g, 12, none⟩ (.int .i64 (T.i - min T.c T.i))).setCell ⟨g, 14, none⟩ (.int .i64 (T.c - min T.c T.i)))) := Lib.hid (by rw [hNext.out, hsp]; exact t2)
          have HQ := Lib.hid ((hkj.trans q1).trans q2)
          clear hrj hkj t1 q1 t2 q2 hsp hNext
          go_upto_region 25 with (fail)
          go_quiet (fail)
          go_wp2
          go_roundw
          case rel => exact ⟨j + 1, by omega, by go_num, HT.out, ⟨HQ.out.os, HQ.out.tape, HQ.out.output, HQ.out.size, HQ.out.block⟩⟩
          case measure => simp [intOf]; omega
        · have dk : wr.cell? ⟨g, 11, none⟩ = some (.int .i64 T.p) := by rw [cell_of_row _ _ _ _ _ _ hrj]; rfl
          have fk : wr.frozen? ⟨g, 11, none⟩ = false := by simp [World.frozen?, hrj]
          have pk : wr.cell? ⟨wc.heap.size, 3, none⟩ = some (.pointer (some ⟨g, 11, none⟩)) := HP4.out 3 _ wr hkj rfl
          obtain ⟨t1, q1⟩ := row_set (i := 11) (.int .i64 (T.p - min T.c T.p)) HRJ.out
          obtain ⟨t2, q2⟩ := row_set (i := 14) (.int .i64 (T.c - min T.c T.p)) t1
          have hsp : spend1 T 3 = { T with p := T.p - min T.c T.p, c := T.c - min T.c T.p } := rfl
          have HT : Hid (EvRow g p B ⟨spendTo p N (j + 1), fi, true, le⟩ ((wr.setCell ⟨g, 11, none⟩ (.int .i64 (T.p - min T.c T.p))).setCell ⟨g, 14, none⟩ (.int .i64 (T.c - min T.c T.p)))) := Lib.hid (by rw [hNext.out, hsp]; exact t2)
          have HQ := Lib.hid ((hkj.trans q1).trans q2)
          clear hrj hkj t1 q1 t2 q2 hsp hNext
          go_upto_region 25 with (fail)
          go_quiet (fail)
          go_wp2
          go_roundw
          case rel => exact ⟨j + 1, by omega, by go_num, HT.out, ⟨HQ.out.os, HQ.out.tape, HQ.out.output, HQ.out.size, HQ.out.block⟩⟩
          case measure => simp [intOf]; omega
      · obtain rfl : j = 3 := by omega
        have HN3 := Lib.hid (HN.out.trans (by rw [← spendTo_all]))
        have HRJ := Lib.hid hrj
        have HKJ := Lib.hid (HK4.out.trans hkj)
        clear hrj hkj HN
        go_wp2
        go_ret
        exact ⟨HKJ.out, .inr ⟨_, HN3.out, rfl, HRJ.out⟩⟩
end Go.Proofs.YtcbopgopegphlaaGreat
