/-
  The engine's two searches: slices.BinarySearchFunc at events. No statement is proved here.
-/
import Derived.Test.YtcbopgopegphlaaGreatEnP
import Derived.Test.YtcbopgopegphlaaGreatAcX
namespace Go.Proofs.YtcbopgopegphlaaGreat
open Go.RowKit
set_option linter.unusedVariables false
/-- How many at the head are so. -/
def cntP (p : Ev → Bool) (l : List Ev) : Nat := (l.takeWhile p).length
theorem cntP_eq (p : Ev → Bool) : ∀ (l : List Ev) (i : Nat), i ≤ l.length → (∀ q (h : q < l.length), q < i → p l[q] = true) → (∀ h : i < l.length, p l[i] = false) → cntP p l = i
  | [], i, h, _, _ => by simp at h; subst h; rfl
  | x :: l, 0, _, _, h2 => by
    have := h2 (by simp)
    simp only [List.getElem_cons_zero] at this
    simp [cntP, this]
  | x :: l, i + 1, h, h1, h2 => by
    have hx := h1 0 (by simp) (by omega)
    simp only [List.getElem_cons_zero] at hx
    have ih := cntP_eq p l i (by simpa using h) (fun q hq hqi => by have := h1 (q + 1) (by simpa using hq) (by omega); simpa using this) (fun hi => by have := h2 (by simpa using hi); simpa using this)
    unfold cntP at *
    rw [List.takeWhile_cons, if_pos hx, List.length_cons, ih]
theorem ev_cells {w : World} {b off m : Nat} {l : List Ev} (h : RdE w (some ⟨b, off, none⟩) m l) (i : Nat) (hi : i < l.length) : ∀ k u, (evCells l[i])[k]? = some u → w.cell? ⟨b, off + i * 6 + k, none⟩ = some u := by
  obtain ⟨b', off', e, hc⟩ := h.2 (by have := h.1; omega)
  injection e with e
  injection e with e1 e2
  subst e1 e2
  exact hc i hi
theorem ev_six {w : World} {b off m : Nat} {l : List Ev} (h : RdE w (some ⟨b, off, none⟩) m l) (i : Nat) (hi : i < l.length) :
    w.cell? ⟨b, off + i * 6, none⟩ = some (.int .i64 l[i].seq) ∧ w.cell? ⟨b, off + i * 6 + 1, none⟩ = some (.string l[i].loan) ∧ w.cell? ⟨b, off + i * 6 + 2, none⟩ = some (.int .i64 l[i].day) ∧ w.cell? ⟨b, off + i * 6 + 3, none⟩ = some (.int .i64 l[i].kind) ∧ w.cell? ⟨b, off + i * 6 + 4, none⟩ = some (.int .i64 l[i].amount) ∧ w.cell? ⟨b, off + i * 6 + 5, none⟩ = some (.int .i64 l[i].ref) := by
  have hc := ev_cells h i hi
  exact ⟨hc 0 _ rfl, hc 1 _ rfl, hc 2 _ rfl, hc 3 _ rfl, hc 4 _ rfl, hc 5 _ rfl⟩
set_option maxHeartbeats 2000000 in
set_option maxRecDepth 100000 in
theorem Search_ev (g : Nat) (p : Ev → Bool) (E : Option Addr) (m c : Nat) (t : Int) (l : List Ev) (w : World) (hE : RdE w E m l) (hm : m ≤ 1000000000) (eg : ∀ args w, (callFunc g args).run Tryz.prog w = .ok (.enter g args) w)
    (hcl : ∀ (e : Ev) (W : World), Calls Tryz.prog g #[.agg #[.int .i64 e.seq, .string e.loan, .int .i64 e.day, .int .i64 e.kind, .int .i64 e.amount, .int .i64 e.ref], .int .i64 t] W fun x w' => x = .returned (.int .i64 (if p e then -1 else 1)) ∧ Below W.heap.size W w')
    (mono : ∀ i j (hj : j < l.length) (h : i ≤ j), p l[j] = true → p (l[i]'(by omega)) = true) :
    Calls Tryz.prog 25 #[.slice E m c, .int .i64 t, .func (.func g) #[] #[]] w fun e w' => e = .returned (.tuple #[.int .i64 (cntP p l : Nat), .bool false]) ∧ Below w.heap.size w w' := by
  have HT := Lib.hid fun e (he : p e = true) W => (hcl e W).mono fun x w' ⟨h1, h2⟩ => (⟨by rw [h1, he]; rfl, h2⟩ : x = Ending.returned (Value.int .i64 (-1)) ∧ Below W.heap.size W w')
  have HF := Lib.hid fun e (he : p e = false) W => (hcl e W).mono fun x w' ⟨h1, h2⟩ => (⟨by rw [h1, he]; rfl, h2⟩ : x = Ending.returned (Value.int .i64 1) ∧ Below W.heap.size W w')
  have HM := Lib.hid mono
  have HL := Lib.hid hE.1
  have HE := Lib.hid hE
  clear hcl mono hE
  go_enter Tryz.func25, Tryz.ntmps25
  go_wp2_with fail
  go_loopw [9, 10] (fun s5 s6 wr => ∃ lo hi : Nat, s5 = .int .i64 lo ∧ s6 = .int .i64 hi ∧ lo ≤ hi ∧ hi ≤ m ∧ Hid (∀ q (h : q < l.length), q < lo → p l[q] = true) ∧ Hid (∀ q (h : q < l.length), hi ≤ q → p l[q] = false) ∧ Below w.heap.size w wr) (fun s5 s6 _ => (intOf s6 - intOf s5).toNat)
  case atStart => exact ⟨0, m, rfl, rfl, by omega, by omega, fun q h h0 => by omega, fun q h h0 => by have := HL.out; omega, Below.refl _ _⟩
  case round =>
    obtain ⟨lo, hi, rfl, rfl, h1, h2, P1, P2, hb⟩ := hrel
    by_cases hlt : lo < hi
    · obtain ⟨h, hh⟩ : ∃ h : Nat, (lo + hi) / 2 = h := ⟨_, rfl⟩
      have y3 : ((lo : Int) + (hi : Int)) / 2 = (h : Int) := by omega
      have hhl : h < l.length := by have := HL.out; omega
      have hhm : (h : Int) < (m : Int) := by omega
      have hlh : lo ≤ h := by omega
      have hhh : h < hi := by omega
      have y4 : (h : Int) < 4611686018427387904 := by omega
      have hEr := HE.out.below hb
      obtain ⟨b, off, rfl, _⟩ := hEr.2 (by omega)
      obtain ⟨x0, x1, x2, x3, x4, x5⟩ := ev_six hEr h hhl
      clear hEr hh
      cases hq : p l[h]
      · have hc := HF.out _ hq
        have N2 : Hid (∀ q (h : q < l.length), (lo + hi) / 2 ≤ q → p l[q] = false) := Lib.hid fun q hql hqh => by
          cases e : p l[q]
          · rfl
          · have := HM.out h q hql (by omega) e
            rw [hq] at this; cases this
        have N3 : Hid (∀ q (hx : q < l.length), h ≤ q → p l[q] = false) := Lib.hid fun q hql hqh => N2.out q hql (by omega)
        have HCC := Lib.hid hc
        clear hq hc N2
        generalize l[h] = e at *
        go_wp2_with (go_at_fn g; refine (HCC.out _).mono ?_; rintro ex w' ⟨rfl, hb'⟩)
        go_roundw
        case rel => exact ⟨lo, h, rfl, rfl, hlh, by omega, P1, N3, hb.trans (hb'.mono hb.size)⟩
        case measure => simp [intOf]; omega
      · have hc := HT.out _ hq
        have N3 : Hid (∀ q (hx : q < l.length), q < h + 1 → p l[q] = true) := Lib.hid fun q hql hqh => HM.out q h hhl (by omega) hq
        have HCC := Lib.hid hc
        clear hq hc
        generalize l[h] = e at *
        go_wp2_with (go_at_fn g; refine (HCC.out _).mono ?_; rintro ex w' ⟨rfl, hb'⟩)
        go_roundw
        case rel => exact ⟨h + 1, hi, by go_num, rfl, by omega, h2, N3, P2, hb.trans (hb'.mono hb.size)⟩
        case measure => simp [intOf]; omega
    · obtain rfl : lo = hi := by omega
      have hcnt : Hid (cntP p l = lo) := Lib.hid (cntP_eq p l lo (by have := HL.out; omega) P1.out fun h => P2.out lo h (Nat.le_refl _))
      by_cases hlm : lo < m
      · have hhl : lo < l.length := by have := HL.out; omega
        have hhm : (lo : Int) < (m : Int) := by omega
        have hd : decide ((lo : Int) < (m : Int)) = true := decide_eq_true hhm
        have hEr := HE.out.below hb
        obtain ⟨b, off, rfl, _⟩ := hEr.2 (by omega)
        obtain ⟨x0, x1, x2, x3, x4, x5⟩ := ev_six hEr lo hhl
        have HCC := Lib.hid (HF.out _ (P2.out lo hhl (Nat.le_refl _)))
        clear hEr
        generalize l[lo] = e at *
        go_wp2_with (go_at_fn g; refine (HCC.out _).mono ?_; rintro ex w' ⟨rfl, hb'⟩)
        go_ret2
        exact ⟨by rw [hcnt.out]; rfl, hb.trans (hb'.mono hb.size)⟩
      · have hd : decide ((lo : Int) < (m : Int)) = false := decide_eq_false (by omega)
        go_wp2
        go_ret2
        exact ⟨by rw [hcnt.out]; rfl, hb⟩
end Go.Proofs.YtcbopgopegphlaaGreat
