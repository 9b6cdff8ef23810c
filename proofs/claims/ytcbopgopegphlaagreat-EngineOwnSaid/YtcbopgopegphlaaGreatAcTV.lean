/-
  Joined texts: AcT AcV AcV2. No statement is proved here.
-/
import Derived.Test.YtcbopgopegphlaaGreatAcEE
import Derived.Test.YtcbopgopegphlaaGreatAcA
import Derived.Test.YtcbopgopegphlaaGreatAmDD
namespace Go.Proofs.YtcbopgopegphlaaGreat
open Go.RowKit
set_option linter.unusedVariables false

/-- A loan as it lies in memory: its product, its state, its first day, two marks. -/
def lnCells (p : Prod) (B : Value) (L : Ln) : Array Value := #[.string p.name, .int .i64 p.rate, .int .i64 p.conv, .int .i64 p.step, .int .i64 p.count, .int .i64 p.o1, .int .i64 p.o2, .int .i64 p.o3, B,
  .int .i64 L.s.day, .int .i64 L.s.rate, .int .i64 L.s.p, .int .i64 L.s.i, .int .i64 L.s.f, .int .i64 L.s.c, .int .i64 L.s.o, .int .i64 L.s.n, .int .i64 L.s.a, .int .i64 L.s.ch, .int .i64 L.s.late, .int .i64 L.s.bk,
  .int .i64 L.first, .bool L.began, .bool L.lent]
/-- What holds of a loan on its way. -/
structure Ln.Fine (L : Ln) : Prop where
  d0 : L.began = true → -719162 ≤ L.s.day
  d1 : L.began = true → L.s.day ≤ 2932896
  r0 : 0 ≤ L.s.rate
  r1 : L.s.rate ≤ 1000000000
  p0 : 0 ≤ L.s.p
  p1 : L.s.p ≤ L.s.o
  o1 : L.s.o ≤ 1000000000000000
  i0 : 0 ≤ L.s.i
  i1 : L.s.i ≤ L.s.a
  a1 : L.s.a ≤ 1000000000000000
  f0 : 0 ≤ L.s.f
  f1 : L.s.f ≤ L.s.ch
  ch1 : L.s.ch ≤ 1000000000000000
  c0 : 0 ≤ L.s.c
  c1 : L.s.c ≤ L.s.n
  n1 : L.s.n ≤ 1000000000000000
  even : L.s.p + L.s.i + L.s.f - L.s.c = L.s.o + L.s.a + L.s.ch - L.s.n
  late : L.s.late = 0
  bk : L.s.bk = 0
  none : L.s.c = 0 ∨ L.s.p + L.s.i + L.s.f = 0
  first : L.lent = true → -719162 ≤ L.first ∧ L.first ≤ 2932896
/-- Interest is never below nought. -/
theorem interest_nonneg (p rate num den : Int) (h : (interestOf p rate num den).2 = 0) (p0 : 0 ≤ p) : 0 ≤ (interestOf p rate num den).1 ∧ (interestOf p rate num den).1 ≤ 9223372036854775807 := by
  unfold interestOf at *
  split
  · simp
  · rename_i hno
    rw [if_neg hno] at h
    have e : decide (p < 0) = false := decide_eq_false (by omega)
    rw [e] at h ⊢
    unfold overOf sgn at *
    simp only [Bool.false_eq_true, if_false] at *
    split
    · simp only; omega
    · rename_i hb
      rw [if_neg hb] at h
      exact absurd h (by decide)
/-- All but one block is as it was. -/
structure KeptBut (g : Nat) (w w' : World) : Prop where
  os : w'.os = w.os
  tape : w'.tape = w.tape
  output : w'.output = w.output
  size : w.heap.size ≤ w'.heap.size
  block : ∀ k, k < w.heap.size → k ≠ g → w'.heap[k]? = w.heap[k]?
theorem KeptBut.refl (g : Nat) (w : World) : KeptBut g w w := ⟨rfl, rfl, rfl, Nat.le_refl _, fun _ _ _ => rfl⟩
theorem KeptBut.trans {g : Nat} {a b c : World} (h : KeptBut g a b) (k : KeptBut g b c) : KeptBut g a c :=
  ⟨k.os.trans h.os, k.tape.trans h.tape, k.output.trans h.output, Nat.le_trans h.size k.size, fun i hi hg => (k.block i (Nat.lt_of_lt_of_le hi h.size) hg).trans (h.block i hi hg)⟩
theorem KeptBut.of_below {g : Nat} {a b : World} (h : Below a.heap.size a b) : KeptBut g a b := ⟨h.os, h.tape, h.output, h.size, fun i hi _ => h.block i hi⟩
theorem KeptBut.below {g B : Nat} {a b : World} (h : KeptBut g a b) (hg : B ≤ g) (hB : B ≤ a.heap.size) : Below B a b := ⟨h.os, h.tape, h.output, h.size, fun i hi => h.block i (by omega) (by omega)⟩
theorem KeptBut.setRow {g : Nat} {a b : World} (h : KeptBut g a b) (cs : Array Value) : KeptBut g a (b.setRow g cs) :=
  ⟨h.os, h.tape, h.output, by rw [setRow_size]; exact h.size, fun k hk hkg => by rw [setRow_other _ _ _ _ hkg]; exact h.block k hk hkg⟩
/-- A cell of a row is written. -/
theorem row_set {w : World} {g i : Nat} {cs : Array Value} {t : TypeId} {fr : Nat × Nat} (v : Value) (h : w.heap[g]? = some (.cells cs t fr)) :
    (w.setCell ⟨g, i, none⟩ v).heap[g]? = some (.cells (cs.setIfInBounds i v) t fr) ∧ KeptBut g w (w.setCell ⟨g, i, none⟩ v) := by
  rw [setCell_eq_setRow w g i _ _ _ v h]
  exact ⟨setRow_heap _ _ _ _ _ _ h, (KeptBut.refl g w).setRow _⟩
theorem KeptBut.drewN {g : Nat} {a b : World} (h : KeptBut g a b) (n : Nat) : KeptBut g a (b.drewN n) := ⟨h.os, h.tape, h.output, h.size, h.block⟩
theorem below_un1 {w w' : World} (h : Below w.drew.heap.size w.drew w') : Below w.heap.size w w' := ⟨h.os, h.tape, h.output, h.size, h.block⟩
theorem below_unN {w w' : World} {n : Nat} (h : Below (w.drewN n).heap.size (w.drewN n) w') : Below w.heap.size w w' := ⟨h.os, h.tape, h.output, h.size, h.block⟩
set_option maxRecDepth 100000 in
set_option maxHeartbeats 2000000 in
theorem To_any (g : Nat) (p : Prod) (B : Value) (L : Ln) (d : Int) (w : World) (hp : p.Ok) (hL : L.Fine) (d0 : -719162 ≤ d) (d1 : d ≤ 2932896) (h : w.heap[g]? = some (.cells (lnCells p B L) 69 (0, 0))) :
    Calls Tryz.prog 46 #[.pointer (some ⟨g, 0, none⟩), .int .i64 d] w fun e w' => KeptBut g w w' ∧ (toDay p.conv L d = none ∧ e = .returned (.int .i64 4) ∨ ∃ M, toDay p.conv L d = some M ∧ e = .returned (.int .i64 0) ∧ w'.heap[g]? = some (.cells (lnCells p B M) 69 (0, 0))) := by
  have hg := (Array.getElem?_eq_some_iff.1 h).1
  have c22 : w.cell? ⟨g, 22, none⟩ = some (.bool L.began) := by rw [cell_of_row _ _ _ _ _ _ h]; rfl
  have c9 : w.cell? ⟨g, 9, none⟩ = some (.int .i64 L.s.day) := by rw [cell_of_row _ _ _ _ _ _ h]; rfl
  by_cases hbeg : L.began = false
  · have ht : toDay p.conv L d = some L := by unfold toDay; rw [if_pos (.inl hbeg)]
    rw [hbeg] at c22
    have H := Lib.hid h
    have HT := Lib.hid ht
    clear h ht
    go_enter Tryz.func46, Tryz.ntmps46
    go_wp2
    go_ret
    exact ⟨KeptBut.refl g w, .inr ⟨L, HT.out, rfl, H.out⟩⟩
  rw [Bool.not_eq_false] at hbeg
  rw [hbeg] at c22
  by_cases hd : d ≤ L.s.day
  · have ht : toDay p.conv L d = some L := by unfold toDay; rw [if_pos (.inr hd)]
    have H := Lib.hid h
    have HT := Lib.hid ht
    clear h ht
    go_enter Tryz.func46, Tryz.ntmps46
    go_wp2
    go_ret
    exact ⟨KeptBut.refl g w, .inr ⟨L, HT.out, rfl, H.out⟩⟩
  have ht : toDay p.conv L d = (accr p.conv L.s d).map fun s => { L with s := s } := by unfold toDay; rw [if_neg (by rw [hbeg]; simp; omega)]
  have hday0 := hL.d0 hbeg
  have hday1 := hL.d1 hbeg
  have HC := Lib.hid fun W => Count_any p.conv L.s.day d W hp.conv0 hp.conv1 hday0 hday1 d0 d1 (by omega)
  have HI := Lib.hid fun W => Interest_any L.s.p L.s.rate (countOf p.conv L.s.day d).1 (countOf p.conv L.s.day d).2 W
  have HNN := Lib.hid fun h2 => interest_nonneg L.s.p L.s.rate (countOf p.conv L.s.day d).1 (countOf p.conv L.s.day d).2 h2 hL.p0
  have hac : accr p.conv L.s d = if (interestOf L.s.p L.s.rate (countOf p.conv L.s.day d).1 (countOf p.conv L.s.day d).2).2 ≠ 0 ∨ 1000000000000000 - L.s.a < (interestOf L.s.p L.s.rate (countOf p.conv L.s.day d).1 (countOf p.conv L.s.day d).2).1 then none
      else some { L.s with i := L.s.i + (interestOf L.s.p L.s.rate (countOf p.conv L.s.day d).1 (countOf p.conv L.s.day d).2).1, a := L.s.a + (interestOf L.s.p L.s.rate (countOf p.conv L.s.day d).1 (countOf p.conv L.s.day d).2).1, day := d } := rfl
  have hp3 := hp.conv0
  have hp4 := hp.conv1
  have i0 := hL.i0
  have i1 := hL.i1
  have a1 := hL.a1
  generalize (interestOf L.s.p L.s.rate (countOf p.conv L.s.day d).1 (countOf p.conv L.s.day d).2).1 = I at *
  generalize (interestOf L.s.p L.s.rate (countOf p.conv L.s.day d).1 (countOf p.conv L.s.day d).2).2 = E at *
  generalize (countOf p.conv L.s.day d).1 = num at *
  generalize (countOf p.conv L.s.day d).2 = den at *
  have c2 : w.cell? ⟨g, 2, none⟩ = some (.int .i64 p.conv) := by rw [cell_of_row _ _ _ _ _ _ h]; rfl
  have c10 : w.cell? ⟨g, 10, none⟩ = some (.int .i64 L.s.rate) := by rw [cell_of_row _ _ _ _ _ _ h]; rfl
  have c11 : w.cell? ⟨g, 11, none⟩ = some (.int .i64 L.s.p) := by rw [cell_of_row _ _ _ _ _ _ h]; rfl
  have c12 : w.cell? ⟨g, 12, none⟩ = some (.int .i64 L.s.i) := by rw [cell_of_row _ _ _ _ _ _ h]; rfl
  have c17 : w.cell? ⟨g, 17, none⟩ = some (.int .i64 L.s.a) := by rw [cell_of_row _ _ _ _ _ _ h]; rfl
  have H := Lib.hid h
  have HAC := Lib.hid hac
  have HT := Lib.hid ht
  clear h hac ht
  go_enter Tryz.func46, Tryz.ntmps46
  go_upto_region 3 with (fail)
  go_region_held3 (fun W => W.cell? ⟨g, 2, none⟩ = some (.int .i64 p.conv) ∧ W.cell? ⟨g, 9, none⟩ = some (.int .i64 L.s.day) ∧ Below w.heap.size w W) (first | assumption | exact ⟨c2, c9, Below.refl _ _⟩ | exact ⟨c2, c9, Below.drew (Below.refl _ _)⟩ | exact ⟨c2, c9, below_drewN (Below.refl _ _) _⟩ | exact ⟨cell_later hb1 c2, cell_later hb1 c9, hb1⟩ | exact ⟨cell_later hb1 c2, cell_later hb1 c9, below_drewN hb1 _⟩) (first | (go_simp; go_at_call 60; refine (HC.out _).mono ?_; rintro e w1 ⟨rfl, hb1'⟩; have hb1 : Below w.heap.size w w1 := (by first | exact hb1' | exact below_un1 hb1' | exact below_unN hb1'); clear hb1'))
  all_goals
    clear HC c2 c22 c9
    have e10 := cell_later hb1 c10
    have e11 := cell_later hb1 c11
    have e12 := cell_later hb1 c12
    have e17 := cell_later hb1 c17
    clear c10 c11 c12 c17
    go_upto_region 6 with (fail)
    go_region_held3 (fun W => W.cell? ⟨g, 10, none⟩ = some (.int .i64 L.s.rate) ∧ W.cell? ⟨g, 11, none⟩ = some (.int .i64 L.s.p) ∧ Below w1.heap.size w1 W) (first | assumption | exact ⟨e10, e11, Below.refl _ _⟩ | exact ⟨e10, e11, Below.drew (Below.refl _ _)⟩ | exact ⟨e10, e11, below_drewN (Below.refl _ _) _⟩ | exact ⟨cell_later hb2 e10, cell_later hb2 e11, hb2⟩ | exact ⟨cell_later hb2 e10, cell_later hb2 e11, below_drewN hb2 _⟩) (first | (go_simp; go_at_call 61; refine (HI.out _).mono ?_; rintro e w2 ⟨rfl, hb2'⟩; have hb2 : Below w1.heap.size w1 w2 := (by first | exact hb2' | exact below_un1 hb2' | exact below_unN hb2'); clear hb2'))
  all_goals
    have f12 := cell_later hb2 e12
    have f17 := cell_later hb2 e17
    have hbb : Below w.heap.size w w2 := hb1.trans (hb2.mono hb1.size)
    clear e10 e11 e12 e17 HI
    have HR := Lib.hid ((hbb.block g hg).trans H.out)
    have HK := Lib.hid (KeptBut.of_below (g := g) hbb)
    by_cases hE : E = 0
    · subst hE
      obtain ⟨I0, I1⟩ := HNN.out rfl
      by_cases hI : 1000000000000000 - L.s.a < I
      · have hn : Hid (toDay p.conv L d = none) := Lib.hid (by rw [HT.out, HAC.out, if_pos (.inr hI)]; rfl)
        clear HT HAC
        go_wp2
        go_ret
        exact ⟨HK.out, .inl ⟨hn.out, rfl⟩⟩
      · have hn := Lib.hid (HT.out.trans (by rw [HAC.out, if_neg (by rw [not_or]; exact ⟨fun h => h rfl, hI⟩)]))
        clear HT HAC
        have k9 := HR.out
        have z12 : w2.frozen? ⟨g, 12, none⟩ = false := by simp [World.frozen?, k9]
        have z17 : w2.frozen? ⟨g, 17, none⟩ = false := by simp [World.frozen?, k9]
        have z9 : w2.frozen? ⟨g, 9, none⟩ = false := by simp [World.frozen?, k9]
        have f9 : w2.cell? ⟨g, 9, none⟩ = some (.int .i64 L.s.day) := by rw [cell_of_row _ _ _ _ _ _ k9]; rfl
        clear k9
        go_wp2
        go_ret
        obtain ⟨r1, q1⟩ := row_set (i := 12) (.int .i64 (L.s.i + I)) HR.out
        obtain ⟨r2, q2⟩ := row_set (i := 17) (.int .i64 (L.s.a + I)) r1
        obtain ⟨r3, q3⟩ := row_set (i := 9) (.int .i64 d) r2
        exact ⟨((HK.out.trans q1).trans q2).trans q3, .inr ⟨_, hn.out, rfl, r3⟩⟩
    · have hn : Hid (toDay p.conv L d = none) := Lib.hid (by rw [HT.out, HAC.out, if_pos (.inl hE)]; rfl)
      have hEb : (E != 0) = true := by simpa using hE
      clear HT HAC
      go_wp2
      go_ret
      exact ⟨HK.out, .inl ⟨hn.out, rfl⟩⟩
end Go.Proofs.YtcbopgopegphlaaGreat

namespace Go.Proofs.YtcbopgopegphlaaGreat
open Go.RowKit
set_option linter.unusedVariables false

theorem order_mem {a b c : Int} (h : orderOk a b c) : (a = 1 ∨ a = 2 ∨ a = 3) ∧ (b = 1 ∨ b = 2 ∨ b = 3) ∧ (c = 1 ∨ c = 2 ∨ c = 3) := by
  have h1 := h 1 (by omega) (by omega)
  have h2 := h 2 (by omega) (by omega)
  have h3 := h 3 (by omega) (by omega)
  omega
/-- Amounts that are small and not below nought. -/
structure St.Low (s : St) : Prop where
  p0 : 0 ≤ s.p
  p1 : s.p ≤ 4000000000000000
  i0 : 0 ≤ s.i
  i1 : s.i ≤ 4000000000000000
  f0 : 0 ≤ s.f
  f1 : s.f ≤ 4000000000000000
  c0 : 0 ≤ s.c
  c1 : s.c ≤ 4000000000000000
theorem spend1_low {s : St} (k : Int) (h : s.Low) : (spend1 s k).Low := by
  obtain ⟨a, b, c, d, e, f, g, i⟩ := h
  unfold spend1
  split
  · constructor <;> simp only <;> omega
  · split
    · constructor <;> simp only <;> omega
    · split
      · constructor <;> simp only <;> omega
      · exact ⟨a, b, c, d, e, f, g, i⟩
def Prod.ord (p : Prod) (j : Nat) : Int := if j = 0 then p.o1 else if j = 1 then p.o2 else p.o3
def spendTo (p : Prod) (s : St) : Nat → St
  | 0 => s
  | j + 1 => spend1 (spendTo p s j) (p.ord j)
theorem spendTo_all (p : Prod) (s : St) : spendTo p s 3 = spendAll p s := rfl
theorem spendTo_low {p : Prod} {s : St} (h : s.Low) (j : Nat) : (spendTo p s j).Low := by
  induction j with
  | zero => exact h
  | succ j ih => exact spend1_low _ ih
theorem ord_mem {p : Prod} (h : p.Ok) (j : Nat) : p.ord j = 1 ∨ p.ord j = 2 ∨ p.ord j = 3 := by
  obtain ⟨h1, h2, h3⟩ := order_mem h.order
  unfold Prod.ord
  split
  · exact h1
  · split
    · exact h2
    · exact h3
/-- What spending leaves. -/
structure Spent (s t : St) : Prop where
  day : t.day = s.day
  rate : t.rate = s.rate
  o : t.o = s.o
  n : t.n = s.n
  a : t.a = s.a
  ch : t.ch = s.ch
  late : t.late = s.late
  bk : t.bk = s.bk
  p : t.p ≤ s.p
  i : t.i ≤ s.i
  f : t.f ≤ s.f
  c : t.c ≤ s.c
  even : t.p + t.i + t.f - t.c = s.p + s.i + s.f - s.c
theorem Spent.refl (s : St) : Spent s s := by constructor <;> omega
theorem Spent.trans {s t u : St} (h : Spent s t) (k : Spent t u) : Spent s u := by
  constructor
  · rw [k.day, h.day]
  · rw [k.rate, h.rate]
  · rw [k.o, h.o]
  · rw [k.n, h.n]
  · rw [k.a, h.a]
  · rw [k.ch, h.ch]
  · rw [k.late, h.late]
  · rw [k.bk, h.bk]
  · exact Int.le_trans k.p h.p
  · exact Int.le_trans k.i h.i
  · exact Int.le_trans k.f h.f
  · exact Int.le_trans k.c h.c
  · rw [k.even, h.even]
theorem spend1_spent {s : St} (k : Int) (h : s.Low) : Spent s (spend1 s k) := by
  obtain ⟨a, b, c, d, e, f, g, i⟩ := h
  unfold spend1
  split
  · constructor <;> simp only <;> omega
  · split
    · constructor <;> simp only <;> omega
    · split
      · constructor <;> simp only <;> omega
      · exact Spent.refl s
theorem spendAll_spent (p : Prod) {s : St} (h : s.Low) : Spent s (spendAll p s) ∧ (spendAll p s).Low :=
  ⟨((spend1_spent _ h).trans (spend1_spent _ (spend1_low _ h))).trans (spend1_spent _ (spend1_low _ (spend1_low _ h))), spendTo_low h 3⟩
/-- Behind its turn either the credit is gone or the part is. -/
theorem spend1_done {s : St} (k : Int) (h : s.Low) (z : s.c = 0) : (spend1 s k).c = 0 := by
  have := (spend1_spent k h).c
  have := (spend1_low k h).c0
  omega
theorem spend1_gone {s : St} (h : s.Low) : ((spend1 s 1).c = 0 ∨ (spend1 s 1).f = 0) ∧ ((spend1 s 2).c = 0 ∨ (spend1 s 2).i = 0) ∧ ((spend1 s 3).c = 0 ∨ (spend1 s 3).p = 0) := by
  obtain ⟨a, b, c, d, e, f, g, i⟩ := h
  unfold spend1
  refine ⟨?_, ?_, ?_⟩ <;> simp <;> omega
theorem spendAll_none {p : Prod} (hp : p.Ok) {s : St} (h : s.Low) : (spendAll p s).c = 0 ∨ (spendAll p s).p + (spendAll p s).i + (spendAll p s).f = 0 := by
  have ho := hp.order
  have h1 := spend1_low p.o1 h
  have h2 := spend1_low p.o2 h1
  have h3 := spend1_low p.o3 h2
  have s1 := spend1_spent p.o1 h
  have s2 := spend1_spent p.o2 h1
  have s3 := spend1_spent p.o3 h2
  have g1 := spend1_gone h
  have g2 := spend1_gone h1
  have g3 := spend1_gone h2
  have o1 := ho 1 (by omega) (by omega)
  have o2 := ho 2 (by omega) (by omega)
  have o3 := ho 3 (by omega) (by omega)
  unfold spendAll
  generalize hA : spend1 s p.o1 = A at *
  generalize hB : spend1 A p.o2 = B at *
  generalize hC : spend1 B p.o3 = C at *
  have k1 := h1.p0
  have k2 := h1.i0
  have k3 := h1.f0
  have k4 := h1.c0
  have l1 := h2.p0
  have l2 := h2.i0
  have l3 := h2.f0
  have l4 := h2.c0
  have m1 := h3.p0
  have m2 := h3.i0
  have m3 := h3.f0
  have m4 := h3.c0
  have n1 := s2.p
  have n2 := s2.i
  have n3 := s2.f
  have n4 := s2.c
  have q1 := s3.p
  have q2 := s3.i
  have q3 := s3.f
  have q4 := s3.c
  have mem := order_mem ho
  have F : ∀ k : Int, (p.o1 = k ∨ p.o2 = k ∨ p.o3 = k) → C.c = 0 ∨ (k = 1 → C.f = 0) ∧ (k = 2 → C.i = 0) ∧ (k = 3 → C.p = 0) := by
    intro k hk
    rcases hk with hk | hk | hk
    · rw [hk] at hA
      by_cases z : A.c = 0
      · left; omega
      · right
        refine ⟨?_, ?_, ?_⟩ <;> (rintro rfl; rw [hA] at g1; omega)
    · rw [hk] at hB
      by_cases z : B.c = 0
      · left; omega
      · right
        refine ⟨?_, ?_, ?_⟩ <;> (rintro rfl; rw [hB] at g2; omega)
    · rw [hk] at hC
      by_cases z : C.c = 0
      · left; omega
      · right
        refine ⟨?_, ?_, ?_⟩ <;> (rintro rfl; rw [hC] at g3; omega)
  have f1 := F 1 o1
  have f2 := F 2 o2
  have f3 := F 3 o3
  omega
end Go.Proofs.YtcbopgopegphlaaGreat

namespace Go.Proofs.YtcbopgopegphlaaGreat
open Go.RowKit
set_option linter.unusedVariables false

theorem KeptBut.cell {g : Nat} {w w' : World} (h : KeptBut g w w') {p : Addr} {v : Value} (hp : p.block ≠ g) (hc : w.cell? p = some v) : w'.cell? p = some v := by
  have h1 := h.block p.block (World.block_lt_of_cell? _ _ hc) hp
  unfold World.cell? at hc ⊢
  rw [h1]
  exact hc
theorem KeptBut.drew {g : Nat} {a b : World} (h : KeptBut g a b) : KeptBut g a b.drew := ⟨h.os, h.tape, h.output, h.size, h.block⟩
set_option maxRecDepth 100000 in
set_option maxHeartbeats 2000000 in
theorem addC_any (g ge i j : Nat) (x y am : Int) (cs : Array Value) (t : TypeId) (w : World) (hne : g ≠ ge) (hij : i ≠ j) (h : w.heap[g]? = some (.cells cs t (0, 0))) (hi : cs[i]? = some (.int .i64 x)) (hj : cs[j]? = some (.int .i64 y))
    (he : w.cell? ⟨ge, 4, none⟩ = some (.int .i64 am)) (x0 : 0 ≤ x) (x1 : x ≤ 4000000000000000) (y0 : 0 ≤ y) (y1 : y ≤ 4000000000000000) (a0 : 0 ≤ am) (a1 : am ≤ 4000000000000000) :
    Calls Tryz.prog 47 #[.pointer (some ⟨g, i, none⟩), .pointer (some ⟨g, j, none⟩), .pointer (some ⟨ge, 0, none⟩)] w fun e w' =>
      e = .returned (.int .i64 (if 1000000000000000 < y + am then 4 else 0)) ∧ KeptBut g w w' ∧ w'.heap[g]? = some (.cells ((cs.setIfInBounds i (.int .i64 (x + am))).setIfInBounds j (.int .i64 (y + am))) t (0, 0)) := by
  have ci : w.cell? ⟨g, i, none⟩ = some (.int .i64 x) := by rw [cell_of_row _ _ _ _ _ _ h]; exact hi
  have cj : w.cell? ⟨g, j, none⟩ = some (.int .i64 y) := by rw [cell_of_row _ _ _ _ _ _ h]; exact hj
  have zi : w.frozen? ⟨g, i, none⟩ = false := by simp [World.frozen?, h]
  have zj : w.frozen? ⟨g, j, none⟩ = false := by simp [World.frozen?, h]
  have H := Lib.hid h
  clear h hi hj
  generalize hr : (if 1000000000000000 < y + am then (4 : Int) else 0) = r
  have HR := Lib.hid hr
  clear hr
  go_enter Tryz.func47, Tryz.ntmps47
  go_upto_region 1 with (fail)
  go_region
  obtain ⟨r1, q1⟩ := row_set (i := i) (.int .i64 (x + am)) H.out
  obtain ⟨w1, hw1⟩ : ∃ w1, w1 = (w.setCell ⟨g, i, none⟩ (.int .i64 (x + am))).drew := ⟨_, rfl⟩
  have R1 : Hid (w1.heap[g]? = some (.cells (cs.setIfInBounds i (.int .i64 (x + am))) t (0, 0))) := Lib.hid (by rw [hw1]; exact r1)
  have Q1 : Hid (KeptBut g w w1) := Lib.hid (by rw [hw1]; exact q1.drew)
  rw [← hw1]
  have dj : w1.cell? ⟨g, j, none⟩ = some (.int .i64 y) := by
    rw [cell_of_row _ _ _ _ _ _ R1.out, Array.getElem?_setIfInBounds_ne hij]
    rw [cell_of_row _ _ _ _ _ _ H.out] at cj
    exact cj
  have fj : w1.frozen? ⟨g, j, none⟩ = false := by simp [World.frozen?, R1.out]
  have de := Q1.out.cell (fun h => hne h.symm) he
  clear hw1 r1 q1 ci cj zi zj he
  go_upto_region 2 with (fail)
  go_region
  obtain ⟨r2, q2⟩ := row_set (i := j) (.int .i64 (y + am)) R1.out
  obtain ⟨w2, hw2⟩ : ∃ w2, w2 = (w1.setCell ⟨g, j, none⟩ (.int .i64 (y + am))).drew := ⟨_, rfl⟩
  have R2 : Hid (w2.heap[g]? = some (.cells ((cs.setIfInBounds i (.int .i64 (x + am))).setIfInBounds j (.int .i64 (y + am))) t (0, 0))) := Lib.hid (by rw [hw2]; exact r2)
  have Q2 : Hid (KeptBut g w w2) := Lib.hid (by rw [hw2]; exact (Q1.out.trans q2).drew)
  have ej : w2.cell? ⟨g, j, none⟩ = some (.int .i64 (y + am)) := by
    rw [cell_of_row _ _ _ _ _ _ R2.out]
    rw [cell_of_row _ _ _ _ _ _ R1.out] at dj
    have hl := (Array.getElem?_eq_some_iff.1 dj).1
    rw [Array.getElem?_setIfInBounds_self_of_lt hl]
  rw [← hw2]
  clear hw2 r2 q2 dj fj de
  by_cases hov : 1000000000000000 < y + am
  · have h4 : r = 4 := by rw [← HR.out, if_pos hov]
    subst h4
    go_wp2
    go_ret
    exact ⟨rfl, Q2.out, R2.out⟩
  · have h4 : r = 0 := by rw [← HR.out, if_neg hov]
    subst h4
    go_wp2
    go_ret
    exact ⟨rfl, Q2.out, R2.out⟩
end Go.Proofs.YtcbopgopegphlaaGreat
