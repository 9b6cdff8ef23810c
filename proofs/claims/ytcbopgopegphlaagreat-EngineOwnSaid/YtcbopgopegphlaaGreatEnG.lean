/-
  The engine's small functions: copies, reversible. No statement is proved here.
-/
import Derived.Test.YtcbopgopegphlaaGreatEnK
namespace Go.Proofs.YtcbopgopegphlaaGreat
open Go.RowKit
set_option linter.unusedVariables false
set_option maxRecDepth 100000 in
set_option maxHeartbeats 2000000 in
theorem CloneE_any (A : Option Addr) (m c : Nat) (l : List Ev) (w : World) (hA : RdE w A m l) (hm : m ≤ 1000000) :
    Calls Tryz.prog 32 #[.slice A m c] w fun e w' => ∃ v, e = .returned v ∧ w'.ownsRow w.heap.size 39 6 v m (flatE l) ∧ Below w.heap.size w w' := by
  cases A with
  | none =>
    have hn : m = 0 := by
      rcases Nat.eq_zero_or_pos m with h | h
      · exact h
      · obtain ⟨_, _, e, _⟩ := hA.2 h
        cases e
    have hl : l = [] := List.eq_nil_of_length_eq_zero (by rw [hA.1, hn])
    subst hl
    subst hn
    have hown := World.ownsRow_nil w w.heap.size 39 6
    have hq : ∀ w : World, (binOp .eql 35 (.slice none 0 c) (.slice none 0 0)).run Tryz.prog w = .ok (.bool true) w := fun _ => rfl
    clear hA
    go_enter Tryz.func32, Tryz.ntmps32
    go_wp2
    go_ret
    exact ⟨_, rfl, hown, Below.refl _ _⟩
  | some a =>
    have he := World.ownsRow_lit (base := w.heap.size) (e := 39) (size := 6) w #[] 0 (Nat.le_refl _) (by simp [maxLen]) rfl
    have hr := hA.below ((Below.refl w.heap.size w).alloc (Nat.le_refl _) (.cells #[] 39))
    have hq : ∀ w : World, (binOp .eql 35 (.slice (some a) m c) (.slice none 0 0)).run Tryz.prog w = .ok (.bool false) w := fun _ => rfl
    have h1 : (0 + m) * 56 ≤ 140737488355328 := by omega
    have h2 : w.heap.size ≤ (w.alloc (.cells #[] 39)).heap.size := by simp
    go_enter Tryz.func32, Tryz.ntmps32
    go_wp2_with (first | (refine app_ev rfl _ _ rfl w.heap.size _ [] rfl he _ m c l rfl hr h1 h2 ?_))
    intro v' w' hv hb
    go_wp2
    go_ret
    exact ⟨_, rfl, by simpa using hv, ((Below.refl _ _).alloc (Nat.le_refl _) _).trans hb⟩
set_option maxRecDepth 100000 in
set_option maxHeartbeats 2000000 in
theorem CloneI_any (A : Option Addr) (m c : Nat) (l : List Int) (w : World) (hA : RdI w A m l) (hm : m ≤ 17592186044416) :
    Calls Tryz.prog 18 #[.slice A m c] w fun e w' => ∃ A' c', e = .returned (.slice A' m c') ∧ RdI w' A' m l ∧ (∀ ad, A' = some ad → w.heap.size ≤ ad.block) ∧ Below w.heap.size w w' := by
  have hl0 : l.length = m := by simpa using hA.1
  cases A with
  | none =>
    have hn : m = 0 := by
      rcases Nat.eq_zero_or_pos m with h | h
      · exact h
      · obtain ⟨_, _, e, _⟩ := hA.2 (by simpa [hl0] using h)
        cases e
    have hl : l = [] := List.eq_nil_of_length_eq_zero (by rw [hl0, hn])
    subst hl
    subst hn
    have hq : ∀ w : World, (binOp .eql 23 (.slice none 0 c) (.slice none 0 0)).run Tryz.prog w = .ok (.bool true) w := fun _ => rfl
    have HA := Lib.hid hA
    clear hA
    go_enter Tryz.func18, Tryz.ntmps18
    go_wp2
    go_ret
    exact ⟨_, _, rfl, HA.out, (fun ad h => by cases h), Below.refl _ _⟩
  | some a =>
    have he := World.ownsRow_lit (base := w.heap.size) (e := 3) (size := 1) w #[] 0 (Nat.le_refl _) (by simp [maxLen]) rfl
    have hr := hA.below ((Below.refl w.heap.size w).alloc (Nat.le_refl _) (.cells #[] 3))
    have hq : ∀ w : World, (binOp .eql 23 (.slice (some a) m c) (.slice none 0 0)).run Tryz.prog w = .ok (.bool false) w := fun _ => rfl
    have h1 : (([] : List Int).length + m) * 8 ≤ 140737488355328 := by simp; omega
    have h2 : w.heap.size ≤ (w.alloc (.cells #[] 3)).heap.size := by simp
    go_enter Tryz.func18, Tryz.ntmps18
    go_wp2_with (first | (refine app_int rfl _ _ rfl w.heap.size _ [] rfl he _ m c l rfl hr h1 h2 ?_))
    intro A' c' w' hv hbk hb
    go_wp2
    go_ret
    exact ⟨_, _, rfl, by simpa using hv, hbk, ((Below.refl _ _).alloc (Nat.le_refl _) _).trans hb⟩
/-- Is there an event that isn't reversed? -/
def takenB (l : List Ev) (r : Int) : Bool := l.any fun e => decide (e.kind = 5 ∧ e.ref = r)
def foundB (l : List Ev) (r : Int) : Bool := l.any fun e => decide (e.seq = r ∧ e.kind ≠ 5)
def revB (l : List Ev) (r : Int) : Bool := !takenB l r && foundB l r
theorem taken_snoc (l : List Ev) (e : Ev) (r : Int) : takenB (l ++ [e]) r = (takenB l r || decide (e.kind = 5 ∧ e.ref = r)) := by simp [takenB]
theorem found_snoc (l : List Ev) (e : Ev) (r : Int) : foundB (l ++ [e]) r = (foundB l r || decide (e.seq = r ∧ e.kind ≠ 5)) := by simp [foundB]
theorem taken_mono (l : List Ev) (j : Nat) (r : Int) (h : takenB (l.take j) r = true) : takenB l r = true := by
  unfold takenB at *
  rw [List.any_eq_true] at *
  obtain ⟨x, hx, h⟩ := h
  exact ⟨x, List.mem_of_mem_take hx, h⟩
set_option maxRecDepth 100000 in
set_option maxHeartbeats 2000000 in
theorem reversible_any (ge : Nat) (E : Option Addr) (m c : Nat) (l : List Ev) (r : Int) (w : World) (hg : w.cell? ⟨ge, 9, none⟩ = some (.slice E m c)) (hE : RdE w E m l) (hm : m ≤ 100000) :
    Calls Tryz.prog 21 #[.pointer (some ⟨ge, 0, none⟩), .int .i64 r] w fun e w' => e = .returned (.bool (revB l r)) ∧ Below w.heap.size w w' := by
  have HE := Lib.hid hE
  have HL := Lib.hid hE.1
  have HR := Lib.hid (show revB l r = (!takenB l r && foundB l r) from rfl)
  generalize revB l r = R at HR ⊢
  clear hE
  go_enter Tryz.func21, Tryz.ntmps21
  go_wp2_with fail
  clear hg
  go_loopw [5, 13] (fun f t wr => ∃ j : Nat, j ≤ m ∧ t = .int .i64 j ∧ f = .bool (foundB (l.take j) r) ∧ Hid (takenB (l.take j) r = false) ∧ Hid (Below w.heap.size w wr)) (fun _ t _ => m - (intOf t).toNat)
  case atStart => exact ⟨0, Nat.zero_le _, rfl, rfl, Lib.hid rfl, Lib.hid (Below.refl _ _)⟩
  case round =>
    obtain ⟨j, hj, rfl, rfl, HT, HB⟩ := hrel
    obtain ⟨wb, rfl⟩ : ∃ x, x = wr := ⟨_, rfl⟩
    by_cases hlt : j < m
    · have hkl : j < l.length := by have := HL.out; omega
      have hEr := HE.out.below HB.out
      obtain ⟨b0, off, rfl, _⟩ := hEr.2 (by omega)
      obtain ⟨x0, x1, x2, x3, x4, x5⟩ := ev_six hEr j hkl
      have HT2 : Hid (takenB (l.take (j + 1)) r = decide (l[j].kind = 5 ∧ l[j].ref = r)) := Lib.hid (by
        rw [List.take_add_one, List.getElem?_eq_getElem hkl, Option.toList_some, taken_snoc, HT.out, Bool.false_or])
      have HF2 : Hid (foundB (l.take (j + 1)) r = (foundB (l.take j) r || decide (l[j].seq = r ∧ l[j].kind ≠ 5))) := Lib.hid (by
        rw [List.take_add_one, List.getElem?_eq_getElem hkl, Option.toList_some, found_snoc])
      have HTM := Lib.hid (taken_mono l (j + 1) r)
      clear hEr HT
      generalize l[j] = e at *
      obtain ⟨es, el, ed, ek, ea, er⟩ := e
      dsimp only at *
      have HB2 := Lib.hid (HB.out.alloc HB.out.size (.cells #[.int .i64 es, .string el, .int .i64 ed, .int .i64 ek, .int .i64 ea, .int .i64 er] 39))
      clear HB
      by_cases h5 : ek = 5
      · subst h5
        by_cases hr : er = r
        · subst hr
          have hT : R = false := by rw [HR.out, HTM.out (by rw [HT2.out]; simp)]; rfl
          subst hT
          clear HR HTM HF2 HT2
          go_wp2
          go_ret
          exact ⟨rfl, HB2.out⟩
        · have hr' : (er == r) = false := by simp [hr]
          have HF3 : Hid (foundB (l.take (j + 1)) r = foundB (l.take j) r) := Lib.hid (by rw [HF2.out]; simp)
          have HT3 : Hid (takenB (l.take (j + 1)) r = false) := Lib.hid (by rw [HT2.out]; simp [hr])
          clear HF2 HT2 HTM
          generalize foundB (l.take j) r = f at *
          by_cases hs : es = r
          · subst hs
            cases f
            all_goals
              go_wp2
              go_roundw
              case rel => exact ⟨j + 1, by omega, by go_num, by rw [HF3.out], HT3, HB2⟩
              case measure => simp [intOf]; omega
          · have hs' : (es == r) = false := by simp [hs]
            cases f
            all_goals
              go_wp2
              go_roundw
              case rel => exact ⟨j + 1, by omega, by go_num, by rw [HF3.out], HT3, HB2⟩
              case measure => simp [intOf]; omega
      · have h5' : (ek == 5) = false := by simp [h5]
        have h5'' : (ek != 5) = true := by simp [h5]
        have HT3 : Hid (takenB (l.take (j + 1)) r = false) := Lib.hid (by rw [HT2.out]; simp [h5])
        clear HT2 HTM
        by_cases hs : es = r
        · subst hs
          have HF3 : Hid (foundB (l.take (j + 1)) es = true) := Lib.hid (by rw [HF2.out]; simp [h5])
          clear HF2
          generalize foundB (l.take j) es = f at *
          cases f
          all_goals
            go_wp2
            go_roundw
            case rel => exact ⟨j + 1, by omega, by go_num, by rw [HF3.out], HT3, HB2⟩
            case measure => simp [intOf]; omega
        · have hs' : (es == r) = false := by simp [hs]
          have HF3 : Hid (foundB (l.take (j + 1)) r = foundB (l.take j) r) := Lib.hid (by rw [HF2.out]; simp [hs])
          clear HF2
          generalize foundB (l.take j) r = f at *
          cases f
          all_goals
            go_wp2
            go_roundw
            case rel => exact ⟨j + 1, by omega, by go_num, by rw [HF3.out], HT3, HB2⟩
            case measure => simp [intOf]; omega
    · obtain rfl : j = m := by omega
      have hl : l.take j = l := List.take_of_length_le (by have := HL.out; omega)
      have hR : R = foundB (l.take j) r := by
        rw [HR.out, hl]
        have := HT.out
        rw [hl] at this
        rw [this]; rfl
      clear HR hl
      subst hR
      go_wp2
      go_ret
      exact ⟨rfl, HB.out⟩
end Go.Proofs.YtcbopgopegphlaaGreat
