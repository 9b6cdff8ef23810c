/-
  Contracts of the functions of layer 5 (keys) and of its reference. No statement is proved here.
-/
import Derived.Test.YtbblpehehgeebaaDoorBytes
import Derived.Test.YtbblpehehgeebaaDoorKeyP2
namespace Go.Proofs.YtbblpehehgeebaaDoor
open Go.RowKit
set_option linter.unusedVariables false

theorem own_any (A : Option Addr) (n c : Nat) (w : World) (xs : List UInt8) (h : RdB w A n xs) (hn : n ≤ 140737488355328) :
    Calls Tryd.prog 14 #[.slice A n c] w fun e w' => ∃ v, e = .returned v ∧ OwnB w' w.heap.size v xs ∧ Below w.heap.size w w' := by
  have hl := h.len
  go_enter Tryd.func14, Tryd.ntmps14
  go_wp2_with (at_builtin; refine app_u8 rfl _ _ rfl w.heap.size _ [] rfl (OwnB.empty w (Nat.le_refl _)) A n c xs rfl (h.alloc _) ?c1 ?c2 ?_)
  case c1 => simp; omega
  case c2 => simp
  intro v w1 hv hb _
  go_wp2
  go_ret
  exact ⟨v, rfl, hv, ((Below.refl _ _).alloc (Nat.le_refl _) _).trans hb⟩
theorem same_any (A : Option Addr) (n c : Nat) (xs : List UInt8) (A' : Option Addr) (n' c' : Nat) (ys : List UInt8) (w : World) (h : RdB w A n xs) (h' : RdB w A' n' ys) :
    Calls Tryd.prog 12 #[.slice A n c, .slice A' n' c'] w fun e w' => e = .returned (.bool (decide (xs = ys))) ∧ w = w' := by
  have k1 := h.conv (P := Tryd.prog) (src := 24) (dst := 9) Tryd.underlying24 Tryd.underlying5 Tryd.underlying9 c
  have k2 := h'.conv (P := Tryd.prog) (src := 24) (dst := 9) Tryd.underlying24 Tryd.underlying5 Tryd.underlying9 c'
  go_enter Tryd.func12, Tryd.ntmps12
  go_wp2
  go_ret
  exact ⟨ret_bool (by by_cases h : xs = ys <;> simp [h]), rfl⟩
theorem clone_any (A : Option Addr) (n c : Nat) (w : World) (xs : List UInt8) (h : RdB w A n xs) (hn : n ≤ 140737488355328) :
    Calls Tryd.prog 28 #[.slice A n c] w fun e w' => ∃ v, e = .returned v ∧ OwnB w' w.heap.size v xs ∧ Below w.heap.size w w' := by
  have hl := h.len
  cases A with
  | none =>
    have qn := fun (w : World) (a : Option Addr) (n c n' c' : Nat) => Lib.run_eql_slice_nil (P := Tryd.prog) w 24 5 a n c n' c' Tryd.underlying24
    go_enter Tryd.func28, Tryd.ntmps28
    go_wp2
    go_ret
    obtain rfl : n = 0 := by
      rcases Nat.eq_zero_or_pos n with h0 | h0
      · exact h0
      · obtain ⟨b, off, e⟩ := h.addr h0; cases e
    obtain rfl : xs = [] := List.eq_nil_of_length_eq_zero hl
    exact ⟨_, rfl, OwnB.nil _ _, Below.refl _ _⟩
  | some a =>
    have qn := fun (w : World) (a : Option Addr) (n c n' c' : Nat) => Lib.run_eql_slice_nil (P := Tryd.prog) w 24 5 a n c n' c' Tryd.underlying24
    go_enter Tryd.func28, Tryd.ntmps28
    go_wp2_with (at_builtin; refine app_u8 rfl _ _ rfl w.heap.size _ [] rfl (OwnB.empty w (Nat.le_refl _)) (some a) n c xs rfl (h.alloc _) ?c1 ?c2 ?_)
    case c1 => simp; omega
    case c2 => simp
    intro v w1 hv hb _
    go_wp2
    go_ret
    exact ⟨v, rfl, hv, ((Below.refl _ _).alloc (Nat.le_refl _) _).trans hb⟩


theorem lessL_at (p x y : List UInt8) : lessL (p ++ x) (p ++ y) = lessL x y := by
  induction p with
  | nil => rfl
  | cons a p ih => rw [List.cons_append, List.cons_append, lessL_cons, ih]
theorem split_at (l : List UInt8) (k : Nat) (h : k < l.length) : l = l.take k ++ l[k] :: l.drop (k + 1) := by
  rw [List.getElem_cons_drop, List.take_append_drop]
theorem less_end (x y : List UInt8) (k : Nat) (hp : x.take k = y.take k) (hx : k ≤ x.length) (hy : k ≤ y.length) (he : k = x.length ∨ k = y.length) :
    lessL x y = if x.length < y.length then -1 else if y.length < x.length then 1 else 0 := by
  have e1 : lessL x y = lessL (x.drop k) (y.drop k) := by
    have h1 := lessL_at (x.take k) (x.drop k) (y.drop k)
    rw [List.take_append_drop] at h1
    rw [hp, List.take_append_drop] at h1
    exact h1
  rw [e1]
  rcases he with h | h
  · subst h
    rw [List.drop_length]
    rcases hd : y.drop x.length with _ | ⟨c, l⟩
    · have := congrArg List.length hd
      simp at this
      rw [if_neg (by omega), if_neg (by omega)]
      rfl
    · have := congrArg List.length hd
      simp at this
      rw [if_pos (by omega)]
      rfl
  · subst h
    rw [List.drop_length]
    rcases hd : x.drop y.length with _ | ⟨c, l⟩
    · have := congrArg List.length hd
      simp at this
      rw [if_neg (by omega), if_neg (by omega)]
      rfl
    · have := congrArg List.length hd
      simp at this
      rw [if_neg (by omega), if_pos (by omega)]
      rfl
theorem less_here (x y : List UInt8) (k : Nat) (hp : x.take k = y.take k) (hx : k < x.length) (hy : k < y.length) (hne : x[k].toNat ≠ y[k].toNat) :
    lessL x y = if x[k].toNat < y[k].toNat then -1 else 1 := by
  have h1 := lessL_at (x.take k) (x[k] :: x.drop (k + 1)) (y[k] :: y.drop (k + 1))
  rw [← split_at x k hx] at h1
  rw [hp, ← split_at y k hy] at h1
  rw [h1, lessL]
  split
  · rfl
  · rw [if_pos (by omega)]
set_option maxHeartbeats 1000000 in
theorem Less_any (a b : ByteArray) (w : World) (ha : a.size ≤ 9223372036854775806) (hb : b.size ≤ 9223372036854775806) :
    Calls Tryd.prog 18 #[.string a, .string b] w fun e w' => e = .returned (.int .i64 (lessL a.data.toList b.data.toList)) ∧ Below w.heap.size w w' := by
  have hla : a.data.toList.length = a.size := by simp
  have hlb : b.data.toList.length = b.size := by simp
  have HA := Lib.hid hla
  have HB := Lib.hid hlb
  have HE := Lib.hid (less_end a.data.toList b.data.toList)
  have HH := Lib.hid (less_here a.data.toList b.data.toList)
  clear hla hlb
  generalize lessL a.data.toList b.data.toList = R at *
  go_enter Tryd.func18, Tryd.ntmps18
  go_wp2_with fail
  go_loopw [5] (fun t wr => ∃ k : Nat, k ≤ a.size ∧ k ≤ b.size ∧ t = .int .i64 k ∧ Hid (a.data.toList.take k = b.data.toList.take k) ∧ Below w.heap.size w wr) (fun t _ => a.size - (intOf t).toNat)
  case atStart => exact ⟨0, by omega, by omega, rfl, Lib.hid (by simp), Below.refl _ _⟩
  case round =>
    obtain ⟨k, hka, hkb, rfl, HP, hbel⟩ := hrel
    by_cases h1 : k < a.size
    · by_cases h2 : k < b.size
      · have hx : a.data.toList[k]'(by rw [HA.out]; exact h1) = a[k]'h1 := rfl
        have hy : b.data.toList[k]'(by rw [HB.out]; exact h2) = b[k]'h2 := rfl
        have HH2 : Hid ((a[k]'h1).toNat ≠ (b[k]'h2).toNat → R = if (a[k]'h1).toNat < (b[k]'h2).toNat then -1 else 1) := Lib.hid (HH.out k HP.out (by rw [HA.out]; exact h1) (by rw [HB.out]; exact h2))
        have HP2 : Hid ((a[k]'h1).toNat = (b[k]'h2).toNat → a.data.toList.take (k + 1) = b.data.toList.take (k + 1)) := Lib.hid fun he => by
          rw [take_snoc' _ _ (by rw [HA.out]; exact h1), take_snoc' _ _ (by rw [HB.out]; exact h2), HP.out, hx, hy, UInt8.toNat_inj.1 he]
        clear hx hy HH HE
        rcases Nat.lt_trichotomy (a[k]'h1).toNat (b[k]'h2).toNat with h3 | h3 | h3
        · obtain rfl : R = -1 := by rw [HH2.out (by omega), if_pos h3]
          clear HH2 HP2 HP
          go_wp2_with fail
          go_quiet (fail)
          go_wp2
          go_ret
          exact ⟨rfl, below_drewN hbel _⟩
        · have HP3 := Lib.hid (HP2.out h3)
          clear HH2 HP2 HP
          go_wp2_with fail
          go_quiet (fail)
          go_wp2_with fail
          go_quiet (fail)
          go_wp2
          go_roundw
          case rel => exact ⟨k + 1, by omega, by omega, by go_num, HP3, below_drewN hbel _⟩
          case measure => (try simp [intOf]) <;> (try omega)
        · obtain rfl : R = 1 := by rw [HH2.out (by omega), if_neg (by omega)]
          have h4 : ¬ (a[k]'h1).toNat < (b[k]'h2).toNat := by omega
          clear HH2 HP2 HP
          go_wp2_with fail
          go_quiet (fail)
          go_wp2_with fail
          go_quiet (fail)
          go_wp2
          go_ret
          exact ⟨rfl, below_drewN (below_drewN hbel _) _⟩
      · have hR := HE.out k HP.out (by rw [HA.out]; omega) (by rw [HB.out]; omega) (.inr (by rw [HB.out]; omega))
        rw [HA.out, HB.out] at hR
        have h3 : b.size = k := by omega
        clear HE HH HP
        rcases Nat.lt_or_ge b.size a.size with h4 | h4
        · obtain rfl : R = 1 := by rw [hR, if_neg (by omega), if_pos h4]
          clear hR
          go_wp2
          go_ret
          exact ⟨rfl, hbel⟩
        · omega
    · have hR := HE.out k HP.out (by rw [HA.out]; omega) (by rw [HB.out]; omega) (.inl (by rw [HA.out]; omega))
      rw [HA.out, HB.out] at hR
      have h3 : a.size = k := by omega
      clear HE HH HP
      rcases Nat.lt_or_ge a.size b.size with h4 | h4
      · obtain rfl : R = -1 := by rw [hR, if_pos h4]
        clear hR
        go_wp2
        go_ret
        exact ⟨rfl, hbel⟩
      · have h5 : b.size = a.size := by omega
        obtain rfl : R = 0 := by rw [hR, if_neg (by omega), if_neg (by omega)]
        clear hR
        go_wp2
        go_ret
        exact ⟨rfl, hbel⟩
theorem _root_.Go.Proofs.YtbblpehehgeebaaDoor.RdB.pre {w : World} {b off n : Nat} {xs : List UInt8} (h : RdB w (some ⟨b, off, none⟩) n xs) (k : Nat) (hk : k ≤ n) : RdB w (some ⟨b, off, none⟩) k (xs.take k) := by
  have hl := h.len
  refine RdB.mk (by rw [List.length_take]; omega) fun j hj => ?_
  rw [List.length_take] at hj
  rw [h.cells j (by omega), List.getElem_take]
/-- The last byte of a call's own bytes, made greater by one. -/
theorem own_last {w : World} {base : Nat} {v : Value} {xs : List UInt8} {k : Nat} (hk : k < xs.length) (h : OwnB w base v (xs.take (k + 1))) (h5 : xs[k] ≠ 255) :
    ∃ g c, v = .slice (some ⟨g, 0, none⟩) (k + 1) c ∧ base ≤ g ∧ w.cell? ⟨g, k, none⟩ = some (.int .u8 (xs[k].toNat : Int)) ∧ w.frozen? ⟨g, k, none⟩ = false ∧ OwnB (w.setCell ⟨g, k, none⟩ (.int .u8 ((xs[k] + 1).toNat : Int))) base v (xs.take k ++ [xs[k] + 1]) := by
  obtain ⟨A, m, c, rfl, hm, _, _, hr, hg⟩ := h.form
  have hm' := hm.out
  have hl : (xs.take (k + 1)).length = k + 1 := by rw [List.length_take]; omega
  obtain rfl : m = k + 1 := by omega
  obtain ⟨b, off, rfl⟩ := hr.addr (by omega)
  obtain ⟨g, hg1, hg2, _⟩ := hg _ rfl
  injection hg1 with e1 e2
  subst e1 e2
  have hc := hr.cells k (by omega)
  rw [Nat.zero_add, List.getElem_take] at hc
  refine ⟨b, c, rfl, hg2, hc, World.ownsRow.frozenAt (xs := (xs.take (k + 1)).map bv) (n := (xs.take (k + 1)).length) (by rw [← hl] at h; rw [hl] at h ⊢; unfold OwnB at h; rw [hl] at h; exact h) _, ?_⟩
  have hs := h.set hl k (xs[k] + 1)
  have e : (xs.take (k + 1)).set k (xs[k] + 1) = xs.take k ++ [xs[k] + 1] := by
    rw [take_snoc' xs k hk, List.set_append_right _ _ (by rw [List.length_take]; omega), List.length_take, show k - min k xs.length = 0 by omega]
    rfl
  rw [e] at hs
  exact hs
theorem own_last' {w : World} {base : Nat} {v : Value} {xs : List UInt8} {k : Nat} {x : UInt8} (hk : xs[k]? = some x) (h : OwnB w base v (xs.take (k + 1))) (h5 : x ≠ 255) :
    ∃ g c, v = .slice (some ⟨g, 0, none⟩) (k + 1) c ∧ base ≤ g ∧ w.cell? ⟨g, k, none⟩ = some (.int .u8 (x.toNat : Int)) ∧ w.frozen? ⟨g, k, none⟩ = false ∧ OwnB (w.setCell ⟨g, k, none⟩ (.int .u8 ((x + 1).toNat : Int))) base v (xs.take k ++ [x + 1]) := by
  obtain ⟨h1, rfl⟩ := List.getElem?_eq_some_iff.1 hk
  exact own_last h1 h h5
set_option maxHeartbeats 1000000 in
theorem refNext_any (A : Option Addr) (n c : Nat) (w : World) (xs : List UInt8) (h : RdB w A n xs) (hn : n ≤ 140737488355328) (hc : n ≤ c) :
    Calls Tryd.prog 17 #[.slice A n c] w fun e w' => ∃ v, e = .returned v ∧ OwnB w' w.heap.size v (nextL xs) ∧ Below w.heap.size w w' := by
  have hl := h.len
  have HX := Lib.hid h
  have HL := Lib.hid hl
  obtain ⟨NX, hnx0⟩ : ∃ y, y = nextL xs := ⟨_, rfl⟩
  rw [← hnx0]
  have HNX := Lib.hid hnx0
  clear h hl hnx0
  go_enter Tryd.func17, Tryd.ntmps17
  go_wp2_with fail
  go_loopw [3] (fun t wr => ∃ k : Nat, k ≤ n ∧ t = .int .i64 k ∧ wr = w ∧ Hid (∀ d ∈ xs.drop k, d = 255)) (fun t _ => (intOf t).toNat)
  case atStart => exact ⟨n, by omega, rfl, rfl, Lib.hid (by rw [List.drop_of_length_le (by rw [HL.out]; exact Nat.le_refl _)]; simp)⟩
  case round =>
    obtain ⟨k, hk, rfl, rfl, HT⟩ := hrel
    rcases k with _ | k
    · have hnx : nextL xs = [] := (nextL_full xs).2 (by have := HT.out; simpa using this)
      obtain rfl : NX = [] := HNX.out.trans hnx
      clear HT
      go_wp2
      go_ret
      exact ⟨_, rfl, OwnB.nil _ _, Below.refl _ _⟩
    · have hkl : k < xs.length := by rw [HL.out]; omega
      obtain ⟨b, off, rfl⟩ := HX.out.addr (by omega)
      have hcell := HX.out.cells k hkl
      have hk1 : ((k + 1 : Nat) : Int) - 1 = (k : Int) := by omega
      by_cases h5 : xs[k] = 255
      · have h5' : ((xs[k].toNat : Nat) : Int) = 255 := by rw [h5]; rfl
        have HT2 : Hid (∀ d ∈ xs.drop k, d = 255) := Lib.hid (by
          rw [List.drop_eq_getElem_cons hkl]
          intro d hd
          rcases List.mem_cons.1 hd with rfl | hd
          · exact h5
          · exact HT.out d hd)
        clear HT h5
        go_wp2
        go_roundw
        case rel => exact ⟨k, by omega, by go_num, trivial, HT2⟩
        case measure => (try simp [intOf]) <;> (try omega)
      · have h5' : ¬ ((xs[k].toNat : Nat) : Int) = 255 := fun h => h5 (by
          apply UInt8.toNat_inj.1
          have e : (255 : UInt8).toNat = 255 := rfl
          rw [e]; omega)
        have hnx : nextL xs = xs.take k ++ [xs[k] + 1] := by
          have := nextL_at (xs.take k) (xs.drop (k + 1)) xs[k] h5 HT.out
          rw [← split_at xs k hkl] at this
          exact this
        obtain ⟨y, hy⟩ : ∃ y, y = xs[k] + 1 := ⟨_, rfl⟩
        rw [← hy] at hnx
        obtain rfl : NX = xs.take k ++ [y] := HNX.out.trans hnx
        have HY := Lib.hid hy
        have HD := Lib.hid h5
        have hp := HX.out.pre (k + 1) (by omega)
        have hsc := succ_nat xs[k] h5
        rw [← hy] at hsc
        have h256 : y.toNat < 256 := y.toNat_lt
        have hsi : ((xs[k].toNat : Nat) : Int) + 1 = ((y.toNat : Nat) : Int) := by omega
        have hkl2 : (xs.take (k + 1)).length = k + 1 := by rw [List.length_take]; omega
        have HD := Lib.hid h5
        clear HT h5 hnx HNX hsc hy
        go_wp2_with (at_builtin; refine app_u8 rfl _ _ rfl wr.heap.size _ [] rfl (OwnB.empty wr (Nat.le_refl _)) (some ⟨b, off, none⟩) (k + 1) c (xs.take (k + 1)) rfl (hp.alloc _) ?c1 ?c2 ?_)
        case c1 => simp; omega
        case c2 => simp
        intro v w1 hv hb _
        have hb1 := ((Below.refl _ wr).alloc (Nat.le_refl _) (.cells #[] 5)).trans hb
        obtain ⟨g, c', rfl, hg, q1, q2, q3⟩ := own_last hkl hv HD.out
        rw [← HY.out] at q3
        have Q3 := Lib.hid q3
        clear hb hv hcell h5' hp q3
        go_wp2
        go_ret
        refine ⟨_, rfl, ?_, ?_⟩
        · exact Q3.out
        · exact hb1.setCell (p := ⟨g, k, none⟩) hg _
end Go.Proofs.YtbblpehehgeebaaDoor
