/-
  Contracts of the small functions of layer 9: what is less, what is shared, Compare, Equal, Clip. No statement is proved here.
-/
import Derived.Lib.Bytealg
import Derived.Lib.BytesEntry
import Derived.Test.YthaciglechijkaaBlkV
import Derived.Test.YthaciglechijkaaBlkP2
namespace Go.Proofs.Ythaciglechijkaa
open Go.RowKit
set_option linter.unusedVariables false

theorem lessL_at (p x y : List UInt8) : lessL (p ++ x) (p ++ y) = lessL x y := by
  induction p with
  | nil => rfl
  | cons a p ih => rw [List.cons_append, List.cons_append, lessL_cons, ih]
theorem split_at (l : List UInt8) (k : Nat) (h : k < l.length) : l = l.take k ++ l[k] :: l.drop (k + 1) := by
  rw [List.getElem_cons_drop, List.take_append_drop]
theorem less_end (x y : List UInt8) (k : Nat) (hp : x.take k = y.take k) (hx : k ≤ x.length) (hy : k ≤ y.length) (he : k = x.length ∨ k = y.length) :
    lessL x y = if x.length < y.length then -1 else if y.length < x.length then 1 else 0 := by
  have e1 : lessL x y = lessL (x.drop k) (y.drop k) := by
    have h1 := lessL_at (x.take k) (x.drop k) (y.drop k)
    rw [List.take_append_drop] at h1
    rw [hp, List.take_append_drop] at h1
    exact h1
  rw [e1]
  rcases he with h | h
  · subst h
    rw [List.drop_length]
    rcases hd : y.drop x.length with _ | ⟨c, l⟩
    · have := congrArg List.length hd
      simp at this
      rw [if_neg (by omega), if_neg (by omega)]
      rfl
    · have := congrArg List.length hd
      simp at this
      rw [if_pos (by omega)]
      rfl
  · subst h
    rw [List.drop_length]
    rcases hd : x.drop y.length with _ | ⟨c, l⟩
    · have := congrArg List.length hd
      simp at this
      rw [if_neg (by omega), if_neg (by omega)]
      rfl
    · have := congrArg List.length hd
      simp at this
      rw [if_neg (by omega), if_pos (by omega)]
      rfl
theorem less_here (x y : List UInt8) (k : Nat) (hp : x.take k = y.take k) (hx : k < x.length) (hy : k < y.length) (hne : x[k].toNat ≠ y[k].toNat) :
    lessL x y = if x[k].toNat < y[k].toNat then -1 else 1 := by
  have h1 := lessL_at (x.take k) (x[k] :: x.drop (k + 1)) (y[k] :: y.drop (k + 1))
  rw [← split_at x k hx] at h1
  rw [hp, ← split_at y k hy] at h1
  rw [h1, lessL]
  split
  · rfl
  · rw [if_pos (by omega)]
theorem lessL_def (a b : UInt8) (x y : List UInt8) : lessL (a :: x) (b :: y) = if a.toNat < b.toNat then -1 else if b.toNat < a.toNat then 1 else lessL x y := by rw [lessL]
/-- Only draws lie between. -/
def Dr (w w' : World) : Prop := ∃ m, w' = w.drewN m
theorem Dr.refl (w : World) : Dr w w := ⟨0, rfl⟩
theorem Dr.more {w w' : World} (h : Dr w w') (n : Nat) : Dr w (w'.drewN n) := by
  obtain ⟨m, rfl⟩ := h
  exact ⟨m + n, by rw [World.drewN_drewN]⟩
theorem Dr.below {w w' : World} (h : Dr w w') : Below w.heap.size w w' := by
  obtain ⟨m, rfl⟩ := h
  exact below_drewN (Below.refl _ _) m
set_option maxHeartbeats 1000000 in
theorem Less_q (a b : ByteArray) (w : World) (ha : a.size ≤ 9223372036854775807) (hb : b.size ≤ 9223372036854775807) :
    Calls Try.prog 24 #[.string a, .string b] w fun e w' => e = .returned (.int .i64 (lessL a.data.toList b.data.toList)) ∧ Dr w w' := by
  have hla : a.data.toList.length = a.size := by simp
  have hlb : b.data.toList.length = b.size := by simp
  have HA := Lib.hid hla
  have HB := Lib.hid hlb
  have HE := Lib.hid (less_end a.data.toList b.data.toList)
  have HH := Lib.hid (less_here a.data.toList b.data.toList)
  clear hla hlb
  generalize lessL a.data.toList b.data.toList = R at *
  go_enter Try.func24, Try.ntmps24
  go_wp2_with fail
  go_loopw [5] (fun t wr => ∃ k : Nat, k ≤ a.size ∧ k ≤ b.size ∧ t = .int .i64 k ∧ Hid (a.data.toList.take k = b.data.toList.take k) ∧ Dr w wr) (fun t _ => a.size - (intOf t).toNat)
  case atStart => exact ⟨0, by omega, by omega, rfl, Lib.hid (by simp), Dr.refl _⟩
  case round =>
    obtain ⟨k, hka, hkb, rfl, HP, hbel⟩ := hrel
    by_cases h1 : k < a.size
    · by_cases h2 : k < b.size
      · have hx : a.data.toList[k]'(by rw [HA.out]; exact h1) = a[k]'h1 := rfl
        have hy : b.data.toList[k]'(by rw [HB.out]; exact h2) = b[k]'h2 := rfl
        have HH2 : Hid ((a[k]'h1).toNat ≠ (b[k]'h2).toNat → R = if (a[k]'h1).toNat < (b[k]'h2).toNat then -1 else 1) := Lib.hid (HH.out k HP.out (by rw [HA.out]; exact h1) (by rw [HB.out]; exact h2))
        have HP2 : Hid ((a[k]'h1).toNat = (b[k]'h2).toNat → a.data.toList.take (k + 1) = b.data.toList.take (k + 1)) := Lib.hid fun he => by
          rw [take_snoc' _ _ (by rw [HA.out]; exact h1), take_snoc' _ _ (by rw [HB.out]; exact h2), HP.out, hx, hy, UInt8.toNat_inj.1 he]
        clear hx hy HH HE
        rcases Nat.lt_trichotomy (a[k]'h1).toNat (b[k]'h2).toNat with h3 | h3 | h3
        · obtain rfl : R = -1 := by rw [HH2.out (by omega), if_pos h3]
          clear HH2 HP2 HP
          go_wp2_with fail
          go_quiet (fail)
          go_wp2
          go_ret
          exact ⟨rfl, hbel.more _⟩
        · have HP3 := Lib.hid (HP2.out h3)
          clear HH2 HP2 HP
          go_wp2_with fail
          go_quiet (fail)
          go_wp2_with fail
          go_quiet (fail)
          go_wp2
          go_roundw
          case rel => exact ⟨k + 1, by omega, by omega, by go_num, HP3, hbel.more _⟩
          case measure => (try simp [intOf]) <;> (try omega)
        · obtain rfl : R = 1 := by rw [HH2.out (by omega), if_neg (by omega)]
          have h4 : ¬ (a[k]'h1).toNat < (b[k]'h2).toNat := by omega
          clear HH2 HP2 HP
          go_wp2_with fail
          go_quiet (fail)
          go_wp2_with fail
          go_quiet (fail)
          go_wp2
          go_ret
          exact ⟨rfl, (hbel.more _).more _⟩
      · have hR := HE.out k HP.out (by rw [HA.out]; omega) (by rw [HB.out]; omega) (.inr (by rw [HB.out]; omega))
        rw [HA.out, HB.out] at hR
        have h3 : b.size = k := by omega
        clear HE HH HP
        rcases Nat.lt_or_ge b.size a.size with h4 | h4
        · obtain rfl : R = 1 := by rw [hR, if_neg (by omega), if_pos h4]
          clear hR
          go_wp2
          go_ret
          exact ⟨rfl, hbel⟩
        · omega
    · have hR := HE.out k HP.out (by rw [HA.out]; omega) (by rw [HB.out]; omega) (.inl (by rw [HA.out]; omega))
      rw [HA.out, HB.out] at hR
      have h3 : a.size = k := by omega
      clear HE HH HP
      rcases Nat.lt_or_ge a.size b.size with h4 | h4
      · obtain rfl : R = -1 := by rw [hR, if_pos h4]
        clear hR
        go_wp2
        go_ret
        exact ⟨rfl, hbel⟩
      · have h5 : b.size = a.size := by omega
        obtain rfl : R = 0 := by rw [hR, if_neg (by omega), if_neg (by omega)]
        clear hR
        go_wp2
        go_ret
        exact ⟨rfl, hbel⟩

theorem comp_less : ∀ x y : List UInt8, Lib.compareBytes x y = lessL x y
  | [], [] => rfl
  | [], _ :: _ => rfl
  | _ :: _, [] => rfl
  | a :: x, b :: y => by
    rw [lessL_def, Lib.compareBytes, comp_less x y]
    simp only [UInt8.lt_iff_toNat_lt]
theorem run_bytesOf {P : Program} {w : World} {A : Option Addr} {n c : Nat} {xs : List UInt8} (h : RdB w A n xs) : (Extern.Bytes.bytesOf (.slice A n c)).run P w = .ok ⟨xs.toArray⟩ w := by
  have hl := h.len
  cases A with
  | none =>
    obtain rfl : n = 0 := by
      rcases Nat.eq_zero_or_pos n with h0 | h0
      · exact h0
      · obtain ⟨b, off, e⟩ := h.addr h0; cases e
    obtain rfl : xs = [] := List.eq_nil_of_length_eq_zero hl
    rfl
  | some a =>
    by_cases h0 : n = 0
    · subst h0
      obtain rfl : xs = [] := List.eq_nil_of_length_eq_zero hl
      rfl
    · obtain ⟨b, off, e⟩ := h.addr (by omega)
      injection e with e
      subst e
      have hx := Lib.run_loadBytesX (P := P) w (xs.map fun b => (b.toNat : Int)) ⟨b, off, none⟩ .empty (fun j x hj => by
        rw [List.getElem?_map] at hj
        cases hq : xs[j]? with
        | none => rw [hq] at hj; cases hj
        | some q =>
          rw [hq] at hj
          injection hj with hj
          subst hj
          obtain ⟨h1, rfl⟩ := List.getElem?_eq_some_iff.1 hq
          have := h.cells j h1
          simpa [add_plain] using this)
      have e1 : Lib.bytesOf (xs.map fun b => (b.toNat : Int)) = xs := by
        unfold Lib.bytesOf
        rw [List.map_map]
        refine (List.map_congr_left fun a _ => ?_).trans (List.map_id xs)
        simp
      rw [e1, List.length_map, hl] at hx
      have he : (⟨ByteArray.empty.data ++ xs.toArray⟩ : ByteArray) = ⟨xs.toArray⟩ := by
        apply ByteArray.ext
        show (#[] : Array UInt8) ++ xs.toArray = xs.toArray
        simp
      rw [he] at hx
      exact hx
set_option maxHeartbeats 1000000 in
set_option maxRecDepth 100000 in
theorem Compare_any (A : Option Addr) (n c : Nat) (xs : List UInt8) (A' : Option Addr) (n' c' : Nat) (ys : List UInt8) (w : World) (h : RdB w A n xs) (h' : RdB w A' n' ys) :
    Calls Try.prog 20 #[.slice A n c, .slice A' n' c'] w fun e w' => e = .returned (.int .i64 (lessL xs ys)) ∧ w' = w := by
  have hc : (Extern.BytealgCompare.compare #[.slice A n c, .slice A' n' c']).run Try.prog w = .ok (.int .i64 (lessL xs ys)) w := by
    change Sem.run Try.prog (do pure (goInt (Extern.BytealgCompare.cmp (← Extern.Bytes.bytesOf (.slice A n c)) (← Extern.Bytes.bytesOf (.slice A' n' c'))))) w = _
    simp only [Sem.run_bind, Sem.run_pure, run_bytesOf h, run_bytesOf h', Result.andThen]
    rw [Lib.cmp_eq, comp_less]
    rfl
  go_enter Try.func20, Try.ntmps20
  go_wp2
  rw [run_callFunc_extern (f := 32) Try.func32 (by kernel_rfl) (by kernel_rfl) (by kernel_rfl) (e := Extern.BytealgCompare.compare) (by kernel_rfl), hc]
  simp only [Result.andThen]
  rw [Oper.upon_value]
  go_wp2
  go_ret
  exact ⟨rfl, rfl⟩
theorem Equal_any (A : Option Addr) (n c : Nat) (xs : List UInt8) (A' : Option Addr) (n' c' : Nat) (ys : List UInt8) (w : World) (h : RdB w A n xs) (h' : RdB w A' n' ys) :
    Calls Try.prog 28 #[.slice A n c, .slice A' n' c'] w fun e w' => e = .returned (.bool (decide (xs = ys))) ∧ w = w' := by
  have k1 := h.conv (P := Try.prog) (src := 24) (dst := 9) Try.underlying24 Try.underlying5 Try.underlying9 c
  have k2 := h'.conv (P := Try.prog) (src := 24) (dst := 9) Try.underlying24 Try.underlying5 Try.underlying9 c'
  go_enter Try.func28, Try.ntmps28
  go_wp2
  go_ret
  exact ⟨ret_bool (by by_cases h : xs = ys <;> simp [h]), rfl⟩
theorem Clip_any (A : Option Addr) (n c : Nat) (w : World) (hc : n ≤ c) (hm : c ≤ maxLen) :
    Calls Try.prog 23 #[.slice A n c] w fun e w' => e = .returned (.slice A n n) ∧ w = w' := by
  have hs : ∀ W, (Instr.slice 24 (.slice A n c) none (some (.int .i64 (n : Int))) (some (.int .i64 (n : Int)))).run Try.prog W = .ok (.slice A n n) W := fun W => by
    rw [run_slice_hm W 24 A n c elemUnd .i64 .i64 _ _ (by omega) (by omega) (by omega), elemSize]
    simp only [Result.andThen, sliced]
    have : ∀ x : Addr, x.add 0 = x := fun x => by cases x; simp [Addr.add]
    cases A <;> simp [this]
  go_enter Try.func23, Try.ntmps23
  go_wp2
  go_ret
  exact ⟨rfl, rfl⟩
set_option maxHeartbeats 1000000 in
theorem shared_any (A : Option Addr) (n c : Nat) (xs : List UInt8) (A' : Option Addr) (n' c' : Nat) (ys : List UInt8) (w : World) (h : RdB w A n xs) (h' : RdB w A' n' ys) (hn : n ≤ 140737488355328) (hn' : n' ≤ 140737488355328) :
    Calls Try.prog 21 #[.slice A n c, .slice A' n' c'] w fun e w' => e = .returned (.int .i64 (com xs ys : Nat)) ∧ ∃ m, w' = w.drewN m := by
  have HX := Lib.hid h
  have HY := Lib.hid h'
  have HLX : Hid (xs.length = n) := Lib.hid h.len
  have HLY : Hid (ys.length = n') := Lib.hid h'.len
  have HE := Lib.hid (com_here xs ys)
  clear h h'
  generalize com xs ys = R at *
  go_enter Try.func21, Try.ntmps21
  go_wp2
  all_goals
    go_loopw [11] (fun t wr => ∃ k : Nat, k ≤ n ∧ k ≤ n' ∧ t = .int .i64 k ∧ Hid (xs.take k = ys.take k) ∧ Hid (Dr w wr)) (fun t _ => n - (intOf t).toNat)
    case atStart => exact ⟨0, by omega, by omega, rfl, Lib.hid (by simp), Lib.hid (Dr.refl _)⟩
    case round =>
      obtain ⟨k, hk1, hk2, rfl, HP, HB⟩ := hrel
      by_cases hlt : k < n ∧ k < n'
      · obtain ⟨hl1, hl2⟩ := hlt
        have hx1 : k < xs.length := by rw [HLX.out]; exact hl1
        have hx2 : k < ys.length := by rw [HLY.out]; exact hl2
        obtain ⟨b, off, rfl⟩ := HX.out.addr (by omega)
        obtain ⟨b', off', rfl⟩ := HY.out.addr (by omega)
        have q1 := (HX.out.below HB.out.below).cells k hx1
        have q2 := (HY.out.below HB.out.below).cells k hx2
        have HN : Hid (xs[k] ≠ ys[k] → R = k) := Lib.hid fun h => HE.out k HP.out (by omega) (by omega) (.inr (.inr ⟨hx1, hx2, h⟩))
        have HT : Hid (xs[k] = ys[k] → xs.take (k + 1) = ys.take (k + 1)) := Lib.hid fun h => by
          rw [take_snoc' _ _ hx1, take_snoc' _ _ hx2, HP.out, h]
        clear HP
        generalize xs[k] = x at *
        generalize ys[k] = y at *
        by_cases hxy : x = y
        · have HT2 := Lib.hid (HT.out hxy)
          subst hxy
          clear HN HT
          go_wp2_with fail
          go_quiet (fail)
          go_wp2
          go_roundw
          case rel => exact ⟨k + 1, by omega, by omega, by go_num, HT2, Lib.hid (HB.out.more _)⟩
          case measure => (try simp [intOf]) <;> (try omega)
        · obtain rfl := HN.out hxy
          have hne : ¬ ((x.toNat : Nat) : Int) = (y.toNat : Nat) := fun h => hxy (UInt8.toNat_inj.1 (by omega))
          clear HN HT HE
          go_wp2_with fail
          go_quiet (fail)
          go_wp2
          go_ret
          exact ⟨rfl, HB.out.more _⟩
      · obtain rfl := HE.out k HP.out (by rw [HLX.out]; omega) (by rw [HLY.out]; omega) (by have h1 := HLX.out; have h2 := HLY.out; rcases (show k = n ∨ k = n' by omega) with h | h; exact .inl (by omega); exact .inr (.inl (by omega)))
        clear HE HP
        go_wp2
        go_ret
        exact ⟨ret_int (by omega), HB.out⟩
set_option maxHeartbeats 1000000 in
theorem refShared_any (a b : ByteArray) (w : World) (ha : a.size ≤ 9223372036854775806) (hb : b.size ≤ 9223372036854775806) :
    Calls Try.prog 25 #[.string a, .string b] w fun e w' => e = .returned (.int .i64 (com a.data.toList b.data.toList : Nat)) ∧ Dr w w' := by
  have hla : a.data.toList.length = a.size := by simp
  have hlb : b.data.toList.length = b.size := by simp
  have HA := Lib.hid hla
  have HB := Lib.hid hlb
  have HE := Lib.hid (com_here a.data.toList b.data.toList)
  clear hla hlb
  generalize com a.data.toList b.data.toList = R at *
  go_enter Try.func25, Try.ntmps25
  go_wp2_with fail
  go_loopw [5] (fun t wr => ∃ k : Nat, k ≤ a.size ∧ k ≤ b.size ∧ t = .int .i64 k ∧ Hid (a.data.toList.take k = b.data.toList.take k) ∧ Hid (Dr w wr)) (fun t _ => a.size - (intOf t).toNat)
  case atStart => exact ⟨0, by omega, by omega, rfl, Lib.hid (by simp), Lib.hid (Dr.refl _)⟩
  case round =>
    obtain ⟨k, hka, hkb, rfl, HP, hbel⟩ := hrel
    by_cases h1 : k < a.size
    · by_cases h2 : k < b.size
      · have hx : a.data.toList[k]'(by rw [HA.out]; exact h1) = a[k]'h1 := rfl
        have hy : b.data.toList[k]'(by rw [HB.out]; exact h2) = b[k]'h2 := rfl
        have HH2 : Hid ((a[k]'h1) ≠ (b[k]'h2) → R = k) := Lib.hid fun h => HE.out k HP.out (by rw [HA.out]; omega) (by rw [HB.out]; omega) (.inr (.inr ⟨by rw [HA.out]; exact h1, by rw [HB.out]; exact h2, h⟩))
        have HP2 : Hid ((a[k]'h1) = (b[k]'h2) → a.data.toList.take (k + 1) = b.data.toList.take (k + 1)) := Lib.hid fun he => by
          rw [take_snoc' _ _ (by rw [HA.out]; exact h1), take_snoc' _ _ (by rw [HB.out]; exact h2), HP.out, hx, hy, he]
        clear hx hy
        by_cases h3 : (a[k]'h1) = (b[k]'h2)
        · have HP3 := Lib.hid (HP2.out h3)
          have h4 : ((((a[k]'h1).toNat : Nat) : Int) == (((b[k]'h2).toNat : Nat) : Int)) = true := by rw [h3]; simp
          clear HH2 HP2 HP HE h3
          go_wp2_with fail
          go_quiet (fail)
          go_wp2
          go_roundw
          case rel => exact ⟨k + 1, by omega, by omega, by go_num, HP3, Lib.hid (hbel.out.more _)⟩
          case measure => (try simp [intOf]) <;> (try omega)
        · obtain rfl := HH2.out h3
          have h4 : ((((a[R]'h1).toNat : Nat) : Int) == (((b[R]'h2).toNat : Nat) : Int)) = false := by
            rw [beq_eq_false_iff_ne]
            exact fun h => h3 (UInt8.toNat_inj.1 (by omega))
          clear HH2 HP2 HP HE
          go_wp2_with fail
          go_quiet (fail)
          go_wp2
          go_ret
          exact ⟨rfl, hbel.out.more _⟩
      · obtain rfl := HE.out k HP.out (by rw [HA.out]; omega) (by rw [HB.out]; omega) (.inr (.inl (by rw [HB.out]; omega)))
        clear HE HP
        go_wp2_with fail
        go_quiet (fail)
        go_wp2
        go_ret
        exact ⟨rfl, hbel.out.more _⟩
    · obtain rfl := HE.out k HP.out (by rw [HA.out]; omega) (by rw [HB.out]; omega) (.inl (by rw [HA.out]; omega))
      clear HE HP
      go_wp2_with fail
      go_quiet (fail)
      go_wp2
      go_ret
      exact ⟨rfl, hbel.out.more _⟩
end Go.Proofs.Ythaciglechijkaa
