/-
  The walk of the law VarintOwn: what is handed in stays; what is answered is new memory.
-/
import Derived.Test.YtaepjocfajiokaaVarintW4
import Derived.Deep.RegionHeld3
import Derived.Deep.DeepCutAuto
namespace Go.Proofs.Ytaepjocfajiokaa
open Go.RowKit
set_option linter.unusedVariables false

/-! ### Only one slice's memory is written -/
structure OnlyA (A : Option Addr) (w w' : World) : Prop where
  os : w'.os = w.os
  tape : w'.tape = w.tape
  output : w'.output = w.output
  size : w'.heap.size = w.heap.size
  block : ∀ k, (∀ a, A = some a → k ≠ a.block) → w'.heap[k]? = w.heap[k]?
theorem OnlyA.refl (A : Option Addr) (w : World) : OnlyA A w w := ⟨rfl, rfl, rfl, rfl, fun _ _ => rfl⟩
theorem OnlyA.set {g : Nat} {w w' : World} (h : OnlyA (some ⟨g, 0, none⟩) w w') (j : Nat) (u : Value) : OnlyA (some ⟨g, 0, none⟩) w (w'.setCell ⟨g, j, none⟩ u) :=
  ⟨h.os, h.tape, h.output, by rw [← h.size]; simp [World.setCell], fun k hk => (heap_setCell_other _ ⟨g, j, none⟩ k u (hk ⟨g, 0, none⟩ rfl)).trans (h.block k hk)⟩
theorem OnlyA.below {A : Option Addr} {B : Nat} {a w w' : World} (ho : OnlyA A w w') (h : Below B a w) (hg : ∀ x, A = some x → B ≤ x.block) : Below B a w' :=
  ⟨ho.os.trans h.os, ho.tape.trans h.tape, ho.output.trans h.output, by rw [ho.size]; exact h.size, fun k hk => (ho.block k (fun x hx => by have := hg x hx; omega)).trans (h.block k hk)⟩
theorem OnlyA.rd {A A' : Option Addr} {n : Nat} {xs : List UInt8} {w w' : World} (ho : OnlyA A w w') (h : RdB w A' n xs) (hne : ∀ x y, A' = some x → A = some y → x.block ≠ y.block) : RdB w' A' n xs :=
  ⟨h.1, fun hn => by
    obtain ⟨b, off, e, hc⟩ := h.2 hn
    exact ⟨b, off, e, fun j u hu => (World.cell?_of_block (w := w) (ho.block b fun y hy => hne _ y e hy)).trans (hc j u hu)⟩⟩
theorem OnlyA.own {A A' : Option Addr} {n c base : Nat} {xs : List UInt8} {w w' : World} (ho : OnlyA A w w') (h : OwnB w base (.slice A' n c) xs) (hne : ∀ x y, A' = some x → A = some y → x.block ≠ y.block) : OwnB w' base (.slice A' n c) xs := by
  refine ⟨h.1, ?_⟩
  rcases h.2 with h2 | ⟨g, cap, cur, hv, hg, hh, r⟩
  · exact .inl h2
  · refine .inr ⟨g, cap, cur, hv, hg, ?_, r⟩
    injection hv with e1 e2 e3
    rw [ho.block g fun y hy => hne _ y e1 hy]
    exact hh
/-- One byte of the call's own: it can be read and written. -/
theorem OwnB.bump {w : World} {base m c : Nat} {A : Option Addr} {zs : List UInt8} (h : OwnB w base (.slice A m c) zs) (hm : zs.length = m) (k : Nat) (hk : k < m) :
    ∃ g, A = some ⟨g, 0, none⟩ ∧ base ≤ g ∧ (∃ x : UInt8, w.cell? ⟨g, k, none⟩ = some (.int .u8 (x.toNat : Int))) ∧ w.frozen? ⟨g, k, none⟩ = false ∧ ∀ y : UInt8, OwnB (w.setCell ⟨g, k, none⟩ (.int .u8 (y.toNat : Int))) base (.slice A m c) (zs.set k y) := by
  obtain ⟨A0, m0, c0, he, _, _, _, hr, hg⟩ := h.form
  injection he with e1 e2 e3
  subst e1 e2 e3
  obtain ⟨b, off, rfl⟩ := hr.addr (by omega)
  obtain ⟨g, hg1, hg2, _⟩ := hg _ rfl
  injection hg1 with e1 e2
  subst e1 e2
  have hc := hr.cells k (by omega)
  rw [Nat.zero_add] at hc
  exact ⟨b, rfl, hg2, ⟨_, hc⟩, World.ownsRow.frozenAt (xs := zs.map bv) (n := zs.length) (by subst hm; exact h) _, fun y => h.set hm k y⟩
theorem u8_of_int (z : Int) (h0 : 0 ≤ z) (h1 : z < 256) : ∃ y : UInt8, z = (y.toNat : Int) := ⟨UInt8.ofNat z.toNat, by rw [u8_ofNat _ (by omega)]; omega⟩

theorem apart {A A' : Option Addr} {p s s' t : Nat} (h1 : ∀ a, A = some a → ∃ g, a = ⟨g, 0, none⟩ ∧ p ≤ g ∧ g < s) (h2 : ∀ a, A' = some a → ∃ g, a = ⟨g, 0, none⟩ ∧ s' ≤ g ∧ g < t) (hs : s ≤ s') : ∀ x y, A' = some x → A = some y → x.block ≠ y.block := by
  intro x y hx hy
  obtain ⟨g1, rfl, _, e1⟩ := h1 y hy
  obtain ⟨g2, rfl, e2, _⟩ := h2 x hx
  show g2 ≠ g1
  omega
theorem above {A : Option Addr} {p q s : Nat} (h1 : ∀ a, A = some a → ∃ g, a = ⟨g, 0, none⟩ ∧ p ≤ g ∧ g < s) (hq : q ≤ p) : ∀ x, A = some x → q ≤ x.block := by
  intro x hx
  obtain ⟨g1, rfl, e1, _⟩ := h1 x hx
  show q ≤ g1
  omega
theorem sevens : (#[.int .u8 7, .int .u8 7, .int .u8 7, .int .u8 7, .int .u8 7, .int .u8 7, .int .u8 7, .int .u8 7, .int .u8 7, .int .u8 7, .int .u8 7] : Array Value) = ((List.replicate 11 (7 : UInt8)).map bv).toArray := by
  simp only [List.replicate, List.map]
  rfl
set_option maxRecDepth 100000 in
set_option maxHeartbeats 8000000 in
theorem VarintOwn_walk (A : Option Addr) (n c : Nat) (v' : Int) (A' : Option Addr) (n' c' : Nat) (w : World) (xs : List UInt8) (h : RdB w A n xs) (hn : n ≤ c) (hc : c ≤ 1048576) (hv0 : 0 ≤ v') (hv1 : v' ≤ 18446744073709551615) (ys : List UInt8) (h' : RdB w A' n' ys) (hn' : n' ≤ c') (hc' : c' ≤ 1048576) :
    Calls Try.prog 5 #[.slice A n c, .int .u64 v', .slice A' n' c'] w fun e w' => e = .returned (.bool true) ∧ Below w.heap.size w w' := by
  obtain ⟨v, rfl⟩ := Int.eq_ofNat_of_zero_le hv0
  have hv : v < 18446744073709551616 := by omega
  have HL := Lib.hid h.len
  have HL' := Lib.hid h'.len
  obtain ⟨s, hs, hs0, hs1⟩ : ∃ s : Int, IntKind.i64.wrap (v : Int) = s ∧ -9223372036854775808 ≤ s ∧ s ≤ 9223372036854775807 := by
    refine ⟨_, rfl, ?_, ?_⟩ <;> (simp only [IntKind.wrap]; simp [IntKind.bits, IntKind.signed]; omega)
  have HS := Lib.hid hs0
  have HS1 := Lib.hid hs1
  clear hs0 hs1
  go_enter Try.func5, Try.ntmps5
  go_wp2_with fail
  refine (wakes_any w).mono ?_
  rintro e w1 ⟨rfl, hb1⟩
  go_wp2_with fail
  refine (own_any A n c w1 _ (h.below hb1) (by omega)).mono ?_
  rintro e w2 ⟨v2, rfl, hv2, hb2⟩
  have hb02 := hb1.trans (hb2.mono hb1.size)
  have hl2 : xs.length + 11 ≤ 140737488355328 := by have := HL.out; omega
  go_wp2_with (at_builtin; refine app_u8 rfl _ _ rfl w.heap.size _ xs rfl ((hv2.mono hb1.size).alloc _) _ 11 11 (List.replicate 11 7) rfl (RdB.lit w2 _ _ sevens 11 rfl) ?c1 ?c2 ?_)
  case c1 => exact hl2
  case c2 => exact Nat.le_trans hb02.size (by simp)
  intro v3 w3 hv3 hb3 _
  have hb03 : Below w.heap.size w w3 := (hb02.alloc hb02.size _).trans hb3
  go_wp2_with fail
  refine (own_any A' n' c' w3 _ (h'.below hb03) (by omega)).mono ?_
  rintro e w4 ⟨v4, rfl, hv4, hb4⟩
  have hl4 : ys.length + 1 ≤ 140737488355328 := by have := HL'.out; omega
  go_wp2_with (at_builtin; refine app_u8 rfl _ _ rfl w3.heap.size _ ys rfl (hv4.alloc _) _ 1 1 [8] rfl (RdB.lit w4 _ _ rfl 1 rfl) ?c3 ?c4 ?_)
  case c3 => exact hl4
  case c4 => exact Nat.le_trans hb4.size (by simp)
  intro v5 w5 hv5 hb5 _
  have hb35 : Below w3.heap.size w3 w5 := (hb4.alloc hb4.size _).trans hb5
  have hb05 := hb03.trans (hb35.mono hb03.size)
  obtain ⟨A3, m3, c3, rfl, hm3, hmc3, hx3, hr3, _⟩ := hv3.form
  obtain ⟨A5, m5, c5, rfl, hm5, hmc5, hx5, hr5, _⟩ := hv5.form
  have hm3a : m3 = n + 11 := by have := hm3.out; have := HL.out; simp at *; omega
  have hm5a : m5 = n' + 1 := by have := hm5.out; have := HL'.out; simp at *; omega
  have HM3 := Lib.hid hm3a
  have HM5 := Lib.hid hm5a
  have hnm3 : n < m3 := by omega
  have hnm5 : n' < m5 := by omega
  have hm3u : m3 ≤ 1048600 := by omega
  clear hm3a hm5a
  have hr3' := hr3.below hb35
  obtain ⟨A6, s6, r6⟩ := cut_h hr3' c3 hmc3 n (by omega) (n : Int) rfl
  obtain ⟨A7, s7, r7⟩ := cut_h hr5 c5 hmc5 n' (by omega) (n' : Int) rfl
  rw [← h.len, List.take_left, h.len] at r6
  rw [← h'.len, List.take_left, h'.len] at r7
  go_wp2_with fail
  refine (AppendUint_any A6 n c3 v w5 xs r6 hv (by omega)).mono ?_
  rintro e w6 ⟨v6, rfl, hv6, hb6⟩
  have hb06 := hb05.trans (hb6.mono hb05.size)
  go_wp2_with fail
  refine (AppendInt_any A6 n c3 s w6 xs (r6.below hb6) HS.out HS1.out (by omega)).mono ?_
  rintro e w7 ⟨v7, rfl, hv7, hb7⟩
  have hb57 := hb6.trans (hb7.mono hb6.size)
  have hb07 := hb06.trans (hb7.mono hb06.size)
  go_wp2_with fail
  have hm8 : n + 10 + n' ≤ 140737488355328 := by omega
  have M := Lib.hid fun W (hW : Below w5.heap.size w5 W) => AppendBytes_any A6 n c3 xs A7 n' c5 ys W (r6.below hW) (r7.below hW) hm8
  have hvc := hv6.below hb7
  obtain ⟨Ac, mc, cc, rfl, hmc, hmcc, hxc, _, hgc⟩ := hv6.form
  have hmcu : mc ≤ 9223372036854775807 := by unfold maxLen at hxc; omega
  obtain ⟨Ad, md, cd, rfl, hmd, hmcd, hxd, _, hgd⟩ := hv7.form
  have hmdu : md ≤ 9223372036854775807 := by unfold maxLen at hxd; omega
  have hb77 := Below.refl w7.heap.size w7
  go_region_held3 (fun w' => Below w7.heap.size w7 w') (repeat (first | assumption | apply below_drewN | apply Below.drew | apply below_alloc)) (first
    | (go_at_call 16; refine (M.out _ (Below.trans hb57 ((by assumption : Below w7.heap.size w7 _).mono hb57.size))).mono ?_; rintro e w8 ⟨v8, rfl, hv8, hb8⟩; have hb78 := Below.trans (by assumption) (hb8.mono (Below.size (by assumption)))))
  have hv8' : OwnB w8 w7.heap.size v8 (xs ++ enc ys.length ++ ys) := hv8
  have hb58 : Below w5.heap.size w5 w8 := hb57.trans (hb78.mono hb57.size)
  have hb08 : Below w.heap.size w w8 := hb05.trans (hb58.mono hb05.size)
  have hfl : Hid ((xs ++ enc ys.length ++ ys).length ≤ 2097200) := Lib.hid (by
    have := enc_length ys.length; have := HL.out; have := HL'.out
    simp only [List.length_append]; omega)
  have HF := Lib.hid (rfl : xs ++ enc ys.length ++ ys = xs ++ enc ys.length ++ ys)
  generalize hfs : xs ++ enc ys.length ++ ys = fs at hv8' hfl
  have HFS := Lib.hid hfs
  clear hfs HF hv8
  obtain ⟨A8, m8, c8, rfl, hm8', hmc8, _, hr8, hg8⟩ := hv8'.form
  have hm8u : m8 ≤ 140737488355328 := by have := hfl.out; have := hm8'.out; omega
  go_wp2_with fail
  refine (Bytes_any A8 m8 c8 (n : Int) (n' : Int) w8 fs hr8 hmc8 hm8u (by omega) (by omega)).mono ?_
  rintro e w9 ⟨v9, rfl, hv9, hb9⟩
  generalize bytesAt fs (n : Int) (n' : Int) = res at hv9
  obtain ⟨gs, ny, es⟩ := res
  simp only at hv9
  obtain ⟨A9, m9, c9, rfl, hm9, hmc9, hx9, _, hg9⟩ := hv9.form
  have hm9u : m9 ≤ 9223372036854775807 := by unfold maxLen at hx9; omega
  have hb79 := hb78.trans (hb9.mono hb78.size)
  have hb59 := hb57.trans (hb79.mono hb57.size)
  have hb09 := hb05.trans (hb59.mono hb05.size)
  have hvc9 := hvc.below hb79
  have hvd9 := hv7.below hb79
  have hr8' := hr8.below hb9
  go_wp2_with fail
  go_loopw [63] (fun i wa => ∃ (k : Nat) (zs : List UInt8), k ≤ mc ∧ i = .int .i64 k ∧ Hid (zs.length = mc) ∧ OwnB wa w5.heap.size (.slice Ac mc cc) zs ∧ OnlyA Ac w9 wa) (fun i _ => mc - (intOf i).toNat)
  case atStart => exact ⟨0, _, Nat.zero_le _, rfl, hmc, hvc9, OnlyA.refl _ _⟩
  case round =>
    obtain ⟨wa, rfl⟩ : ∃ x, x = wr := ⟨_, rfl⟩
    obtain ⟨k, zs, hk, rfl, hzl, hown, honly⟩ := hrel
    by_cases hlt : k < mc
    · obtain ⟨g, rfl, hgb, ⟨x, hcell⟩, hfr, hset⟩ := hown.bump hzl.out k hlt
      go_wp2
      go_roundw
      case rel =>
        obtain ⟨y, hy⟩ := u8_of_int (((x.toNat : Int) + 1) % 256) (by omega) (by omega)
        rw [hy]
        exact ⟨k + 1, zs.set k y, by omega, by go_num, Lib.hid (by rw [List.length_set]; exact hzl.out), hset y, honly.set k _⟩
      case measure => simp [intOf]; omega
    · clear hk
      have hvdA := honly.own hvd9 (apart hgc hgd (Nat.le_refl _))
      have hv9A := honly.own hv9 (apart hgc hg9 (Nat.le_trans hb7.size hb78.size))
      have hr8A := honly.rd hr8' (apart hgc hg8 hb7.size)
      have hb5A := honly.below hb59 (above hgc (Nat.le_refl _))
      have hsA : w9.heap.size ≤ wa.heap.size := Nat.le_of_eq honly.size.symm
      clear hown honly hzl
      go_wp2
      go_loopw [77] (fun i wb => ∃ (k2 : Nat) (zt : List UInt8), k2 ≤ md ∧ i = .int .i64 k2 ∧ Hid (zt.length = md) ∧ OwnB wb w6.heap.size (.slice Ad md cd) zt ∧ OnlyA Ad wa wb) (fun i _ => md - (intOf i).toNat)
      case atStart => exact ⟨0, _, Nat.zero_le _, rfl, hmd, hvdA, OnlyA.refl _ _⟩
      case round =>
        obtain ⟨wb, rfl⟩ : ∃ x, x = wr := ⟨_, rfl⟩
        obtain ⟨k2, zt, hk2, rfl, hzl, hown, honly⟩ := hrel
        by_cases hlt2 : k2 < md
        · obtain ⟨g, rfl, hgb, ⟨x, hcell⟩, hfr, hset⟩ := hown.bump hzl.out k2 hlt2
          go_wp2
          go_roundw
          case rel =>
            obtain ⟨y, hy⟩ := u8_of_int (((x.toNat : Int) + 1) % 256) (by omega) (by omega)
            rw [hy]
            exact ⟨k2 + 1, zt.set k2 y, by omega, by go_num, Lib.hid (by rw [List.length_set]; exact hzl.out), hset y, honly.set k2 _⟩
          case measure => simp [intOf]; omega
        · clear hk2
          have hv9B := honly.own hv9A (apart hgd hg9 hb78.size)
          have hr8B := honly.rd hr8A (apart hgd hg8 (Nat.le_refl _))
          have hb5B := honly.below hb5A (above hgd hb6.size)
          clear hown honly hzl
          go_wp2
          go_loopw [91] (fun i wc => ∃ (k3 : Nat) (zu : List UInt8), k3 ≤ m9 ∧ i = .int .i64 k3 ∧ Hid (zu.length = m9) ∧ OwnB wc w8.heap.size (.slice A9 m9 c9) zu ∧ OnlyA A9 wb wc) (fun i _ => m9 - (intOf i).toNat)
          case atStart => exact ⟨0, _, Nat.zero_le _, rfl, hm9, hv9B, OnlyA.refl _ _⟩
          case round =>
            obtain ⟨wc, rfl⟩ : ∃ x, x = wr := ⟨_, rfl⟩
            obtain ⟨k3, zu, hk3, rfl, hzl, hown, honly⟩ := hrel
            by_cases hlt3 : k3 < m9
            · obtain ⟨g, rfl, hgb, ⟨x, hcell⟩, hfr, hset⟩ := hown.bump hzl.out k3 hlt3
              go_wp2
              go_roundw
              case rel =>
                obtain ⟨y, hy⟩ := u8_of_int (((x.toNat : Int) + 1) % 256) (by omega) (by omega)
                rw [hy]
                exact ⟨k3 + 1, zu.set k3 y, by omega, by go_num, Lib.hid (by rw [List.length_set]; exact hzl.out), hset y, honly.set k3 _⟩
              case measure => simp [intOf]; omega
            · clear hk3
              have hr8C := honly.rd hr8B (apart hg8 hg9 (Nat.le_refl _) |> fun f x y hx hy => (f y x hy hx).symm)
              have hb5C := honly.below hb5B (above hg9 (Nat.le_trans hb57.size hb78.size))
              clear hown honly hzl
              have hb0C := hb05.trans (hb5C.mono hb05.size)
              go_wp2
              have hr3C := hr3'.below hb5C
              have hr5C := hr5.below hb5C
              have r6C := r6.below hb5C
              have r7C := r7.below hb5C
              have hC := h.below hb0C
              have hC' := h'.below hb0C
              obtain ⟨b3, o3, rfl⟩ := hr3C.addr (by omega)
              obtain ⟨b5, o5, rfl⟩ := hr5C.addr (by omega)
              have hin : ∀ k, n ≤ k → k < m3 → wc.cell? ⟨b3, o3 + k, none⟩ = some (.int .u8 7) := fun k h0 h1 => by
                have hk : k < (xs ++ [7, 7, 7, 7, 7, 7, 7, 7, 7, 7, 7]).length := by have := hm3.out; omega
                rw [hr3C.cells k hk]
                have e : (xs ++ [7, 7, 7, 7, 7, 7, 7, 7, 7, 7, 7])[k] = (7 : UInt8) := by
                  rw [List.getElem_append_right (by have := HL.out; omega)]
                  exact List.eq_of_mem_replicate (n := 11) (List.getElem_mem _)
                rw [e]
                rfl
              have hby : wc.cell? ⟨b5, o5 + n', none⟩ = some (.int .u8 8) := by
                rw [hr5C.cells n' (by have := hm5.out; omega)]
                have e : (ys ++ [8])[n']'(by have := hm5.out; omega) = (8 : UInt8) := by
                  rw [List.getElem_append_right (by have := HL'.out; omega)]
                  simp
                rw [e]
                rfl
              clear hm3 hm5
              go_loop [18] (fun i => ∃ k : Nat, n ≤ k ∧ k ≤ m3 ∧ i = .int .i64 k) (fun i => m3 - (intOf i).toNat)
              case atStart => exact ⟨n, Nat.le_refl _, by omega, rfl⟩
              case round =>
                obtain ⟨k4, hk4, hk4', rfl⟩ := hrel
                by_cases hlt4 : k4 < m3
                · have hc4 := hin k4 hk4 hlt4
                  go_wp2
                  go_round
                  case rel => exact ⟨k4 + 1, by omega, by omega, by go_num⟩
                  case measure => simp [intOf]; omega
                · go_wp2_with fail
                  refine (same_any A6 n c3 xs A n c xs wc r6C hC).mono ?_
                  rintro e w' ⟨rfl, rfl⟩
                  go_wp2_with fail
                  refine (same_any A7 n' c5 ys A' n' c' ys wc r7C hC').mono ?_
                  rintro e w' ⟨rfl, rfl⟩
                  go_wp2_with fail
                  refine (refAppendBytes_any A n c xs A' n' c' ys wc hC hC' hm8).mono ?_
                  rintro e wd ⟨vd, rfl, hvd, hbd⟩
                  rw [HFS.out] at hvd
                  have hb0d := hb0C.trans (hbd.mono hb0C.size)
                  obtain ⟨A10, m10, c10, rfl, _, _, _, hr10, _⟩ := hvd.form
                  go_wp2_with fail
                  refine (same_any A8 m8 c8 fs A10 m10 c10 fs wd (hr8C.below hbd) hr10).mono ?_
                  rintro e w' ⟨rfl, rfl⟩
                  go_wp2
                  go_ret
                  exact ⟨by simp, hb0d⟩
end Go.Proofs.Ytaepjocfajiokaa
