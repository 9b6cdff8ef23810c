/-
  Joined texts: AmN9 AmN10 AmN11. No statement is proved here.
-/
import Derived.Deep.RegionHeld3
import Derived.Deep.MidRow
import Derived.Test.YthlgjbmkealjjaaGreatDoorAmNA
import Derived.Test.YthlgjbmkealjjaaGreatDoorAmKK
import Derived.Test.YthlgjbmkealjjaaGreatDoorAmA
namespace Go.Proofs.YthlgjbmkealjjaaGreatDoor
open Go.RowKit
set_option linter.unusedVariables false

theorem below3 (w : World) (a b c : Obj) : Below w.heap.size w (((w.alloc a).alloc b).alloc c) :=
  (((Below.refl _ _).alloc (Nat.le_refl _) _).alloc (by simp) _).alloc (by (simp) <;> omega) _
structure EvSt (w v : World) (g b q r : Nat) : Prop where
  h1 : v.heap[w.heap.size + 1]? = some (.cells (row20 (dg b)) 81 (0, 0))
  h2 : v.heap[w.heap.size + 2]? = some (.cells z20 81 (0, 0))
  hq : v.heap[g]? = some (.cells (row20 (dg q)) 81 (0, 0))
  hr : v.heap[g + 1]? = some (.cells (row20 (dg r)) 81 (0, 0))
  bel : Below w.heap.size w v
  hg : w.heap.size + 3 ≤ g
theorem EvSt.below {w v v2 : World} {g b q r : Nat} (S : EvSt w v g b q r) (hb : Below v.heap.size v v2) : EvSt w v2 g b q r := by
  have h := heap_lt S.hr
  have hg := S.hg
  exact ⟨(hb.block _ (by omega)).trans S.h1, (hb.block _ (by omega)).trans S.h2, (hb.block _ (by omega)).trans S.hq, (hb.block _ (by omega)).trans S.hr, S.bel.trans (hb.mono (by omega)), hg⟩
theorem yields_row {P : Program} {ops : Array Oper} {S : World → Prop} {op : Oper} {a : Act} (hw : Region.wanted op (yielded ops a.tmps) = true) (ty : TypeId) (x : Operand) (ho : op.op = .load ty x)
    (g : Nat) (hx : a.eval x = .pointer (some ⟨g, 0, none⟩)) (t : TypeId) (cs : Array Value) (fr : Nat × Nat) (d : TypeDesc) (hS : ∀ w, S w → w.heap[g]? = some (.cells cs t fr))
    (hu : P.underlying ty = some d) (hd : (match d with | .struct _ | .array _ _ => true | _ => false) = true) (hi : (P.info? ty).map (·.size) = some cs.size) : YieldsIf P ops S op (.agg cs) a :=
  .inl ⟨hw, fun w hw' => by
    unfold execOp
    simp only [ho, hx, Instr.loadAt, Instr.sureAddr, Sem.run_bind, Sem.run_pure, Result.andThen_ok, run_loadVar_row w g t ty cs fr d (hS w hw') hu hd hi]⟩
theorem EvSt.setq {w v : World} {g b q r : Nat} (S : EvSt w v g b q r) (q' : Nat) : EvSt w (v.setRow g (row20 (dg q'))) g b q' r := by
  have hg := S.hg
  exact ⟨(setRow_other _ _ _ _ (by omega)).trans S.h1, (setRow_other _ _ _ _ (by omega)).trans S.h2, setRow_heap _ _ _ _ _ _ S.hq, (setRow_other _ _ _ _ (by omega)).trans S.hr, S.bel.setRow (by omega) _, hg⟩
theorem even_open {w w2 : World} (b q r : Nat) (h1 : w2.heap[w.heap.size + 1]? = some (.cells (row20 (dg b)) 81 (0, 0))) (h2 : w2.heap[w.heap.size + 2]? = some (.cells z20 81 (0, 0))) (hb : Below w.heap.size w w2) (hs : w.heap.size + 3 ≤ w2.heap.size) :
    EvSt w ((((w2.alloc (.cells z20 81)).alloc (.cells z20 81)).setRow w2.heap.size (row20 (dg q))).setRow (w2.heap.size + 1) (row20 (dg r))) w2.heap.size b q r := by
  have hB := ((Below.refl w2.heap.size w2).alloc (Nat.le_refl _) (.cells z20 81)).alloc (by simp) (.cells z20 81)
  have hC := (hB.setRow (Nat.le_refl _) (row20 (dg q))).setRow (g := w2.heap.size + 1) (by omega) (row20 (dg r))
  refine ⟨(hC.block _ (by omega)).trans h1, (hC.block _ (by omega)).trans h2, (setRow_other _ _ _ _ (by omega)).trans (setRow_heap _ _ _ _ _ _ (heap_alloc2_old w2 _ _)), setRow_heap _ _ _ _ _ _ ((setRow_other _ _ _ _ (by omega)).trans (heap_alloc2_new w2 _ _)), hb.trans (hC.mono (by omega)), hs⟩
end Go.Proofs.YthlgjbmkealjjaaGreatDoor

namespace Go.Proofs.YthlgjbmkealjjaaGreatDoor
open Go.RowKit
set_option linter.unusedVariables false

theorem dg_unroll (n j : Nat) : n / 65536 ^ j = dg n j + 65536 * (n / 65536 ^ (j + 1)) := by
  unfold dg
  rw [Nat.pow_succ, ← Nat.div_div_eq_div_mul]
  omega
theorem dg_high (n : Nat) (hn : n < 65536 ^ 20) (h : ∀ j, 4 ≤ j → j < 20 → dg n j = 0) : n < 18446744073709551616 := by
  have key : ∀ k, k ≤ 16 → n / 65536 ^ (20 - k) = 0 := by
    intro k
    induction k with
    | zero => intro _; exact Nat.div_eq_of_lt hn
    | succ k ih =>
      intro hk
      rw [dg_unroll, h (20 - (k + 1)) (by omega) (by omega), show 20 - (k + 1) + 1 = 20 - k by omega, ih (by omega)]
  have h4 := key 16 (by omega)
  have e : (65536 : Nat) ^ (20 - 16) = 18446744073709551616 := by decide
  rw [e] at h4
  omega
theorem dg_nonzero (n j : Nat) (hj : 4 ≤ j) (h : dg n j ≠ 0) : 9223372036854775808 < n := by
  rcases Nat.lt_or_ge n (65536 ^ 4) with h2 | h2
  · exact absurd (dg_far n 4 j h2 hj) h
  · have e : (65536 : Nat) ^ 4 = 18446744073709551616 := by decide
    omega
theorem dg_four (n : Nat) (hn : n < 18446744073709551616) : n = dg n 0 + 65536 * (dg n 1 + 65536 * (dg n 2 + 65536 * dg n 3)) := by
  have h0 := dg_unroll n 0
  have h1 := dg_unroll n 1
  have h2 := dg_unroll n 2
  have h3 := dg_unroll n 3
  have e : n / 65536 ^ (3 + 1) = 0 := Nat.div_eq_of_lt hn
  rw [e] at h3
  rw [Nat.pow_zero, Nat.div_one] at h0
  simp only [Nat.zero_add] at h0
  omega
theorem sgn_ok (q : Nat) (m : Bool) : (sgn q m).2 = 0 ∨ sgn q m = (0, 4) := by
  unfold sgn
  split <;> split <;> simp
set_option maxRecDepth 100000 in
set_option maxHeartbeats 4000000 in
theorem Back_any (n : Nat) (m : Bool) (w : World) (hn : n < 65536 ^ 20) :
    Calls Tryz.prog 44 #[natOf n, .bool m] w fun e w' => e = .returned (.tuple #[.int .i64 (sgn n m).1, .bool (decide ((sgn n m).2 = 0))]) ∧ Below w.heap.size w w' := by
  have e1 : (row20 (dg n)).size = 20 := row20_size _
  have HN := Lib.hid hn
  have HS : Hid (sgn n m = if m then (if n ≤ 9223372036854775808 then (-(n : Int), 0) else (0, 4)) else (if n < 9223372036854775808 then ((n : Int), 0) else (0, 4))) := Lib.hid rfl
  generalize sgn n m = S at *
  clear hn
  unfold natOf at *
  go_enter Tryz.func44, Tryz.ntmps44
  go_wp2
  have h0 : (w.alloc (.cells (row20 (dg n)) 81)).heap[w.heap.size]? = some (.cells (row20 (dg n)) 81 (0, 0)) := heap_alloc_new w _
  have HB := Lib.hid ((Below.refl w.heap.size w).alloc (Nat.le_refl _) (.cells (row20 (dg n)) 81))
  generalize w.alloc (.cells (row20 (dg n)) 81) = v at *
  have H0 := Lib.hid h0
  clear h0
  go_loopw [6] (fun t wr => ∃ i : Nat, 4 ≤ i ∧ i ≤ 20 ∧ t = .int .i64 i ∧ wr = v ∧ Hid (∀ j, 4 ≤ j → j < i → dg n j = 0)) (fun t _ => 20 - (intOf t).toNat)
  case atStart => exact ⟨4, by omega, by omega, rfl, rfl, Lib.hid fun j h1 h2 => by omega⟩
  case round =>
    obtain ⟨i, h4, hi, rfl, rfl, HZ⟩ := hrel
    by_cases hlt : i < 20
    · have c0 := cells_at H0.out i hlt
      have hdl := dg_lt n i
      by_cases hz : dg n i = 0
      · have HZ2 : Hid (∀ j, 4 ≤ j → j < i + 1 → dg n j = 0) := Lib.hid fun j h1 h2 => by
          rcases Nat.lt_or_ge j i with h | h
          · exact HZ.out j h1 h
          · rw [show j = i by omega, hz]
        rw [hz] at c0
        clear HZ hz hdl
        go_wp2
        go_roundw
        case rel => exact ⟨i + 1, by omega, by omega, by go_num, trivial, HZ2⟩
        case measure => (try simp [intOf]) <;> (try omega)
      · have hbig := dg_nonzero n i h4 hz
        obtain rfl : S = (0, 4) := by
          rw [HS.out]
          cases m
          · rw [if_neg (by simp), if_neg (by omega)]
          · rw [if_pos rfl, if_neg (by omega)]
        clear HS hbig
        generalize dg n i = d at *
        go_wp2
        go_ret2
        exact ⟨rfl, HB.out⟩
    · obtain rfl : i = 20 := by omega
      have hs := dg_high n HN.out HZ.out
      have hf := dg_four n hs
      have c0 := cells_at H0.out 0 (by omega)
      have c1 := cells_at H0.out 1 (by omega)
      have c2 := cells_at H0.out 2 (by omega)
      have c3 := cells_at H0.out 3 (by omega)
      have d0 := dg_lt n 0
      have d1 := dg_lt n 1
      have d2 := dg_lt n 2
      have d3 := dg_lt n 3
      clear HN HZ
      generalize dg n 0 = x0 at *
      generalize dg n 1 = x1 at *
      generalize dg n 2 = x2 at *
      generalize dg n 3 = x3 at *
      obtain ⟨y2, hy2⟩ : ∃ y, y = x2 + 65536 * x3 := ⟨_, rfl⟩
      obtain ⟨y1, hy1⟩ : ∃ y, y = x1 + 65536 * y2 := ⟨_, rfl⟩
      have g2 : (x2 : Int) + 65536 * (x3 : Int) = (y2 : Int) := by omega
      have g1 : (x1 : Int) + 65536 * (y2 : Int) = (y1 : Int) := by omega
      have g0 : (x0 : Int) + 65536 * (y1 : Int) = (n : Int) := by omega
      have b2 : y2 < 4294967296 := by omega
      have b1 : y1 < 281474976710656 := by omega
      clear hf hy2 hy1
      have hs' := hs
      cases m
      · by_cases hb : n < 9223372036854775808
        · obtain rfl : S = ((n : Int), 0) := by rw [HS.out, if_neg (by simp), if_pos hb]
          clear HS
          go_wp2
          go_ret2
          exact ⟨rfl, HB.out⟩
        · obtain rfl : S = (0, 4) := by rw [HS.out, if_neg (by simp), if_neg hb]
          clear HS
          go_wp2
          go_ret2
          exact ⟨rfl, HB.out⟩
      · by_cases hb : n ≤ 9223372036854775808
        · obtain rfl : S = (-(n : Int), 0) := by rw [HS.out, if_pos rfl, if_pos hb]
          clear HS
          have e2 : Hid (wrap64 (IntKind.u64.wrap (-(n : Int))) = -(n : Int)) := Lib.hid (by rw [wrapU']; unfold wrap64; omega)
          go_wp2
          go_ret2
          exact ⟨by rw [e2.out]; rfl, HB.out⟩
        · obtain rfl : S = (0, 4) := by rw [HS.out, if_pos rfl, if_neg hb]
          clear HS
          go_wp2
          go_ret2
          exact ⟨rfl, HB.out⟩
end Go.Proofs.YthlgjbmkealjjaaGreatDoor

namespace Go.Proofs.YthlgjbmkealjjaaGreatDoor
open Go.RowKit
set_option linter.unusedVariables false

theorem evenDiv_le (n d : Nat) : evenDiv n d ≤ n + 1 := by
  rw [evenDiv_eq]
  have := Nat.div_le_self n d
  split <;> omega
theorem pow20_big : (1461501637330902918203684832716283019655932542975 : Nat) < 65536 ^ 20 := by decide +kernel
theorem sgn_tuple (q : Nat) (m : Bool) : sgn q m = if decide ((sgn q m).2 = 0) = true then ((sgn q m).1, 0) else (0, 4) := by
  unfold sgn
  split <;> split <;> simp
end Go.Proofs.YthlgjbmkealjjaaGreatDoor
