/-
  Contracts of the functions of layer 4 (varint) and of its reference that layer 9 calls; of own, Same, Copy, Clone, Concat. No statement is proved here.
-/
import Derived.Test.YthaciglechijkaaBytes
import Derived.Test.YthaciglechijkaaVarintP
import Derived.Lib.AppendZerosOnto
namespace Go.Proofs.Ythaciglechijkaa
open Go.RowKit
set_option linter.unusedVariables false

/-- A piece: where it lies, its length and capacity, its bytes. -/
structure Piece where
  A : Option Addr
  n : Nat
  c : Nat
  xs : List UInt8

theorem orTop (q : Nat) : bits .or .u8 ((q : Int) % 256) 128 = ((q % 128 + 128 : Nat) : Int) := by
  have h := u8_or_nat (q % 256) 128 (Nat.mod_lt _ (by decide)) (by omega)
  have h2 : (q % 256) ||| 128 = q % 128 + 128 := by
    have e : q % 256 = q % 256 / 128 * 128 + q % 128 := by omega
    by_cases hb : q % 256 / 128 = 0
    · have e2 : q % 256 = q % 128 := by omega
      rw [e2, Nat.or_comm, nat_join 7 128 (q % 128) (by decide) (by omega)]
      omega
    · have hb1 : q % 256 / 128 = 1 := by omega
      have e2 : q % 256 = 128 + q % 128 := by omega
      rw [e2, ← nat_join 7 128 (q % 128) (by decide) (by omega), Nat.or_assoc, Nat.or_comm (q % 128), ← Nat.or_assoc, Nat.or_self, nat_join 7 128 (q % 128) (by decide) (by omega)]
      omega
  rw [h2] at h
  exact h

def zten : Array Value := (List.replicate 10 (Value.int .u8 0)).toArray
theorem zero10 (w : World) : (zeroValue 68).run Try.prog w = .ok (.agg zten) w := by kernel_rfl
/-- The array that is filled: these bytes, then zeros. -/
def tenOf (pre : List UInt8) : Array Value := (pre.map bv ++ List.replicate (10 - pre.length) (Value.int .u8 0)).toArray
theorem tenOf_size (pre : List UInt8) (h : pre.length ≤ 10) : (tenOf pre).size = 10 := by simp [tenOf]; omega
theorem tenOf_set (pre : List UInt8) (h : pre.length < 10) (x : UInt8) : (tenOf pre).setIfInBounds pre.length (bv x) = tenOf (pre ++ [x]) := by
  unfold tenOf
  have e : 10 - pre.length = (10 - (pre ++ [x]).length) + 1 := by simp; omega
  rw [List.setIfInBounds_toArray, e, List.replicate_succ]
  congr 1
  rw [List.set_append]
  simp

set_option maxRecDepth 100000 in
set_option maxHeartbeats 1000000 in
theorem form_any (v : Nat) (w : World) (hv : v < 18446744073709551616) :
    Calls Try.prog 34 #[.int .u64 v] w fun e w' => ∃ A m c, e = .returned (.slice A m c) ∧ Hid ((enc v).length = m) ∧ m ≤ 10 ∧ m ≤ c ∧ RdB w' A m (enc v) ∧ Below w.heap.size w w' := by
  have hz := zero10
  have HV := Lib.hid hv
  go_enter Try.func34, Try.ntmps34
  go_wp2
  go_loopw [0, 4] (fun t i wr => ∃ (q : Nat) (pre : List UInt8), pre.length ≤ 9 ∧ enc v = pre ++ vform (9 - pre.length) q ∧ q * 128 ^ pre.length ≤ v ∧ t = .int .u64 q ∧ i = .int .i64 (pre.length : Nat) ∧ wr.heap[w.heap.size]? = some (.cells (tenOf pre) 68 (0, 0)) ∧ Below w.heap.size w wr) (fun t _ _ => (intOf t).toNat)
  case atStart => 
    exact ⟨v, [], by simp, rfl, by simp, rfl, rfl, heap_alloc_new w _, (Below.refl _ _).alloc (Nat.le_refl _) _⟩
  case round =>
    obtain ⟨q, pre, hpl, henc, hq, rfl, rfl, hh, hb⟩ := hrel
    have HE := Lib.hid henc
    have HQ := Lib.hid hq
    have HH := Lib.hid hh
    have hq64 : q < 18446744073709551616 := by
      have h1 : 1 ≤ 128 ^ pre.length := Nat.one_le_pow _ _ (by omega)
      have h2 : q * 1 ≤ q * 128 ^ pre.length := Nat.mul_le_mul_left q h1
      have := HV.out
      omega
    have hc : ∃ u, wr.cell? ⟨w.heap.size, pre.length, none⟩ = some u := by
      rw [cell_of_row _ _ _ _ _ _ hh]
      exact ⟨_, Array.getElem?_eq_getElem (by rw [tenOf_size _ (by omega)]; omega)⟩
    obtain ⟨u, hc⟩ := hc
    have hf : wr.frozen? ⟨w.heap.size, pre.length, none⟩ = false := frozen_of_row _ _ _ _ _ hh
    clear henc hq hh
    by_cases hlt : 127 < q
    · have hp9 : pre.length < 9 := by
        rcases Nat.lt_or_ge pre.length 9 with h | h
        · exact h
        · have e9 : pre.length = 9 := by omega
          have := HQ.out
          rw [e9] at this
          have := HV.out
          omega
      have hor := orTop q
      go_wp2
      go_roundw
      case rel =>
        refine ⟨q / 128, pre ++ [UInt8.ofNat (q % 128 + 128)], by simp; omega, ?_, ?_, rfl, by simp, ?_, hb.setCell (Nat.le_refl _) _⟩
        · have e : 9 - pre.length = (9 - (pre ++ [UInt8.ofNat (q % 128 + 128)]).length) + 1 := by simp; omega
          have := HE.out
          rw [e, vform, if_neg (by omega)] at this
          rw [this]
          simp
        · have := HQ.out
          have h2 : q / 128 * 128 ^ (pre.length + 1) ≤ q * 128 ^ pre.length := by
            rw [Nat.pow_succ, Nat.mul_comm (128 ^ pre.length), ← Nat.mul_assoc]
            exact Nat.mul_le_mul_right _ (Nat.div_mul_le_self q 128)
          simp only [List.length_append, List.length_cons, List.length_nil, Nat.zero_add]
          omega
        · rw [heap_setCell_same _ _ _ _ _ _ HH.out, ← tenOf_set pre (by omega)]
          have e : bv (UInt8.ofNat (q % 128 + 128)) = .int .u8 ((q : Int) % 128 + 128) := by
            unfold bv; rw [u8_ofNat _ (by omega)]; rfl
          rw [e]
      case measure => simp [intOf]; omega
    · have hsl : ∀ W, (Instr.sliceAt 68 (.pointer (some ⟨w.heap.size, 0, none⟩)) none (some (.int .i64 ((pre.length : Int) + 1))) none).run Try.prog W = .ok (.slice (some ⟨w.heap.size, 0, none⟩) (pre.length + 1) 10) W := fun W => by
        have hlen : Try.prog.arrayLen 68 = 10 := by kernel_rfl
        rw [run_sliceAt_array_h W 68 _ (by kernel_rfl) .i64 _ (by omega) (by rw [hlen]; omega), hlen, show (sizeOf (Try.prog.elem 68)).run Try.prog W = .ok 1 W from by kernel_rfl]
        simp [Result.andThen, slicedAt, add_plain]
      go_wp2
      go_ret
      have e1 : vform (9 - pre.length) q = [UInt8.ofNat q] := by
        cases hk : 9 - pre.length with
        | zero => rfl
        | succ k => rw [vform, if_pos (by omega)]
      have e2 : enc v = pre ++ [UInt8.ofNat q] := by rw [HE.out, e1]
      refine ⟨_, _, _, rfl, by rw [e2]; simp [Hid], by omega, by omega, ?_, hb.setCell (Nat.le_refl _) _⟩
      have hh : (wr.setCell ⟨w.heap.size, pre.length, none⟩ (.int .u8 q)).heap[w.heap.size]? = some (.cells (tenOf (enc v)) 68 (0, 0)) := by
        rw [heap_setCell_same _ _ _ _ _ _ HH.out, e2, ← tenOf_set pre (by omega)]
        have e : bv (UInt8.ofNat q) = .int .u8 (q : Int) := by unfold bv; rw [u8_ofNat _ (by omega)]
        rw [e]
      refine RdB.mk (by rw [e2]; simp) fun j hj => ?_
      rw [cell_of_row _ _ _ _ _ _ hh]
      rw [Nat.zero_add, tenOf, List.getElem?_toArray, List.getElem?_append_left (by simpa using hj), List.getElem?_map, List.getElem?_eq_getElem hj]
      rfl

/-! ### Copies and comparisons -/
theorem own_any (A : Option Addr) (n c : Nat) (w : World) (xs : List UInt8) (h : RdB w A n xs) (hn : n ≤ 140737488355328) :
    Calls Try.prog 13 #[.slice A n c] w fun e w' => ∃ v, e = .returned v ∧ OwnB w' w.heap.size v xs ∧ Below w.heap.size w w' := by
  have hl := h.len
  go_enter Try.func13, Try.ntmps13
  go_wp2_with (at_builtin; refine app_u8 rfl _ _ rfl w.heap.size _ [] rfl (OwnB.empty w (Nat.le_refl _)) A n c xs rfl (h.alloc _) ?c1 ?c2 ?_)
  case c1 => simp; omega
  case c2 => simp
  intro v w1 hv hb _
  go_wp2
  go_ret
  exact ⟨v, rfl, hv, ((Below.refl _ _).alloc (Nat.le_refl _) _).trans hb⟩
theorem copy_any (A : Option Addr) (n c : Nat) (w : World) (xs : List UInt8) (h : RdB w A n xs) (hn : n ≤ 140737488355328) :
    Calls Try.prog 35 #[.slice A n c] w fun e w' => ∃ v, e = .returned v ∧ OwnB w' w.heap.size v xs ∧ Below w.heap.size w w' := by
  have hl := h.len
  go_enter Try.func35, Try.ntmps35
  go_wp2_with (at_builtin; refine app_u8 rfl _ _ rfl w.heap.size _ [] rfl (OwnB.empty w (Nat.le_refl _)) A n c xs rfl (h.alloc _) ?c1 ?c2 ?_)
  case c1 => simp; omega
  case c2 => simp
  intro v w1 hv hb _
  go_wp2
  go_ret
  exact ⟨v, rfl, hv, ((Below.refl _ _).alloc (Nat.le_refl _) _).trans hb⟩
theorem same_any (A : Option Addr) (n c : Nat) (xs : List UInt8) (A' : Option Addr) (n' c' : Nat) (ys : List UInt8) (w : World) (h : RdB w A n xs) (h' : RdB w A' n' ys) :
    Calls Try.prog 11 #[.slice A n c, .slice A' n' c'] w fun e w' => e = .returned (.bool (decide (xs = ys))) ∧ w = w' := by
  have k1 := h.conv (P := Try.prog) (src := 24) (dst := 9) Try.underlying24 Try.underlying5 Try.underlying9 c
  have k2 := h'.conv (P := Try.prog) (src := 24) (dst := 9) Try.underlying24 Try.underlying5 Try.underlying9 c'
  go_enter Try.func11, Try.ntmps11
  go_wp2
  go_ret
  exact ⟨ret_bool (by by_cases h : xs = ys <;> simp [h]), rfl⟩
theorem clone_any (A : Option Addr) (n c : Nat) (w : World) (xs : List UInt8) (h : RdB w A n xs) (hn : n ≤ 140737488355328) :
    Calls Try.prog 39 #[.slice A n c] w fun e w' => ∃ v, e = .returned v ∧ OwnB w' w.heap.size v xs ∧ Below w.heap.size w w' := by
  have hl := h.len
  cases A with
  | none =>
    have qn := fun (w : World) (a : Option Addr) (n c n' c' : Nat) => Lib.run_eql_slice_nil (P := Try.prog) w 24 5 a n c n' c' Try.underlying24
    go_enter Try.func39, Try.ntmps39
    go_wp2
    go_ret
    obtain rfl : n = 0 := by
      rcases Nat.eq_zero_or_pos n with h0 | h0
      · exact h0
      · obtain ⟨b, off, e⟩ := h.addr h0; cases e
    obtain rfl : xs = [] := List.eq_nil_of_length_eq_zero hl
    exact ⟨_, rfl, OwnB.nil _ _, Below.refl _ _⟩
  | some a =>
    have qn := fun (w : World) (a : Option Addr) (n c n' c' : Nat) => Lib.run_eql_slice_nil (P := Try.prog) w 24 5 a n c n' c' Try.underlying24
    go_enter Try.func39, Try.ntmps39
    go_wp2_with (at_builtin; refine app_u8 rfl _ _ rfl w.heap.size _ [] rfl (OwnB.empty w (Nat.le_refl _)) (some a) n c xs rfl (h.alloc _) ?c1 ?c2 ?_)
    case c1 => simp; omega
    case c2 => simp
    intro v w1 hv hb _
    go_wp2
    go_ret
    exact ⟨v, rfl, hv, ((Below.refl _ _).alloc (Nat.le_refl _) _).trans hb⟩

/-! ### slices.Grow of nil, slices.Concat -/
theorem run_zeros (w : World) (n : Nat) (h0 : 0 < n) (hn : n ≤ 140737488355328) :
    (Builtin.append_ #[24, 3] 24 #[.slice none 0 0, .int .i64 n]).run Try.prog w =
      .ok (.slice (some ⟨w.heap.size, 0, none⟩) n (grownCap w n 0 5)) (w.drew.alloc (.cells (Builtin.zeroCells #[.int .u8 0] n ++ Builtin.zeroCells #[.int .u8 0] (grownCap w n 0 5 - n)) 5)) := by
  obtain ⟨i0, hi, hz0, hz1, hz2⟩ := info_parts infoU8
  have h := Lib.run_append_grow_zeros (P := Try.prog) w 24 3 24 5 i0 (.int .u8 0) .i64 .i64 Try.underlying24 Try.underlying3 hi hz0 none 0 0 [] (by simp [Builtin.firstCells]) n h0 (by omega) (by omega) (by omega) (by rw [hz2]; omega)
    (by rw [hz2, Nat.zero_add, Builtin.nextslicecap]; split <;> omega)
  simp only [Nat.zero_add] at h
  rw [h]
  simp [Value.cells]

theorem app_zeros {ops : Array Oper} {rest : List Oper} {o : Oper} {a : Act} {Q : Exit → Act → World → Prop} {w : World} (hgd : o.guard = none) (s x : Operand)
    (ho : o.op = .call { callee := .builtin .append, args := #[s, x], argTypes := #[24, 3] }) (hty : o.type = 24)
    (n : Nat) (hs : a.eval s = .slice none 0 0) (hx : a.eval x = .int .i64 n) (h0 : 0 < n) (hn : n ≤ 140737488355328)
    (h : ∀ cap w', n ≤ cap → OwnB w' w.heap.size (.slice (some ⟨w.heap.size, 0, none⟩) 0 cap) [] → Below w.heap.size w w' → wpList Try.prog ops Q rest (a.put o.dst (.slice (some ⟨w.heap.size, 0, none⟩) n cap)) w') : wpList Try.prog ops Q (o :: rest) a w := by
  refine wpList_plain hgd fun K hK => ?_
  have hz := run_zeros w n h0 hn
  have hcap := grownCap_ge w n 0 5
  have hcap2 := grownCap_le_maxLen w n 0 5 (by unfold maxLen; omega)
  unfold Oper.wp execOp
  simp only [ho, hty, resolve, invoke, builtin, Sem.run_bind, Sem.run_pure, Result.andThen_ok, List.map_toArray, List.map_cons, List.map_nil, hs, hx, hz]
  refine hK _ _ (h _ _ hcap ?_ ((Below.refl w.heap.size w).drew.alloc (Nat.le_refl _) _))
  exact World.ownsRow_made (base := w.heap.size) (e := 5) (size := 1) w.drew _ _ (Nat.le_refl _) hcap2 (by simp [size_zeroCells]; omega)

theorem grow_any (n : Nat) (w : World) (hn : n ≤ 140737488355328) :
    Calls Try.prog 41 #[.slice none 0 0, .int .i64 n] w fun e w' => ∃ v, e = .returned v ∧ OwnB w' w.heap.size v [] ∧ Below w.heap.size w w' := by
  rcases Nat.eq_zero_or_pos n with h0 | h0
  · subst h0
    go_enter Try.func41, Try.ntmps41
    go_wp2
    go_ret
    exact ⟨_, rfl, OwnB.nil _ _, Below.refl _ _⟩
  · go_enter Try.func41, Try.ntmps41
    go_wp2_with (at_builtin; refine app_zeros rfl _ _ rfl rfl n rfl rfl h0 hn ?_)
    intro cap w1 hcap hown hb
    go_wp2
    go_ret
    exact ⟨_, rfl, hown, hb⟩

set_option maxHeartbeats 1000000 in
theorem concat_any (w : World) (b n c : Nat) (ps : List Piece) (hn : ps.length = n) (hm : n ≤ 100)
    (hc : ∀ k (hk : k < ps.length), w.cell? ⟨b, k, none⟩ = some (.slice ps[k].A ps[k].n ps[k].c))
    (hr : ∀ k (hk : k < ps.length), RdB w ps[k].A ps[k].n ps[k].xs) (hl : (ps.flatMap (·.xs)).length ≤ 140737488355328) :
    Calls Try.prog 38 #[.slice (some ⟨b, 0, none⟩) n c] w fun e w' => ∃ v, e = .returned v ∧ OwnB w' w.heap.size v (ps.flatMap (·.xs)) ∧ Below w.heap.size w w' := by
  have HC := Lib.hid hc
  have HL := Lib.hid hl
  have hsn : ∀ k (hk : k < ps.length), ((ps.take (k + 1)).flatMap (·.xs)) = (ps.take k).flatMap (·.xs) ++ ps[k].xs := fun k hk => by
    rw [take_snoc' ps k hk, List.flatMap_append]; simp
  have hle : ∀ k, ((ps.take k).flatMap (·.xs)).length ≤ (ps.flatMap (·.xs)).length := fun k => by
    have h1 := congrArg (fun l : List Piece => (l.flatMap (fun x => x.xs)).length) (List.take_append_drop k ps)
    simp only [List.flatMap_append, List.length_append] at h1
    omega
  have HSN := Lib.hid hsn
  have HLE := Lib.hid hle
  clear hc hl hsn hle
  go_enter Try.func38, Try.ntmps38
  go_wp2
  go_loop [3, 11] (fun t i => ∃ k s : Nat, k ≤ n ∧ i = .int .i64 k ∧ t = .int .i64 s ∧ Hid (s = ((ps.take k).flatMap (·.xs)).length)) (fun _ i => n - (intOf i).toNat)
  case atStart => exact ⟨0, 0, Nat.zero_le _, rfl, rfl, rfl⟩
  case round =>
    obtain ⟨k, s, hk, rfl, rfl, hs⟩ := hrel
    have hs1 : s ≤ 140737488355328 := by have := hs.out; have := HLE.out k; have := HL.out; omega
    by_cases hlt : k < n
    · have hc := HC.out k (by omega)
      have hrk := hr k (by omega)
      have hs2 : s + ps[k].n ≤ 140737488355328 := by
        have h1 := HSN.out k (by omega)
        have h2 := congrArg List.length h1
        rw [List.length_append, hrk.len] at h2
        have := hs.out; have := HLE.out (k + 1); have := HL.out; omega
      have HH : Hid (s + ps[k].n = ((ps.take (k + 1)).flatMap (·.xs)).length) := by
        have h1 := HSN.out k (by omega)
        have h2 := congrArg List.length h1
        rw [List.length_append, hrk.len] at h2
        have := hs.out
        unfold Hid; omega
      generalize ps[k] = q at hc hrk hs2 HH
      obtain ⟨A, m, cq, xs⟩ := q
      simp only at hc hrk hs2 HH
      go_wp2
      go_round
      case rel => exact ⟨k + 1, s + m, by omega, by go_num, by go_num, HH⟩
      case measure => simp [intOf]; omega
    · go_wp2_with (go_at_call 41; refine (grow_any s w hs1).mono ?_; rintro e w1 ⟨v1, rfl, hv1, hb1⟩)
      go_loopw [6, 27] (fun v i wr => ∃ k : Nat, k ≤ n ∧ i = .int .i64 k ∧ OwnB wr w.heap.size v ((ps.take k).flatMap (·.xs)) ∧ Below w.heap.size w wr) (fun _ i _ => n - (intOf i).toNat)
      case atStart => exact ⟨0, Nat.zero_le _, rfl, hv1, hb1⟩
      case round =>
        obtain ⟨j, hj, rfl, hown, hb⟩ := hrel
        by_cases hltj : j < n
        · have hc := cell_later hb (HC.out j (by omega))
          have hrj := (hr j (by omega)).below hb
          have hsz : ((ps.take j).flatMap (·.xs)).length + ps[j].n ≤ 140737488355328 := by
            have h2 := congrArg List.length (HSN.out j (by omega))
            rw [List.length_append, hrj.len] at h2
            have := HLE.out (j + 1); have := HL.out; omega
          have hsnj := Lib.hid (HSN.out j (by omega))
          generalize ps[j] = q at hc hrj hsz hsnj
          obtain ⟨A, m, cq, xs⟩ := q
          simp only at hc hrj hsz hsnj
          go_wp2_with (at_builtin; refine app_u8 rfl _ _ rfl w.heap.size _ _ rfl hown A m cq xs rfl hrj hsz hb.size ?_)
          intro v2 w2 hv2 hb2 _
          go_wp2
          go_roundw
          case rel => exact ⟨j + 1, by omega, by go_num, by rw [hsnj.out]; exact hv2, hb.trans hb2⟩
          case measure => simp [intOf]; omega
        · go_wp2
          go_ret
          rw [List.take_of_length_le (by omega)] at hown
          exact ⟨_, rfl, hown, hb⟩

/-! ### What is appended -/
theorem cell_two (w : World) (u v : Value) (t : TypeId) : (∀ k (hk : k < 2), (w.alloc (.cells #[u, v] t)).cell? ⟨w.heap.size, k, none⟩ = #[u, v][k]?) := fun k hk => by
  rw [cell_of_row _ _ _ _ _ _ (heap_alloc_new w _)]

theorem join_two (w : World) (A : Option Addr) (n c : Nat) (xs : List UInt8) (A' : Option Addr) (n' c' : Nat) (ys : List UInt8) (h : RdB w A n xs) (h' : RdB w A' n' ys) (hl : xs.length + ys.length ≤ 140737488355328) :
    Calls Try.prog 33 #[.slice (some ⟨w.heap.size, 0, none⟩) 2 2] (w.alloc (.cells #[.slice A n c, .slice A' n' c'] 24)) fun e w' => ∃ v, e = .returned v ∧ OwnB w' w.heap.size v (xs ++ ys) ∧ Below w.heap.size w w' := by
  have C := concat_any (w.alloc (.cells #[.slice A n c, .slice A' n' c'] 24)) w.heap.size 2 2 [⟨A, n, c, xs⟩, ⟨A', n', c', ys⟩] rfl (by omega) (fun k hk => by
    rw [cell_of_row _ _ _ _ _ _ (heap_alloc_new w _)]
    match k, hk with
    | 0, _ => rfl
    | 1, _ => rfl) (fun k hk => by
    match k, hk with
    | 0, _ => exact h.alloc _
    | 1, _ => exact h'.alloc _) (by simpa using hl)
  have C := Lib.hid C
  go_enter Try.func33, Try.ntmps33
  go_wp2_with (go_at_call 38; refine C.out.mono ?_; rintro e w1 ⟨v1, rfl, hv1, hb1⟩)
  go_ret
  refine ⟨v1, rfl, ?_, ((Below.refl _ _).alloc (Nat.le_refl _) _).trans (hb1.mono (by simp))⟩
  have := hv1.mono (base' := w.heap.size) (by simp)
  simpa using this

theorem AppendUint_any (A : Option Addr) (n c v : Nat) (w : World) (xs : List UInt8) (h : RdB w A n xs) (hv : v < 18446744073709551616) (hn : n + 10 ≤ 140737488355328) :
    Calls Try.prog 22 #[.slice A n c, .int .u64 v] w fun e w' => ∃ v', e = .returned v' ∧ OwnB w' w.heap.size v' (xs ++ enc v) ∧ Below w.heap.size w w' := by
  have hl := h.len
  have hel := enc_length v
  have HE := Lib.hid hel
  have HL := Lib.hid hl
  clear hel hl
  go_enter Try.func22, Try.ntmps22
  go_wp2_with fail
  refine (form_any v w hv).mono ?_
  rintro e w1 ⟨A1, m1, c1, rfl, hm1, hm10, hmc, hr1, hb1⟩
  go_wp2_with fail
  refine (join_two w1 A n c xs A1 m1 c1 (enc v) (h.below hb1) hr1 (by have := HE.out; have := HL.out; omega)).mono ?_
  rintro e w2 ⟨v2, rfl, hv2, hb2⟩
  go_wp2
  go_ret
  exact ⟨v2, rfl, hv2.mono hb1.size, hb1.trans (hb2.mono hb1.size)⟩

set_option maxRecDepth 100000 in
set_option maxHeartbeats 1000000 in
theorem refAppendUint_any (A : Option Addr) (n c v : Nat) (w : World) (xs : List UInt8) (h : RdB w A n xs) (hv : v < 18446744073709551616) (hn : n + 10 ≤ 140737488355328) :
    Calls Try.prog 26 #[.slice A n c, .int .u64 v] w fun e w' => ∃ v', e = .returned v' ∧ OwnB w' w.heap.size v' (xs ++ enc v) ∧ Below w.heap.size w w' := by
  have HL := Lib.hid h.len
  have HV := Lib.hid hv
  go_enter Try.func26, Try.ntmps26
  go_wp2_with (go_at_call 35; refine (copy_any A n c w xs h (by omega)).mono ?_; rintro e w1 ⟨v1, rfl, hv1, hb1⟩)
  go_loopw [1, 5] (fun t o wr => ∃ (q : Nat) (pre : List UInt8), pre.length ≤ 9 ∧ Hid (enc v = pre ++ vform (9 - pre.length) q) ∧ Hid (q * 128 ^ pre.length ≤ v) ∧ t = .int .u64 q ∧ OwnB wr w.heap.size o (xs ++ pre) ∧ Below w.heap.size w wr) (fun t _ _ => (intOf t).toNat)
  case atStart => exact ⟨v, [], by simp, rfl, (by simp [Hid]), rfl, by simpa using hv1, hb1⟩
  case round =>
    obtain ⟨q, pre, hpl, HE, HQ, rfl, hown, hb⟩ := hrel
    have hq64 : q < 18446744073709551616 := by
      have h1 : 1 ≤ 128 ^ pre.length := Nat.one_le_pow _ _ (by omega)
      have h2 : q * 1 ≤ q * 128 ^ pre.length := Nat.mul_le_mul_left q h1
      have := HQ.out; have := HV.out
      omega
    have hsz := hb.size
    by_cases hlt : 128 ≤ q
    · have hp9 : pre.length < 9 := by
        rcases Nat.lt_or_ge pre.length 9 with h | h
        · exact h
        · have e9 : pre.length = 9 := by omega
          have := HQ.out
          rw [e9] at this
          have := HV.out
          omega
      obtain ⟨x, hx⟩ : ∃ x : UInt8, Hid (x = UInt8.ofNat (q % 128 + 128)) := ⟨_, rfl⟩
      have hlit : Hid ((#[.int .u8 ((q : Int) % 128 + 128)] : Array Value) = ([x].map bv).toArray) := by
        unfold Hid
        simp only [List.map_cons, List.map_nil, bv]
        rw [hx.out, u8_ofNat _ (by omega)]
        rfl
      go_wp2_with (at_builtin; refine app_u8 rfl _ _ rfl w.heap.size _ (xs ++ pre) rfl (hown.alloc _) _ 1 1 [x] rfl (RdB.lit wr _ _ hlit.out 1 rfl) ?c1 ?c2 ?_)
      case c1 => have := HL.out; simp; omega
      case c2 => simp; omega
      intro v2 w2 hv2 hb2 _
      go_wp2
      go_roundw
      case rel =>
        refine ⟨q / 128, pre ++ [x], by simp; omega, ?_, ?_, rfl, by rw [← List.append_assoc]; simpa using hv2, (below_alloc hb _).trans hb2⟩
        · have e : 9 - pre.length = (9 - (pre ++ [x]).length) + 1 := by simp; omega
          have := HE.out
          rw [e, vform, if_neg (by omega)] at this
          unfold Hid
          rw [this, hx.out]
          simp
        · have := HQ.out
          have h2 : q / 128 * 128 ^ (pre.length + 1) ≤ q * 128 ^ pre.length := by
            rw [Nat.pow_succ, Nat.mul_comm (128 ^ pre.length), ← Nat.mul_assoc]
            exact Nat.mul_le_mul_right _ (Nat.div_mul_le_self q 128)
          unfold Hid
          simp only [List.length_append, List.length_cons, List.length_nil, Nat.zero_add]
          omega
      case measure => simp [intOf]; omega
    · obtain ⟨x, hx⟩ : ∃ x : UInt8, Hid (x = UInt8.ofNat q) := ⟨_, rfl⟩
      have hlit : Hid ((#[.int .u8 (q : Int)] : Array Value) = ([x].map bv).toArray) := by
        unfold Hid
        simp only [List.map_cons, List.map_nil, bv]
        rw [hx.out, u8_ofNat _ (by omega)]
      go_wp2_with (at_builtin; refine app_u8 rfl _ _ rfl w.heap.size _ (xs ++ pre) rfl (hown.alloc _) _ 1 1 [x] rfl (RdB.lit wr _ _ hlit.out 1 rfl) ?c3 ?c4 ?_)
      case c3 => have := HL.out; simp; omega
      case c4 => simp; omega
      intro v2 w2 hv2 hb2 _
      go_wp2
      go_ret
      have e1 : vform (9 - pre.length) q = [UInt8.ofNat q] := by
        cases hk : 9 - pre.length with
        | zero => rfl
        | succ k => rw [vform, if_pos (by omega)]
      have e2 : enc v = pre ++ [UInt8.ofNat q] := by rw [HE.out, e1]
      refine ⟨v2, rfl, ?_, (below_alloc hb _).trans hb2⟩
      rw [e2, ← hx.out, ← List.append_assoc]
      simpa using hv2

theorem uintAt_of (xs : List UInt8) (k : Nat) (hk : k ≤ xs.length) (r : Nat × Nat × Nat) (h : dec 0 0 (xs.drop k) = r) : uintAt xs k = if r.2.2 = 0 then (r.1, (k : Int) + r.2.1, 0) else (0, 0, (r.2.2 : Int)) := by
  unfold uintAt
  rw [if_neg (by omega), Int.toNat_natCast, h]
theorem dec_stop9 (u : Nat) (x : UInt8) (r : List UInt8) (h : 1 < x.toNat) : dec 9 u (x :: r) = (0, 0, 11) := by
  unfold dec; rw [if_pos ⟨rfl, h⟩]
theorem dec_zero (j u : Nat) (x : UInt8) (r : List UInt8) (h : x.toNat = 0) (hj : 0 < j) : dec j u (x :: r) = (0, 0, 11) := by
  unfold dec; rw [if_neg (by omega), if_pos (by omega), if_pos ⟨h, hj⟩]
theorem dec_ok (j u : Nat) (x : UInt8) (r : List UInt8) (h : x.toNat < 128) (h9 : j = 9 → x.toNat ≤ 1) (hz : x.toNat = 0 → j = 0) : dec j u (x :: r) = (u + x.toNat % 128 * 128 ^ j, j + 1, 0) := by
  unfold dec; rw [if_neg (by rintro ⟨h1, h2⟩; have := h9 h1; omega), if_pos h, if_neg (by rintro ⟨h1, h2⟩; have := hz h1; omega)]
theorem dec_more (j u : Nat) (x : UInt8) (r : List UInt8) (h : ¬ x.toNat < 128) (h9 : j ≠ 9) : dec j u (x :: r) = dec (j + 1) (u + x.toNat % 128 * 128 ^ j) r := by
  conv => lhs; unfold dec
  rw [if_neg (by rintro ⟨h1, _⟩; exact h9 h1), if_neg h]

/-- The lower seven bits of a byte, laid behind what was read. -/
theorem orSeven (j u y : Nat) (hj : j ≤ 9) (hu : u < 128 ^ j) (hy : y < 128) (h9 : j = 9 → y ≤ 1) :
    bits .or .u64 (u : Int) (IntKind.u64.wrap ((y : Int) * 2 ^ (7 * j))) = ((u + y * 128 ^ j : Nat) : Int) ∧ u + y * 128 ^ j < 18446744073709551616 ∧ (j < 9 → u + y * 128 ^ j < 128 ^ (j + 1)) := by
  have hp : (128 : Nat) ^ j = 2 ^ (7 * j) := by rw [Nat.pow_mul]
  have hlt1 : u + y * 128 ^ j < 128 ^ (j + 1) := by
    rw [Nat.pow_succ, Nat.mul_comm (128 ^ j)]
    have : y * 128 ^ j ≤ 127 * 128 ^ j := Nat.mul_le_mul_right _ (by omega)
    omega
  have hlt : u + y * 128 ^ j < 18446744073709551616 := by
    by_cases h : j = 9
    · subst h
      have := h9 rfl
      have h2 : y * 128 ^ 9 ≤ 1 * 128 ^ 9 := Nat.mul_le_mul_right _ this
      omega
    · have h2 : 128 ^ (j + 1) ≤ 128 ^ 9 := Nat.pow_le_pow_right (by omega) (by omega)
      omega
  refine ⟨?_, hlt, fun _ => hlt1⟩
  have e : IntKind.u64.wrap ((y : Int) * 2 ^ (7 * j)) = ((y * 128 ^ j : Nat) : Int) := by
    have e1 : ((y : Int) * 2 ^ (7 * j)) = ((y * 128 ^ j : Nat) : Int) := by rw [hp]; push_cast; rfl
    rw [e1]
    have e2 : ∀ x, IntKind.u64.wrap x = x % 18446744073709551616 := fun x => by simp [IntKind.wrap, IntKind.bits, IntKind.signed]
    rw [e2]
    omega
  rw [e, u64_or_nat u (y * 128 ^ j) (by omega) (by omega), Nat.or_comm, hp, nat_join (7 * j) _ u (Nat.mul_mod_left _ _) (by rw [← hp]; exact hu), Nat.add_comm]

theorem Uint_range (A : Option Addr) (n c : Nat) (p : Int) (w : World) (xs : List UInt8) (h : RdB w A n xs) (hm : n ≤ 140737488355328) (hp : p < 0 ∨ (n : Int) < p) :
    Calls Try.prog 37 #[.slice A n c, .int .i64 p] w fun e w' => e = .returned (.tuple #[.int .u64 (uintAt xs p).1, .int .i64 (uintAt xs p).2.1, .int .i64 (uintAt xs p).2.2]) ∧ w = w' := by
  have e : uintAt xs p = (0, 0, 2) := by unfold uintAt; rw [h.len, if_pos hp]
  rw [e]
  rcases hp with hp | hp
  · go_enter Try.func37, Try.ntmps37
    go_wp2
    go_ret3
    exact ⟨rfl, rfl⟩
  · have hp0 : ¬ p < 0 := by omega
    go_enter Try.func37, Try.ntmps37
    go_wp2
    go_ret3
    exact ⟨rfl, rfl⟩

set_option maxRecDepth 100000 in
set_option maxHeartbeats 2000000 in
theorem Uint_in (A : Option Addr) (n c k : Nat) (w : World) (xs : List UInt8) (h : RdB w A n xs) (hc : n ≤ c) (hm : n ≤ 140737488355328) (hk : k ≤ n) :
    Calls Try.prog 37 #[.slice A n c, .int .i64 k] w fun e w' => e = .returned (.tuple #[.int .u64 (uintAt xs k).1, .int .i64 (uintAt xs k).2.1, .int .i64 (uintAt xs k).2.2]) ∧ w = w' := by
  have HL := Lib.hid h.len
  have HU := Lib.hid (uintAt_of xs k (by rw [h.len]; exact hk))
  generalize uintAt xs k = res at HU ⊢
  obtain ⟨A1, s1, r1⟩ := cut_l h c hc k hk k rfl
  go_enter Try.func37, Try.ntmps37
  go_wp2
  go_loop [7, 22] (fun t i => ∃ (j u : Nat), j ≤ n - k ∧ j ≤ 9 ∧ u < 128 ^ j ∧ Hid (dec 0 0 (xs.drop k) = dec j u (xs.drop (k + j))) ∧ t = .int .u64 u ∧ i = .int .i64 j) (fun _ i => n - k - (intOf i).toNat)
  case atStart => exact ⟨0, 0, by omega, by omega, by simp, by simp [Hid], rfl, rfl⟩
  case round =>
    obtain ⟨j, u, hj, hj9, hu, HD, rfl, rfl⟩ := hrel
    by_cases hlt : j < n - k
    · have hjx : k + j < xs.length := by have := HL.out; omega
      obtain ⟨b, off, rfl⟩ := r1.addr (by omega)
      have hcx := r1.cells j (by rw [List.length_drop]; omega)
      rw [List.getElem_drop] at hcx
      have Hd := Lib.hid (List.drop_eq_getElem_cons hjx)
      generalize xs[k + j] = x at hcx Hd
      have hx : x.toNat < 256 := x.toNat_lt
      have HDx : Hid (dec 0 0 (xs.drop k) = dec j u (x :: xs.drop (k + j + 1))) := by have := HD.out; rw [Hd.out] at this; exact this
      obtain ⟨y, hy, HY⟩ : ∃ y : Nat, y < 128 ∧ Hid (y = x.toNat % 128) := ⟨_, Nat.mod_lt _ (by decide), rfl⟩
      have hand : bits .and .u8 (x.toNat : Int) 127 = (y : Int) := by
        have h1 := u8_and_nat x.toNat 127 hx (by omega)
        rw [nat_mask7, ← HY.out] at h1
        exact h1
      by_cases hA : j = 9 ∧ 1 < x.toNat
      · obtain ⟨h9, h1⟩ := hA
        have R : Hid (res = (0, 0, 11)) := by
          have := HU.out _ HDx.out
          rw [h9, dec_stop9 _ _ _ h1] at this
          exact this
        have h9' : ((j : Int) == 9) = true := by rw [beq_iff_eq]; omega
        have h9'' : 9 ≤ j := by omega
        clear h9
        go_wp2
        go_ret3
        exact ⟨by rw [R.out]; rfl, rfl⟩
      · have hor := orSeven j u y hj9 hu hy (fun h => by have := HY.out; omega)
        obtain ⟨t, ht⟩ : ∃ t : Nat, Hid (t = u + y * 128 ^ j) := ⟨_, rfl⟩
        have hor1 := hor.1
        rw [← ht.out] at hor1
        have hor2 := hor.2.1
        rw [← ht.out] at hor2
        have Hor3 := Lib.hid hor.2.2
        clear hor
        have Hres : Hid (x.toNat < 128 → (x.toNat = 0 → j = 0) → res = (t, (k : Int) + (j + 1 : Nat), 0)) := fun h1 h2 => by
          have := HU.out _ HDx.out
          rw [dec_ok j u x _ h1 (fun h => by omega) h2] at this
          rw [this, ht.out, HY.out]
          rfl
        have Hres0 : Hid (x.toNat = 0 → 0 < j → res = (0, 0, 11)) := fun h1 h2 => by
          have := HU.out _ HDx.out
          rw [dec_zero j u x _ h1 h2] at this
          exact this
        by_cases hs : x.toNat < 128
        · by_cases h9 : j = 9
          · have hx1 : x.toNat ≤ 1 := by omega
            have h9' : ((j : Int) == 9) = true := by rw [beq_iff_eq]; omega
            have h9'' : 9 ≤ j := by omega
            clear h9 hA
            by_cases hz : x.toNat = 0
            · have hz' : ((x.toNat : Int) == 0) = true := by rw [beq_iff_eq]; omega
              have HZ := Lib.hid hz
              clear hz
              go_wp2
              go_ret3
              exact ⟨by rw [Hres0.out HZ.out (by omega)]; rfl, rfl⟩
            · have hz' : ((x.toNat : Int) == 0) = false := by rw [beq_eq_false_iff_ne]; omega
              have HZ := Lib.hid hz
              clear hz
              go_wp2
              go_ret3
              exact ⟨by rw [Hres.out hs (fun h => absurd h HZ.out)]; simp; omega, rfl⟩
          · have h9' : ((j : Int) == 9) = false := by rw [beq_eq_false_iff_ne]; omega
            clear hA
            by_cases hz : x.toNat = 0
            · have hz' : ((x.toNat : Int) == 0) = true := by rw [beq_iff_eq]; omega
              have HZ := Lib.hid hz
              clear hz
              by_cases hj0 : 0 < j
              · go_wp2
                go_ret3
                exact ⟨by rw [Hres0.out HZ.out (by omega)]; rfl, rfl⟩
              · go_wp2
                go_ret3
                exact ⟨by rw [Hres.out hs (fun h => by omega)]; simp; omega, rfl⟩
            · have hz' : ((x.toNat : Int) == 0) = false := by rw [beq_eq_false_iff_ne]; omega
              have HZ := Lib.hid hz
              clear hz
              go_wp2
              go_ret3
              exact ⟨by rw [Hres.out hs (fun h => absurd h HZ.out)]; simp; omega, rfl⟩
        · have h9 : j < 9 := by omega
          have h9' : ((j : Int) == 9) = false := by rw [beq_eq_false_iff_ne]; omega
          clear hA
          go_wp2
          go_round
          case rel =>
            refine ⟨j + 1, t, by omega, by omega, by rw [ht.out]; exact Hor3.out h9, ?_, rfl, by go_num⟩
            have := HDx.out
            rw [dec_more j u x _ hs (by omega), ← HY.out, ← ht.out] at this
            exact this
          case measure => simp [intOf]; omega
    · have hjx : k + j = xs.length := by have := HL.out; omega
      have R : Hid (res = (0, 0, 10)) := by
        have := HU.out _ HD.out
        rw [List.drop_of_length_le (by omega)] at this
        exact this
      clear hjx
      go_wp2
      go_ret3
      exact ⟨by rw [R.out]; rfl, rfl⟩
theorem refUint_range (A : Option Addr) (n c : Nat) (p : Int) (w : World) (xs : List UInt8) (h : RdB w A n xs) (hm : n ≤ 140737488355328) (hp : p < 0 ∨ (n : Int) < p) :
    Calls Try.prog 30 #[.slice A n c, .int .i64 p] w fun e w' => e = .returned (.tuple #[.int .u64 (uintAt xs p).1, .int .i64 (uintAt xs p).2.1, .int .i64 (uintAt xs p).2.2]) ∧ w = w' := by
  have e : uintAt xs p = (0, 0, 2) := by unfold uintAt; rw [h.len, if_pos hp]
  rw [e]
  rcases hp with hp | hp
  · go_enter Try.func30, Try.ntmps30
    go_wp2
    go_ret3
    exact ⟨rfl, rfl⟩
  · have hp0 : ¬ p < 0 := by omega
    go_enter Try.func30, Try.ntmps30
    go_wp2
    go_ret3
    exact ⟨rfl, rfl⟩

set_option maxRecDepth 100000 in
set_option maxHeartbeats 2000000 in
theorem refUint_in (A : Option Addr) (n c k : Nat) (w : World) (xs : List UInt8) (h : RdB w A n xs) (hc : n ≤ c) (hm : n ≤ 140737488355328) (hk : k ≤ n) :
    Calls Try.prog 30 #[.slice A n c, .int .i64 k] w fun e w' => e = .returned (.tuple #[.int .u64 (uintAt xs k).1, .int .i64 (uintAt xs k).2.1, .int .i64 (uintAt xs k).2.2]) ∧ w = w' := by
  have HL := Lib.hid h.len
  have HU := Lib.hid (uintAt_of xs k (by rw [h.len]; exact hk))
  generalize uintAt xs k = res at HU ⊢
  go_enter Try.func30, Try.ntmps30
  go_wp2
  go_loop [7, 8, 9] (fun t q i => ∃ (j u z : Nat), j ≤ n - k ∧ j ≤ 9 ∧ u < 128 ^ j ∧ Hid (dec 0 0 (xs.drop k) = dec j u (xs.drop (k + j))) ∧ Hid (z = 128 ^ j) ∧ t = .int .u64 u ∧ q = .int .u64 z ∧ i = .int .i64 j) (fun _ _ i => 10 - (intOf i).toNat)
  case atStart => exact ⟨0, 0, 1, by omega, by omega, by simp, by simp [Hid], by simp [Hid], rfl, rfl, rfl⟩
  case round =>
    obtain ⟨j, u, z, hj, hj9, hu, HD, HZ9, rfl, rfl, rfl⟩ := hrel
    have hj10 : j < 10 := by omega
    by_cases hlt : j < n - k
    · have hjx : k + j < xs.length := by have := HL.out; omega
      obtain ⟨b, off, rfl⟩ := h.addr (by omega)
      have hcx := h.cells (k + j) hjx
      have Hd := Lib.hid (List.drop_eq_getElem_cons hjx)
      generalize xs[k + j] = x at hcx Hd
      have hx : x.toNat < 256 := x.toNat_lt
      have HDx : Hid (dec 0 0 (xs.drop k) = dec j u (x :: xs.drop (k + j + 1))) := by have := HD.out; rw [Hd.out] at this; exact this
      by_cases hA : j = 9 ∧ 1 < x.toNat
      · obtain ⟨h9, h1⟩ := hA
        have R : Hid (res = (0, 0, 11)) := by
          have := HU.out _ HDx.out
          rw [h9, dec_stop9 _ _ _ h1] at this
          exact this
        have h9' : ((j : Int) == 9) = true := by rw [beq_iff_eq]; omega
        have h9'' : 9 ≤ j := by omega
        clear h9
        go_wp2
        go_ret3
        exact ⟨by rw [R.out]; rfl, rfl⟩
      · have hor := orSeven j u (x.toNat % 128) hj9 hu (Nat.mod_lt _ (by decide)) (fun h => by omega)
        obtain ⟨t, ht⟩ : ∃ t : Nat, Hid (t = x.toNat % 128 * 128 ^ j) := ⟨_, rfl⟩
        have hor2 := hor.2.1
        rw [← ht.out] at hor2
        have Hor3 := Lib.hid hor.2.2
        have hmul : IntKind.u64.wrap ((x.toNat : Int) % 128 * (z : Int)) = (t : Int) := by
          have e1 : ((x.toNat : Int) % 128 * (z : Int)) = ((x.toNat % 128 * z : Nat) : Int) := by push_cast; rfl
          rw [e1, HZ9.out, ← ht.out]
          have e2 : ∀ x, IntKind.u64.wrap x = x % 18446744073709551616 := fun x => by simp [IntKind.wrap, IntKind.bits, IntKind.signed]
          rw [e2]
          omega
        clear hor
        have Hres : Hid (x.toNat < 128 → (x.toNat = 0 → j = 0) → res = (u + t, (k : Int) + (j + 1 : Nat), 0)) := fun h1 h2 => by
          have := HU.out _ HDx.out
          rw [dec_ok j u x _ h1 (fun h => by omega) h2] at this
          rw [this, ht.out]
          rfl
        have Hres0 : Hid (x.toNat = 0 → 0 < j → res = (0, 0, 11)) := fun h1 h2 => by
          have := HU.out _ HDx.out
          rw [dec_zero j u x _ h1 h2] at this
          exact this
        have hz64 : z ≤ 9223372036854775808 := by
          rw [HZ9.out]
          exact Nat.le_trans (Nat.pow_le_pow_right (by omega) hj9) (by decide)
        by_cases hs : x.toNat < 128
        · by_cases h9 : j = 9
          · have hx1 : x.toNat ≤ 1 := by omega
            have h9' : ((j : Int) == 9) = true := by rw [beq_iff_eq]; omega
            have h9'' : 9 ≤ j := by omega
            clear h9 hA
            by_cases hz : x.toNat = 0
            · have hz' : ((x.toNat : Int) == 0) = true := by rw [beq_iff_eq]; omega
              have HZ := Lib.hid hz
              clear hz
              go_wp2
              go_ret3
              exact ⟨by rw [Hres0.out HZ.out (by omega)]; rfl, rfl⟩
            · have hz' : ((x.toNat : Int) == 0) = false := by rw [beq_eq_false_iff_ne]; omega
              have HZ := Lib.hid hz
              clear hz
              go_wp2
              go_ret3
              exact ⟨by rw [Hres.out hs (fun h => absurd h HZ.out)]; simp; omega, rfl⟩
          · have h9' : ((j : Int) == 9) = false := by rw [beq_eq_false_iff_ne]; omega
            clear hA
            by_cases hz : x.toNat = 0
            · have hz' : ((x.toNat : Int) == 0) = true := by rw [beq_iff_eq]; omega
              have HZ := Lib.hid hz
              clear hz
              by_cases hj0 : 0 < j
              · go_wp2
                go_ret3
                exact ⟨by rw [Hres0.out HZ.out (by omega)]; rfl, rfl⟩
              · go_wp2
                go_ret3
                exact ⟨by rw [Hres.out hs (fun h => by omega)]; simp; omega, rfl⟩
            · have hz' : ((x.toNat : Int) == 0) = false := by rw [beq_eq_false_iff_ne]; omega
              have HZ := Lib.hid hz
              clear hz
              go_wp2
              go_ret3
              exact ⟨by rw [Hres.out hs (fun h => absurd h HZ.out)]; simp; omega, rfl⟩
        · have h9 : j < 9 := by omega
          have h9' : ((j : Int) == 9) = false := by rw [beq_eq_false_iff_ne]; omega
          have hz56 : z ≤ 72057594037927936 := by
            rw [HZ9.out]
            exact Nat.le_trans (Nat.pow_le_pow_right (by omega) (show j ≤ 8 by omega)) (by decide)
          clear hA
          go_wp2
          go_round
          case rel =>
            refine ⟨j + 1, u + t, z * 128, by omega, by omega, by rw [ht.out]; exact Hor3.out h9, ?_, ?_, by go_num, by go_num, by go_num⟩
            · have := HDx.out
              rw [dec_more j u x _ hs (by omega), ← ht.out] at this
              exact this
            · unfold Hid; rw [HZ9.out, Nat.pow_succ]
          case measure => simp [intOf]; omega
    · have hjx : k + j = xs.length := by have := HL.out; omega
      have R : Hid (res = (0, 0, 10)) := by
        have := HU.out _ HD.out
        rw [List.drop_of_length_le (by omega)] at this
        exact this
      clear hjx
      go_wp2
      go_ret3
      exact ⟨by rw [R.out]; rfl, rfl⟩

theorem Uint_any (A : Option Addr) (n c : Nat) (p : Int) (w : World) (xs : List UInt8) (h : RdB w A n xs) (hc : n ≤ c) (hm : n ≤ 140737488355328) :
    Calls Try.prog 37 #[.slice A n c, .int .i64 p] w fun e w' => e = .returned (.tuple #[.int .u64 (uintAt xs p).1, .int .i64 (uintAt xs p).2.1, .int .i64 (uintAt xs p).2.2]) ∧ w = w' := by
  by_cases hp : p < 0 ∨ (n : Int) < p
  · exact Uint_range A n c p w xs h hm hp
  · obtain ⟨k, rfl⟩ := Int.eq_ofNat_of_zero_le (show 0 ≤ p by omega)
    exact Uint_in A n c k w xs h hc hm (by omega)
theorem refUint_any (A : Option Addr) (n c : Nat) (p : Int) (w : World) (xs : List UInt8) (h : RdB w A n xs) (hc : n ≤ c) (hm : n ≤ 140737488355328) :
    Calls Try.prog 30 #[.slice A n c, .int .i64 p] w fun e w' => e = .returned (.tuple #[.int .u64 (uintAt xs p).1, .int .i64 (uintAt xs p).2.1, .int .i64 (uintAt xs p).2.2]) ∧ w = w' := by
  by_cases hp : p < 0 ∨ (n : Int) < p
  · exact refUint_range A n c p w xs h hm hp
  · obtain ⟨k, rfl⟩ := Int.eq_ofNat_of_zero_le (show 0 ≤ p by omega)
    exact refUint_in A n c k w xs h hc hm (by omega)

/-! ### What a number that was read is -/
theorem dec_bounds (r : List UInt8) : ∀ (i u : Nat), i ≤ 9 → u < 128 ^ i → (dec i u r).2.2 = 0 → (dec i u r).1 < 18446744073709551616 ∧ i < (dec i u r).2.1 ∧ (dec i u r).2.1 ≤ i + r.length := by
  intro i u hi hu h
  obtain ⟨q, e1, _, e3, e4, _, _, e7, e8⟩ := vform_dec r i u (dec i u r).1 (dec i u r).2.1 hi hu (by rw [← h])
  refine ⟨?_, e3, e4⟩
  rw [e1]
  by_cases h9 : i = 9
  · subst h9
    have := e7 rfl
    have h2 : q * 128 ^ 9 ≤ 1 * 128 ^ 9 := Nat.mul_le_mul_right _ (by omega)
    omega
  · have h1 : q + 1 ≤ 128 ^ (9 - i) * 2 := e8
    have h2 : (q + 1) * 128 ^ i ≤ 128 ^ (9 - i) * 2 * 128 ^ i := Nat.mul_le_mul_right _ h1
    have h3 : 128 ^ (9 - i) * 2 * 128 ^ i = 128 ^ 9 * 2 := by
      rw [Nat.mul_right_comm, ← Nat.pow_add]
      congr 2
      omega
    rw [h3, Nat.add_mul] at h2
    omega
/-- The number fits, the place behind it is in the bytes; where nothing is read both are nought. -/
theorem uintAt_bounds (xs : List UInt8) (p : Int) : (uintAt xs p).1 < 18446744073709551616 ∧ ((uintAt xs p).2.2 = 0 → p < (uintAt xs p).2.1 ∧ 0 ≤ p ∧ (uintAt xs p).2.1 ≤ xs.length) ∧ ((uintAt xs p).2.2 ≠ 0 → (uintAt xs p).1 = 0 ∧ (uintAt xs p).2.1 = 0) ∧ 0 ≤ (uintAt xs p).2.2 ∧ (uintAt xs p).2.2 ≤ 11 := by
  unfold uintAt
  split
  · simp
  · rename_i hp
    obtain ⟨k, rfl⟩ := Int.eq_ofNat_of_zero_le (show 0 ≤ p by omega)
    simp only [Int.toNat_natCast]
    split
    · rename_i he
      have := dec_bounds (xs.drop k) 0 0 (by omega) (by simp) he
      rw [List.length_drop] at this
      refine ⟨this.1, fun _ => ⟨by simp; omega, by omega, by simp; omega⟩, fun h => absurd rfl h, by simp, by simp⟩
    · rename_i he
      have hle : ∀ (r : List UInt8) (i u : Nat), (dec i u r).2.2 ≤ 11 := by
        intro r
        induction r with
        | nil => intro i u; simp [dec]
        | cons x r ih =>
          intro i u
          unfold dec
          split
          · simp
          · split
            · split <;> simp
            · exact ih _ _
      refine ⟨by simp, fun h => ?_, fun _ => ⟨rfl, rfl⟩, by simp, by simp; exact_mod_cast hle _ _ _⟩
      simp only at h
      omega

end Go.Proofs.Ythaciglechijkaa
