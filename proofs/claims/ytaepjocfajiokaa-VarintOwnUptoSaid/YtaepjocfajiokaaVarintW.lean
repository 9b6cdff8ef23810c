/-
  Contracts of the functions of layer 4 (varint) and of its reference: how numbers are written.
-/
import Derived.Test.YtaepjocfajiokaaBytes
import Derived.Test.YtaepjocfajiokaaVarintP
import Derived.Lib.AppendZerosOnto
namespace Go.Proofs.Ytaepjocfajiokaa
open Go.RowKit
set_option linter.unusedVariables false

/-- A piece: where it lies, its length and capacity, its bytes. -/
structure Piece where
  A : Option Addr
  n : Nat
  c : Nat
  xs : List UInt8

theorem orTop (q : Nat) : bits .or .u8 ((q : Int) % 256) 128 = ((q % 128 + 128 : Nat) : Int) := by
  have h := u8_or_nat (q % 256) 128 (Nat.mod_lt _ (by decide)) (by omega)
  have h2 : (q % 256) ||| 128 = q % 128 + 128 := by
    have e : q % 256 = q % 256 / 128 * 128 + q % 128 := by omega
    by_cases hb : q % 256 / 128 = 0
    · have e2 : q % 256 = q % 128 := by omega
      rw [e2, Nat.or_comm, nat_join 7 128 (q % 128) (by decide) (by omega)]
      omega
    · have hb1 : q % 256 / 128 = 1 := by omega
      have e2 : q % 256 = 128 + q % 128 := by omega
      rw [e2, ← nat_join 7 128 (q % 128) (by decide) (by omega), Nat.or_assoc, Nat.or_comm (q % 128), ← Nat.or_assoc, Nat.or_self, nat_join 7 128 (q % 128) (by decide) (by omega)]
      omega
  rw [h2] at h
  exact h

def zten : Array Value := (List.replicate 10 (Value.int .u8 0)).toArray
theorem zero10 (w : World) : (zeroValue 51).run Try.prog w = .ok (.agg zten) w := by kernel_rfl
/-- The array that is filled: these bytes, then zeros. -/
def tenOf (pre : List UInt8) : Array Value := (pre.map bv ++ List.replicate (10 - pre.length) (Value.int .u8 0)).toArray
theorem tenOf_size (pre : List UInt8) (h : pre.length ≤ 10) : (tenOf pre).size = 10 := by simp [tenOf]; omega
theorem tenOf_set (pre : List UInt8) (h : pre.length < 10) (x : UInt8) : (tenOf pre).setIfInBounds pre.length (bv x) = tenOf (pre ++ [x]) := by
  unfold tenOf
  have e : 10 - pre.length = (10 - (pre ++ [x]).length) + 1 := by simp; omega
  rw [List.setIfInBounds_toArray, e, List.replicate_succ]
  congr 1
  rw [List.set_append]
  simp

set_option maxRecDepth 100000 in
set_option maxHeartbeats 1000000 in
theorem form_any (v : Nat) (w : World) (hv : v < 18446744073709551616) :
    Calls Try.prog 24 #[.int .u64 v] w fun e w' => ∃ A m c, e = .returned (.slice A m c) ∧ Hid ((enc v).length = m) ∧ m ≤ 10 ∧ m ≤ c ∧ RdB w' A m (enc v) ∧ Below w.heap.size w w' := by
  have hz := zero10
  have HV := Lib.hid hv
  go_enter Try.func24, Try.ntmps24
  go_wp2
  go_loopw [0, 4] (fun t i wr => ∃ (q : Nat) (pre : List UInt8), pre.length ≤ 9 ∧ enc v = pre ++ vform (9 - pre.length) q ∧ q * 128 ^ pre.length ≤ v ∧ t = .int .u64 q ∧ i = .int .i64 (pre.length : Nat) ∧ wr.heap[w.heap.size]? = some (.cells (tenOf pre) 51 (0, 0)) ∧ Below w.heap.size w wr) (fun t _ _ => (intOf t).toNat)
  case atStart => 
    exact ⟨v, [], by simp, rfl, by simp, rfl, rfl, heap_alloc_new w _, (Below.refl _ _).alloc (Nat.le_refl _) _⟩
  case round =>
    obtain ⟨q, pre, hpl, henc, hq, rfl, rfl, hh, hb⟩ := hrel
    have HE := Lib.hid henc
    have HQ := Lib.hid hq
    have HH := Lib.hid hh
    have hq64 : q < 18446744073709551616 := by
      have h1 : 1 ≤ 128 ^ pre.length := Nat.one_le_pow _ _ (by omega)
      have h2 : q * 1 ≤ q * 128 ^ pre.length := Nat.mul_le_mul_left q h1
      have := HV.out
      omega
    have hc : ∃ u, wr.cell? ⟨w.heap.size, pre.length, none⟩ = some u := by
      rw [cell_of_row _ _ _ _ _ _ hh]
      exact ⟨_, Array.getElem?_eq_getElem (by rw [tenOf_size _ (by omega)]; omega)⟩
    obtain ⟨u, hc⟩ := hc
    have hf : wr.frozen? ⟨w.heap.size, pre.length, none⟩ = false := frozen_of_row _ _ _ _ _ hh
    clear henc hq hh
    by_cases hlt : 127 < q
    · have hp9 : pre.length < 9 := by
        rcases Nat.lt_or_ge pre.length 9 with h | h
        · exact h
        · have e9 : pre.length = 9 := by omega
          have := HQ.out
          rw [e9] at this
          have := HV.out
          omega
      have hor := orTop q
      go_wp2
      go_roundw
      case rel =>
        refine ⟨q / 128, pre ++ [UInt8.ofNat (q % 128 + 128)], by simp; omega, ?_, ?_, rfl, by simp, ?_, hb.setCell (Nat.le_refl _) _⟩
        · have e : 9 - pre.length = (9 - (pre ++ [UInt8.ofNat (q % 128 + 128)]).length) + 1 := by simp; omega
          have := HE.out
          rw [e, vform, if_neg (by omega)] at this
          rw [this]
          simp
        · have := HQ.out
          have h2 : q / 128 * 128 ^ (pre.length + 1) ≤ q * 128 ^ pre.length := by
            rw [Nat.pow_succ, Nat.mul_comm (128 ^ pre.length), ← Nat.mul_assoc]
            exact Nat.mul_le_mul_right _ (Nat.div_mul_le_self q 128)
          simp only [List.length_append, List.length_cons, List.length_nil, Nat.zero_add]
          omega
        · rw [heap_setCell_same _ _ _ _ _ _ HH.out, ← tenOf_set pre (by omega)]
          have e : bv (UInt8.ofNat (q % 128 + 128)) = .int .u8 ((q : Int) % 128 + 128) := by
            unfold bv; rw [u8_ofNat _ (by omega)]; rfl
          rw [e]
      case measure => simp [intOf]; omega
    · have hsl : ∀ W, (Instr.sliceAt 51 (.pointer (some ⟨w.heap.size, 0, none⟩)) none (some (.int .i64 ((pre.length : Int) + 1))) none).run Try.prog W = .ok (.slice (some ⟨w.heap.size, 0, none⟩) (pre.length + 1) 10) W := fun W => by
        have hlen : Try.prog.arrayLen 51 = 10 := by kernel_rfl
        rw [run_sliceAt_array_h W 51 _ (by kernel_rfl) .i64 _ (by omega) (by rw [hlen]; omega), hlen, show (sizeOf (Try.prog.elem 51)).run Try.prog W = .ok 1 W from by kernel_rfl]
        simp [Result.andThen, slicedAt, add_plain]
      go_wp2
      go_ret
      have e1 : vform (9 - pre.length) q = [UInt8.ofNat q] := by
        cases hk : 9 - pre.length with
        | zero => rfl
        | succ k => rw [vform, if_pos (by omega)]
      have e2 : enc v = pre ++ [UInt8.ofNat q] := by rw [HE.out, e1]
      refine ⟨_, _, _, rfl, by rw [e2]; simp [Hid], by omega, by omega, ?_, hb.setCell (Nat.le_refl _) _⟩
      have hh : (wr.setCell ⟨w.heap.size, pre.length, none⟩ (.int .u8 q)).heap[w.heap.size]? = some (.cells (tenOf (enc v)) 51 (0, 0)) := by
        rw [heap_setCell_same _ _ _ _ _ _ HH.out, e2, ← tenOf_set pre (by omega)]
        have e : bv (UInt8.ofNat q) = .int .u8 (q : Int) := by unfold bv; rw [u8_ofNat _ (by omega)]
        rw [e]
      refine RdB.mk (by rw [e2]; simp) fun j hj => ?_
      rw [cell_of_row _ _ _ _ _ _ hh]
      rw [Nat.zero_add, tenOf, List.getElem?_toArray, List.getElem?_append_left (by simpa using hj), List.getElem?_map, List.getElem?_eq_getElem hj]
      rfl

/-! ### Copies and comparisons -/
theorem own_any (A : Option Addr) (n c : Nat) (w : World) (xs : List UInt8) (h : RdB w A n xs) (hn : n ≤ 140737488355328) :
    Calls Try.prog 10 #[.slice A n c] w fun e w' => ∃ v, e = .returned v ∧ OwnB w' w.heap.size v xs ∧ Below w.heap.size w w' := by
  have hl := h.len
  go_enter Try.func10, Try.ntmps10
  go_wp2_with (at_builtin; refine app_u8 rfl _ _ rfl w.heap.size _ [] rfl (OwnB.empty w (Nat.le_refl _)) A n c xs rfl (h.alloc _) ?c1 ?c2 ?_)
  case c1 => simp; omega
  case c2 => simp
  intro v w1 hv hb _
  go_wp2
  go_ret
  exact ⟨v, rfl, hv, ((Below.refl _ _).alloc (Nat.le_refl _) _).trans hb⟩
theorem copy_any (A : Option Addr) (n c : Nat) (w : World) (xs : List UInt8) (h : RdB w A n xs) (hn : n ≤ 140737488355328) :
    Calls Try.prog 25 #[.slice A n c] w fun e w' => ∃ v, e = .returned v ∧ OwnB w' w.heap.size v xs ∧ Below w.heap.size w w' := by
  have hl := h.len
  go_enter Try.func25, Try.ntmps25
  go_wp2_with (at_builtin; refine app_u8 rfl _ _ rfl w.heap.size _ [] rfl (OwnB.empty w (Nat.le_refl _)) A n c xs rfl (h.alloc _) ?c1 ?c2 ?_)
  case c1 => simp; omega
  case c2 => simp
  intro v w1 hv hb _
  go_wp2
  go_ret
  exact ⟨v, rfl, hv, ((Below.refl _ _).alloc (Nat.le_refl _) _).trans hb⟩
theorem same_any (A : Option Addr) (n c : Nat) (xs : List UInt8) (A' : Option Addr) (n' c' : Nat) (ys : List UInt8) (w : World) (h : RdB w A n xs) (h' : RdB w A' n' ys) :
    Calls Try.prog 11 #[.slice A n c, .slice A' n' c'] w fun e w' => e = .returned (.bool (decide (xs = ys))) ∧ w = w' := by
  have k1 := h.conv (P := Try.prog) (src := 22) (dst := 9) Try.underlying22 Try.underlying5 Try.underlying9 c
  have k2 := h'.conv (P := Try.prog) (src := 22) (dst := 9) Try.underlying22 Try.underlying5 Try.underlying9 c'
  go_enter Try.func11, Try.ntmps11
  go_wp2
  go_ret
  exact ⟨ret_bool (by by_cases h : xs = ys <;> simp [h]), rfl⟩
theorem clone_any (A : Option Addr) (n c : Nat) (w : World) (xs : List UInt8) (h : RdB w A n xs) (hn : n ≤ 140737488355328) :
    Calls Try.prog 26 #[.slice A n c] w fun e w' => ∃ v, e = .returned v ∧ OwnB w' w.heap.size v xs ∧ Below w.heap.size w w' := by
  have hl := h.len
  cases A with
  | none =>
    have qn := fun (w : World) (a : Option Addr) (n c n' c' : Nat) => Lib.run_eql_slice_nil (P := Try.prog) w 22 5 a n c n' c' Try.underlying22
    go_enter Try.func26, Try.ntmps26
    go_wp2
    go_ret
    obtain rfl : n = 0 := by
      rcases Nat.eq_zero_or_pos n with h0 | h0
      · exact h0
      · obtain ⟨b, off, e⟩ := h.addr h0; cases e
    obtain rfl : xs = [] := List.eq_nil_of_length_eq_zero hl
    exact ⟨_, rfl, OwnB.nil _ _, Below.refl _ _⟩
  | some a =>
    have qn := fun (w : World) (a : Option Addr) (n c n' c' : Nat) => Lib.run_eql_slice_nil (P := Try.prog) w 22 5 a n c n' c' Try.underlying22
    go_enter Try.func26, Try.ntmps26
    go_wp2_with (at_builtin; refine app_u8 rfl _ _ rfl w.heap.size _ [] rfl (OwnB.empty w (Nat.le_refl _)) (some a) n c xs rfl (h.alloc _) ?c1 ?c2 ?_)
    case c1 => simp; omega
    case c2 => simp
    intro v w1 hv hb _
    go_wp2
    go_ret
    exact ⟨v, rfl, hv, ((Below.refl _ _).alloc (Nat.le_refl _) _).trans hb⟩

/-! ### slices.Grow of nil, slices.Concat -/
theorem run_zeros (w : World) (n : Nat) (h0 : 0 < n) (hn : n ≤ 140737488355328) :
    (Builtin.append_ #[22, 3] 22 #[.slice none 0 0, .int .i64 n]).run Try.prog w =
      .ok (.slice (some ⟨w.heap.size, 0, none⟩) n (grownCap w n 0 5)) (w.drew.alloc (.cells (Builtin.zeroCells #[.int .u8 0] n ++ Builtin.zeroCells #[.int .u8 0] (grownCap w n 0 5 - n)) 5)) := by
  obtain ⟨i0, hi, hz0, hz1, hz2⟩ := info_parts infoU8
  have h := Lib.run_append_grow_zeros (P := Try.prog) w 22 3 22 5 i0 (.int .u8 0) .i64 .i64 Try.underlying22 Try.underlying3 hi hz0 none 0 0 [] (by simp [Builtin.firstCells]) n h0 (by omega) (by omega) (by omega) (by rw [hz2]; omega)
    (by rw [hz2, Nat.zero_add, Builtin.nextslicecap]; split <;> omega)
  simp only [Nat.zero_add] at h
  rw [h]
  simp [Value.cells]

theorem app_zeros {ops : Array Oper} {rest : List Oper} {o : Oper} {a : Act} {Q : Exit → Act → World → Prop} {w : World} (hgd : o.guard = none) (s x : Operand)
    (ho : o.op = .call { callee := .builtin .append, args := #[s, x], argTypes := #[22, 3] }) (hty : o.type = 22)
    (n : Nat) (hs : a.eval s = .slice none 0 0) (hx : a.eval x = .int .i64 n) (h0 : 0 < n) (hn : n ≤ 140737488355328)
    (h : ∀ cap w', n ≤ cap → OwnB w' w.heap.size (.slice (some ⟨w.heap.size, 0, none⟩) 0 cap) [] → Below w.heap.size w w' → wpList Try.prog ops Q rest (a.put o.dst (.slice (some ⟨w.heap.size, 0, none⟩) n cap)) w') : wpList Try.prog ops Q (o :: rest) a w := by
  refine wpList_plain hgd fun K hK => ?_
  have hz := run_zeros w n h0 hn
  have hcap := grownCap_ge w n 0 5
  have hcap2 := grownCap_le_maxLen w n 0 5 (by unfold maxLen; omega)
  unfold Oper.wp execOp
  simp only [ho, hty, resolve, invoke, builtin, Sem.run_bind, Sem.run_pure, Result.andThen_ok, List.map_toArray, List.map_cons, List.map_nil, hs, hx, hz]
  refine hK _ _ (h _ _ hcap ?_ ((Below.refl w.heap.size w).drew.alloc (Nat.le_refl _) _))
  exact World.ownsRow_made (base := w.heap.size) (e := 5) (size := 1) w.drew _ _ (Nat.le_refl _) hcap2 (by simp [size_zeroCells]; omega)

theorem grow_any (n : Nat) (w : World) (hn : n ≤ 140737488355328) :
    Calls Try.prog 28 #[.slice none 0 0, .int .i64 n] w fun e w' => ∃ v, e = .returned v ∧ OwnB w' w.heap.size v [] ∧ Below w.heap.size w w' := by
  rcases Nat.eq_zero_or_pos n with h0 | h0
  · subst h0
    go_enter Try.func28, Try.ntmps28
    go_wp2
    go_ret
    exact ⟨_, rfl, OwnB.nil _ _, Below.refl _ _⟩
  · go_enter Try.func28, Try.ntmps28
    go_wp2_with (at_builtin; refine app_zeros rfl _ _ rfl rfl n rfl rfl h0 hn ?_)
    intro cap w1 hcap hown hb
    go_wp2
    go_ret
    exact ⟨_, rfl, hown, hb⟩

set_option maxHeartbeats 1000000 in
theorem concat_any (w : World) (b n c : Nat) (ps : List Piece) (hn : ps.length = n) (hm : n ≤ 100)
    (hc : ∀ k (hk : k < ps.length), w.cell? ⟨b, k, none⟩ = some (.slice ps[k].A ps[k].n ps[k].c))
    (hr : ∀ k (hk : k < ps.length), RdB w ps[k].A ps[k].n ps[k].xs) (hl : (ps.flatMap (·.xs)).length ≤ 140737488355328) :
    Calls Try.prog 27 #[.slice (some ⟨b, 0, none⟩) n c] w fun e w' => ∃ v, e = .returned v ∧ OwnB w' w.heap.size v (ps.flatMap (·.xs)) ∧ Below w.heap.size w w' := by
  have HC := Lib.hid hc
  have HL := Lib.hid hl
  have hsn : ∀ k (hk : k < ps.length), ((ps.take (k + 1)).flatMap (·.xs)) = (ps.take k).flatMap (·.xs) ++ ps[k].xs := fun k hk => by
    rw [take_snoc' ps k hk, List.flatMap_append]; simp
  have hle : ∀ k, ((ps.take k).flatMap (·.xs)).length ≤ (ps.flatMap (·.xs)).length := fun k => by
    have h1 := congrArg (fun l : List Piece => (l.flatMap (fun x => x.xs)).length) (List.take_append_drop k ps)
    simp only [List.flatMap_append, List.length_append] at h1
    omega
  have HSN := Lib.hid hsn
  have HLE := Lib.hid hle
  clear hc hl hsn hle
  go_enter Try.func27, Try.ntmps27
  go_wp2
  go_loop [3, 11] (fun t i => ∃ k s : Nat, k ≤ n ∧ i = .int .i64 k ∧ t = .int .i64 s ∧ Hid (s = ((ps.take k).flatMap (·.xs)).length)) (fun _ i => n - (intOf i).toNat)
  case atStart => exact ⟨0, 0, Nat.zero_le _, rfl, rfl, rfl⟩
  case round =>
    obtain ⟨k, s, hk, rfl, rfl, hs⟩ := hrel
    have hs1 : s ≤ 140737488355328 := by have := hs.out; have := HLE.out k; have := HL.out; omega
    by_cases hlt : k < n
    · have hc := HC.out k (by omega)
      have hrk := hr k (by omega)
      have hs2 : s + ps[k].n ≤ 140737488355328 := by
        have h1 := HSN.out k (by omega)
        have h2 := congrArg List.length h1
        rw [List.length_append, hrk.len] at h2
        have := hs.out; have := HLE.out (k + 1); have := HL.out; omega
      have HH : Hid (s + ps[k].n = ((ps.take (k + 1)).flatMap (·.xs)).length) := by
        have h1 := HSN.out k (by omega)
        have h2 := congrArg List.length h1
        rw [List.length_append, hrk.len] at h2
        have := hs.out
        unfold Hid; omega
      generalize ps[k] = q at hc hrk hs2 HH
      obtain ⟨A, m, cq, xs⟩ := q
      simp only at hc hrk hs2 HH
      go_wp2
      go_round
      case rel => exact ⟨k + 1, s + m, by omega, by go_num, by go_num, HH⟩
      case measure => simp [intOf]; omega
    · go_wp2_with (go_at_call 28; refine (grow_any s w hs1).mono ?_; rintro e w1 ⟨v1, rfl, hv1, hb1⟩)
      go_loopw [6, 27] (fun v i wr => ∃ k : Nat, k ≤ n ∧ i = .int .i64 k ∧ OwnB wr w.heap.size v ((ps.take k).flatMap (·.xs)) ∧ Below w.heap.size w wr) (fun _ i _ => n - (intOf i).toNat)
      case atStart => exact ⟨0, Nat.zero_le _, rfl, hv1, hb1⟩
      case round =>
        obtain ⟨j, hj, rfl, hown, hb⟩ := hrel
        by_cases hltj : j < n
        · have hc := cell_later hb (HC.out j (by omega))
          have hrj := (hr j (by omega)).below hb
          have hsz : ((ps.take j).flatMap (·.xs)).length + ps[j].n ≤ 140737488355328 := by
            have h2 := congrArg List.length (HSN.out j (by omega))
            rw [List.length_append, hrj.len] at h2
            have := HLE.out (j + 1); have := HL.out; omega
          have hsnj := Lib.hid (HSN.out j (by omega))
          generalize ps[j] = q at hc hrj hsz hsnj
          obtain ⟨A, m, cq, xs⟩ := q
          simp only at hc hrj hsz hsnj
          go_wp2_with (at_builtin; refine app_u8 rfl _ _ rfl w.heap.size _ _ rfl hown A m cq xs rfl hrj hsz hb.size ?_)
          intro v2 w2 hv2 hb2 _
          go_wp2
          go_roundw
          case rel => exact ⟨j + 1, by omega, by go_num, by rw [hsnj.out]; exact hv2, hb.trans hb2⟩
          case measure => simp [intOf]; omega
        · go_wp2
          go_ret
          rw [List.take_of_length_le (by omega)] at hown
          exact ⟨_, rfl, hown, hb⟩

/-! ### What is appended -/
theorem cell_two (w : World) (u v : Value) (t : TypeId) : (∀ k (hk : k < 2), (w.alloc (.cells #[u, v] t)).cell? ⟨w.heap.size, k, none⟩ = #[u, v][k]?) := fun k hk => by
  rw [cell_of_row _ _ _ _ _ _ (heap_alloc_new w _)]

theorem join_two (w : World) (A : Option Addr) (n c : Nat) (xs : List UInt8) (A' : Option Addr) (n' c' : Nat) (ys : List UInt8) (h : RdB w A n xs) (h' : RdB w A' n' ys) (hl : xs.length + ys.length ≤ 140737488355328) :
    Calls Try.prog 23 #[.slice (some ⟨w.heap.size, 0, none⟩) 2 2] (w.alloc (.cells #[.slice A n c, .slice A' n' c'] 22)) fun e w' => ∃ v, e = .returned v ∧ OwnB w' w.heap.size v (xs ++ ys) ∧ Below w.heap.size w w' := by
  have C := concat_any (w.alloc (.cells #[.slice A n c, .slice A' n' c'] 22)) w.heap.size 2 2 [⟨A, n, c, xs⟩, ⟨A', n', c', ys⟩] rfl (by omega) (fun k hk => by
    rw [cell_of_row _ _ _ _ _ _ (heap_alloc_new w _)]
    match k, hk with
    | 0, _ => rfl
    | 1, _ => rfl) (fun k hk => by
    match k, hk with
    | 0, _ => exact h.alloc _
    | 1, _ => exact h'.alloc _) (by simpa using hl)
  have C := Lib.hid C
  go_enter Try.func23, Try.ntmps23
  go_wp2_with (go_at_call 27; refine C.out.mono ?_; rintro e w1 ⟨v1, rfl, hv1, hb1⟩)
  go_ret
  refine ⟨v1, rfl, ?_, ((Below.refl _ _).alloc (Nat.le_refl _) _).trans (hb1.mono (by simp))⟩
  have := hv1.mono (base' := w.heap.size) (by simp)
  simpa using this

theorem AppendUint_any (A : Option Addr) (n c v : Nat) (w : World) (xs : List UInt8) (h : RdB w A n xs) (hv : v < 18446744073709551616) (hn : n + 10 ≤ 140737488355328) :
    Calls Try.prog 12 #[.slice A n c, .int .u64 v] w fun e w' => ∃ v', e = .returned v' ∧ OwnB w' w.heap.size v' (xs ++ enc v) ∧ Below w.heap.size w w' := by
  have hl := h.len
  have hel := enc_length v
  have HE := Lib.hid hel
  have HL := Lib.hid hl
  clear hel hl
  go_enter Try.func12, Try.ntmps12
  go_wp2_with fail
  refine (form_any v w hv).mono ?_
  rintro e w1 ⟨A1, m1, c1, rfl, hm1, hm10, hmc, hr1, hb1⟩
  go_wp2_with fail
  refine (join_two w1 A n c xs A1 m1 c1 (enc v) (h.below hb1) hr1 (by have := HE.out; have := HL.out; omega)).mono ?_
  rintro e w2 ⟨v2, rfl, hv2, hb2⟩
  go_wp2
  go_ret
  exact ⟨v2, rfl, hv2.mono hb1.size, hb1.trans (hb2.mono hb1.size)⟩

theorem xorOnes (a : Nat) (h : a < 18446744073709551616) : a ^^^ 18446744073709551615 = 18446744073709551615 - a := by
  have h1 := congrArg BitVec.toNat (BitVec.xor_allOnes (x := BitVec.ofNat 64 a))
  rw [BitVec.toNat_xor, BitVec.toNat_not, BitVec.toNat_allOnes, BitVec.toNat_ofNat, Nat.mod_eq_of_lt h] at h1
  have e : 2 ^ 64 - 1 = 18446744073709551615 := by decide
  rw [e] at h1
  exact h1

theorem zigBits (v : Int) (h0 : -9223372036854775808 ≤ v) (h1 : v ≤ 9223372036854775807) :
    bits .xor .u64 (IntKind.u64.wrap (wrap64 (v * 2))) (IntKind.u64.wrap (v / 9223372036854775808)) = ((zig v : Nat) : Int) := by
  have e : ∀ x, IntKind.u64.wrap x = x % 18446744073709551616 := fun x => by simp [IntKind.wrap, IntKind.bits, IntKind.signed]
  rw [e, e]
  have hz := zig_lt v h0 h1
  by_cases hv : 0 ≤ v
  · have e1 : wrap64 (v * 2) % 18446744073709551616 = ((zig v : Nat) : Int) := by unfold wrap64 zig; rw [if_pos hv]; omega
    have e2 : v / 9223372036854775808 % 18446744073709551616 = ((0 : Nat) : Int) := by omega
    rw [e1, e2, u64_xor_nat _ 0 hz (by omega), Nat.xor_zero]
  · have e1 : wrap64 (v * 2) % 18446744073709551616 = ((18446744073709551615 - zig v : Nat) : Int) := by unfold wrap64 zig; rw [if_neg hv]; omega
    have e2 : v / 9223372036854775808 % 18446744073709551616 = ((18446744073709551615 : Nat) : Int) := by omega
    rw [e1, e2, u64_xor_nat _ _ (by omega) (by omega), xorOnes _ (by omega)]
    omega

theorem AppendInt_any (A : Option Addr) (n c : Nat) (v : Int) (w : World) (xs : List UInt8) (h : RdB w A n xs) (hv0 : -9223372036854775808 ≤ v) (hv1 : v ≤ 9223372036854775807) (hn : n + 10 ≤ 140737488355328) :
    Calls Try.prog 14 #[.slice A n c, .int .i64 v] w fun e w' => ∃ v', e = .returned v' ∧ OwnB w' w.heap.size v' (xs ++ enc (zig v)) ∧ Below w.heap.size w w' := by
  have HE := Lib.hid (enc_length (zig v))
  have HL := Lib.hid h.len
  have hz := zig_lt v hv0 hv1
  go_enter Try.func14, Try.ntmps14
  have hzb := zigBits v hv0 hv1
  go_wp2_with fail
  refine (form_any (zig v) w hz).mono ?_
  rintro e w1 ⟨A1, m1, c1, rfl, hm1, hm10, hmc, hr1, hb1⟩
  go_wp2_with fail
  refine (join_two w1 A n c xs A1 m1 c1 (enc (zig v)) (h.below hb1) hr1 (by have := HE.out; have := HL.out; omega)).mono ?_
  rintro e w2 ⟨v2, rfl, hv2, hb2⟩
  go_wp2
  go_ret
  exact ⟨v2, rfl, hv2.mono hb1.size, hb1.trans (hb2.mono hb1.size)⟩

theorem AppendBytes_any (A : Option Addr) (n c : Nat) (xs : List UInt8) (A' : Option Addr) (n' c' : Nat) (ys : List UInt8) (w : World) (h : RdB w A n xs) (h' : RdB w A' n' ys) (hn : n + 10 + n' ≤ 140737488355328) :
    Calls Try.prog 16 #[.slice A n c, .slice A' n' c'] w fun e w' => ∃ v', e = .returned v' ∧ OwnB w' w.heap.size v' (xs ++ enc ys.length ++ ys) ∧ Below w.heap.size w w' := by
  have HE := Lib.hid (enc_length n')
  have HL := Lib.hid h.len
  have HL' := Lib.hid h'.len
  go_enter Try.func16, Try.ntmps16
  go_wp2_with fail
  refine (form_any n' w (by omega)).mono ?_
  rintro e w1 ⟨A1, m1, c1, rfl, hm1, hm10, hmc, hr1, hb1⟩
  have C := concat_any (w1.alloc (.cells #[.slice A n c, .slice A1 m1 c1, .slice A' n' c'] 22)) w1.heap.size 3 3 [⟨A, n, c, xs⟩, ⟨A1, m1, c1, enc n'⟩, ⟨A', n', c', ys⟩] rfl (by omega) (fun k hk => by
    rw [cell_of_row _ _ _ _ _ _ (heap_alloc_new w1 _)]
    match k, hk with
    | 0, _ => rfl
    | 1, _ => rfl
    | 2, _ => rfl) (fun k hk => by
    match k, hk with
    | 0, _ => exact (h.below hb1).alloc _
    | 1, _ => exact hr1.alloc _
    | 2, _ => exact (h'.below hb1).alloc _) (by have := HE.out; have := HL.out; have := HL'.out; simp; omega)
  have J : Calls Try.prog 23 #[.slice (some ⟨w1.heap.size, 0, none⟩) 3 3] (w1.alloc (.cells #[.slice A n c, .slice A1 m1 c1, .slice A' n' c'] 22)) fun e w' => ∃ v, e = .returned v ∧ OwnB w' w1.heap.size v (xs ++ enc n' ++ ys) ∧ Below w1.heap.size w1 w' := by
    have C := Lib.hid C
    go_enter Try.func23, Try.ntmps23
    go_wp2_with (go_at_call 27; refine C.out.mono ?_; rintro e w2 ⟨v1, rfl, hv1, hb2⟩)
    go_ret
    refine ⟨v1, rfl, ?_, ((Below.refl _ _).alloc (Nat.le_refl _) _).trans (hb2.mono (by simp))⟩
    have := hv1.mono (base' := w1.heap.size) (by simp)
    simpa using this
  have J := Lib.hid J
  clear C
  go_wp2_with (go_at_call 23; refine J.out.mono ?_; rintro e w2 ⟨v2, rfl, hv2, hb2⟩)
  go_ret
  refine ⟨v2, rfl, ?_, hb1.trans (hb2.mono hb1.size)⟩
  have e : xs ++ enc ys.length ++ ys = xs ++ enc n' ++ ys := by rw [HL'.out]
  rw [e]
  exact hv2.mono hb1.size
end Go.Proofs.Ytaepjocfajiokaa
