/-
  Contracts of the functions of layer 6 (frame) and of its reference: the sums.
-/
import Derived.Test.YtcpojhckgoinmaaBytes
import Derived.Test.YtcpojhckgoinmaaFrameP
namespace Go.Proofs.Ytcpojhckgoinmaa
open Go.RowKit
set_option linter.unusedVariables false

theorem own_any (A : Option Addr) (n c : Nat) (w : World) (xs : List UInt8) (h : RdB w A n xs) (hn : n ≤ 140737488355328) :
    Calls Try.prog 11 #[.slice A n c] w fun e w' => ∃ v, e = .returned v ∧ OwnB w' w.heap.size v xs ∧ Below w.heap.size w w' := by
  have hl := h.len
  go_enter Try.func11, Try.ntmps11
  go_wp2_with (at_builtin; refine app_u8 rfl _ _ rfl w.heap.size _ [] rfl (OwnB.empty w (Nat.le_refl _)) A n c xs rfl (h.alloc _) ?c1 ?c2 ?_)
  case c1 => simp; omega
  case c2 => simp
  intro v w1 hv hb _
  go_wp2
  go_ret
  exact ⟨v, rfl, hv, ((Below.refl _ _).alloc (Nat.le_refl _) _).trans hb⟩

set_option maxHeartbeats 400000 in
theorem refSum_any (A : Option Addr) (n c : Nat) (w : World) (xs : List UInt8) (h : RdB w A n xs) (hn : n ≤ 9223372036854775807) :
    Calls Try.prog 12 #[.slice A n c] w fun e w' => e = .returned (.int .u32 (crc xs : Int)) ∧ w = w' := by
  have hl := h.len
  go_enter Try.func12, Try.ntmps12
  go_wp2
  go_loop [3, 10] (fun t i => ∃ k : Nat, k ≤ n ∧ i = .int .i64 k ∧ t = .int .u32 (crcRaw 4294967295 (xs.take k) : Nat)) (fun _ i => n - (intOf i).toNat)
  case atStart => exact ⟨0, Nat.zero_le _, rfl, rfl⟩
  case round =>
    obtain ⟨k, hk, rfl, rfl⟩ := hrel
    by_cases hlt : k < n
    · obtain ⟨b, off, rfl⟩ := h.addr (by omega)
      have hc := h.cells k (by omega)
      have hb := xs[k].toNat_lt
      have hs := crcRaw_lt (xs.take k) 4294967295 (by omega)
      have hb8 : xs[k].toNat < 256 := hb
      have hx32 : crcRaw 4294967295 (xs.take k) ^^^ xs[k].toNat < 4294967296 := Nat.xor_lt_two_pow (n := 32) hs (by omega)
      go_wp2
      go_loop [3, 6] (fun t i => ∃ j : Nat, j ≤ 8 ∧ i = .int .i64 j ∧ t = .int .u32 (crcBits j (crcRaw 4294967295 (xs.take k) ^^^ xs[k].toNat) : Nat)) (fun _ i => 8 - (intOf i).toNat)
      case atStart => exact ⟨0, by omega, rfl, int_eq (u32_xor_nat _ _ hs (by omega))⟩
      case round =>
        obtain ⟨j, hj, rfl, rfl⟩ := hrel
        have hj32 := crcBits_lt j _ hx32
        have hnext := Lib.hid (crcBits_succ j (crcRaw 4294967295 (xs.take k) ^^^ xs[k].toNat))
        by_cases hlt8 : j < 8
        · by_cases hodd : crcBits j (crcRaw 4294967295 (xs.take k) ^^^ xs[k].toNat) % 2 = 1
          · have H := Lib.hid hodd
            have ho : (((crcBits j (crcRaw 4294967295 (xs.take k) ^^^ xs[k].toNat) : Nat) : Int) % 2 == 1) = true := by rw [beq_iff_eq]; omega
            clear hodd
            go_wp2
            go_round
            case rel =>
              refine ⟨j + 1, by omega, by go_num, int_eq ?_⟩
              have h1 := u32_xor_nat (crcBits j (crcRaw 4294967295 (xs.take k) ^^^ xs[k].toNat) / 2) 3988292384 (by omega) (by omega)
              have h2 := hnext.out
              rw [h2, crcBit, if_pos H.out, ← h1]; rfl
            case measure => simp [intOf]; omega
          · have H := Lib.hid hodd
            have ho : (((crcBits j (crcRaw 4294967295 (xs.take k) ^^^ xs[k].toNat) : Nat) : Int) % 2 == 1) = false := by rw [beq_eq_false_iff_ne]; omega
            clear hodd
            go_wp2
            go_round
            case rel =>
              refine ⟨j + 1, by omega, by go_num, int_eq ?_⟩
              have h2 := hnext.out
              rw [h2, crcBit, if_neg H.out]; rfl
            case measure => simp [intOf]; omega
        · go_wp2
          go_round
          case rel =>
            obtain rfl : j = 8 := by omega
            exact ⟨k + 1, by omega, by go_num, int_eq (by rw [take_snoc' xs k (by omega), crcRaw_snoc]; rfl)⟩
          case measure => simp [intOf]; omega
    · have hs := crcRaw_lt (xs.take k) 4294967295 (by omega)
      go_wp2
      go_ret
      refine ⟨ret_int ?_, rfl⟩
      have h1 := u32_xor_nat (crcRaw 4294967295 (xs.take k)) 4294967295 hs (by omega)
      rw [List.take_of_length_le (by omega)] at h1 ⊢
      exact h1

/-! ### The table -/
def z256 : Array Value := Array.replicate 256 (.int .u32 0)
theorem zero256 (w : World) : (zeroValue 54).run Try.prog w = .ok (.agg z256) w := by kernel_rfl
def tabCells (k : Nat) : Array Value := ((List.range 256).map fun i => Value.int .u32 (if i < k then (crcBits 8 i : Nat) else 0 : Int)).toArray
theorem tabCells_zero : tabCells 0 = z256 := by kernel_rfl
theorem tabCells_size (k : Nat) : (tabCells k).size = 256 := by simp [tabCells]
theorem tabCells_at (k i : Nat) (h : i < 256) : (tabCells k)[i]? = some (Value.int .u32 (if i < k then (crcBits 8 i : Nat) else 0 : Int)) := by
  simp [tabCells, h]
theorem tabCells_one (k : Nat) : (tabCells k).all (·.oneCell') = true := by
  simp [tabCells, Value.oneCell']
theorem _root_.Go.RowKit.Below.setRow {B : Nat} {a w : World} (h : Below B a w) {g : Nat} (hg : B ≤ g) (cs : Array Value) : Below B a (w.setRow g cs) :=
  h.trans ⟨rfl, rfl, rfl, by simp, fun k hk => setRow_other w g k cs (by omega)⟩
theorem tabCells_set (k : Nat) (h : k < 256) : (tabCells k).setIfInBounds k (.int .u32 (crcBits 8 k : Nat)) = tabCells (k + 1) := by
  apply Array.ext_getElem?
  intro i
  rw [Array.getElem?_setIfInBounds]
  by_cases hi : i < 256
  · rw [tabCells_at (k + 1) i hi]
    by_cases hk : k = i
    · subst hk
      rw [if_pos rfl, if_pos (by rw [tabCells_size]; exact h)]
      simp
    · rw [if_neg hk, tabCells_at k i hi]
      by_cases h1 : i < k
      · rw [if_pos h1, if_pos (by omega)]
      · rw [if_neg h1, if_neg (by omega)]
  · rw [if_neg (by omega), Array.getElem?_eq_none (by rw [tabCells_size]; omega), Array.getElem?_eq_none (by rw [tabCells_size]; omega)]

theorem tabStep (c : Nat) (h : c < 4294967296) : bits .xor .u32 ((c : Int) / 2) (bits .and .u32 3988292384 (-bits .and .u32 (c : Int) 1 % 4294967296)) = ((crcBit c : Nat) : Int) := by
  have h1 := u32_and_nat c 1 h (by omega)
  rw [nat_mask1] at h1
  have e1 : bits .and .u32 (c : Int) 1 = ((c % 2 : Nat) : Int) := h1
  rw [e1, crcBit_eq]
  by_cases ho : c % 2 = 1
  · have e2 : (-((c % 2 : Nat) : Int)) % 4294967296 = ((4294967295 : Nat) : Int) := by rw [ho]; rfl
    have e3 : bits .and .u32 3988292384 ((4294967295 : Nat) : Int) = ((3988292384 : Nat) : Int) := by decide +kernel
    rw [e2, e3, if_pos ho]
    exact u32_xor_nat (c / 2) 3988292384 (by omega) (by omega)
  · have ho0 : c % 2 = 0 := by omega
    have e2 : (-((c % 2 : Nat) : Int)) % 4294967296 = ((0 : Nat) : Int) := by rw [ho0]; rfl
    have e3 : bits .and .u32 3988292384 ((0 : Nat) : Int) = ((0 : Nat) : Int) := by decide +kernel
    rw [e2, e3, if_neg ho]
    exact u32_xor_nat (c / 2) 0 (by omega) (by omega)

set_option maxRecDepth 100000 in
set_option maxHeartbeats 400000 in
theorem table_any (w : World) :
    Calls Try.prog 28 #[] w fun e w' => e = .returned (.agg (tabCells 256)) ∧ Below w.heap.size w w' := by
  have hz := zero256
  go_enter Try.func28, Try.ntmps28
  go_wp2
  go_loopw [4] (fun t wr => ∃ k : Nat, k ≤ 256 ∧ t = .int .i64 k ∧ wr.heap[w.heap.size]? = some (.cells z256 54 (0, 0)) ∧ wr.heap[w.heap.size + 1]? = some (.cells (tabCells k) 54 (0, 0)) ∧ Below w.heap.size w wr) (fun t _ => 256 - (intOf t).toNat)
  case atStart =>
    refine ⟨0, by omega, rfl, ?_, ?_, ?_⟩
    · exact heap_alloc2_old w _ _
    · rw [tabCells_zero]; exact heap_alloc2_new w _ _
    · exact ((Below.refl _ _).alloc (Nat.le_refl _) _).alloc (by simp) _
  case round =>
    obtain ⟨k, hk, rfl, h0, h1, hb⟩ := hrel
    by_cases hlt : k < 256
    · have hc : wr.cell? ⟨w.heap.size + 1, k, none⟩ = some (.int .u32 0) := by rw [cell_of_row _ _ _ _ _ _ h1, tabCells_at k k hlt]; simp
      have hf : wr.frozen? ⟨w.heap.size + 1, k, none⟩ = false := frozen_of_row _ _ _ _ _ h1
      have H0 := Lib.hid h0
      have H1 := Lib.hid h1
      clear h0 h1
      have hk32 : k < 4294967296 := by omega
      go_wp2
      go_loop [3, 9] (fun t i => ∃ j : Nat, j ≤ 8 ∧ i = .int .i64 j ∧ t = .int .u32 (crcBits j k : Nat)) (fun _ i => 8 - (intOf i).toNat)
      case atStart => exact ⟨0, by omega, rfl, rfl⟩
      case round =>
        obtain ⟨j, hj, rfl, rfl⟩ := hrel
        have hj32 := crcBits_lt j k hk32
        have hnext := Lib.hid (crcBits_succ j k)
        by_cases hlt8 : j < 8
        · go_wp2
          go_round
          case rel =>
            refine ⟨j + 1, by omega, by go_num, int_eq ?_⟩
            rw [hnext.out]
            exact tabStep _ hj32
          case measure => simp [intOf]; omega
        · go_wp2
          go_roundw
          case rel =>
            obtain rfl : j = 8 := by omega
            refine ⟨k + 1, by omega, by go_num, ?_, ?_, hb.setCell (by simp) _⟩
            · rw [heap_setCell_other _ _ _ _ (by simp)]; exact H0.out
            · rw [heap_setCell_same _ _ _ _ _ _ H1.out, tabCells_set k hlt]
          case measure => simp [intOf]; omega
    · have h256 := Lib.hid (show k = 256 by omega)
      have H0 := Lib.hid h0
      have H1 := Lib.hid h1
      clear h0 h1
      go_wp2_with (first | (refine wpList_load_row rfl 54 _ rfl _ rfl _ _ _ _ H1.out Try.underlying54 rfl ?c1 ?_) | (refine wpList_store_row rfl _ _ _ rfl _ _ rfl rfl _ _ H0.out ?c2 ?c3 ?c4 ?_))
      case c1 => rw [tabCells_size]; kernel_rfl
      case c2 => rw [tabCells_size]; kernel_rfl
      case c3 => rw [tabCells_size]; rfl
      case c4 => exact tabCells_one k
      refine bodyPost_ret (results_cell_row (fn := Try.f28) rfl _ _ w.heap.size 54 (tabCells k) (0, 0) _ rfl (setRow_heap _ _ _ _ _ _ H0.out) Try.underlying54 rfl (by rw [tabCells_size]; kernel_rfl)) rfl ⟨by rw [h256.out], hb.setRow (Nat.le_refl _) _⟩

/-! ### The sum -/
/-- A piece: where it lies, its length and capacity, its bytes. -/
structure Piece where
  A : Option Addr
  n : Nat
  c : Nat
  xs : List UInt8

theorem stepTab (c x : Nat) (hc : c < 4294967296) (hx : x < 256) : bits .xor .u32 ((crcBits 8 ((c % 256) ^^^ x) : Nat) : Int) ((c : Int) / 256) = ((crcByte c x : Nat) : Int) := by
  have h1 : c % 256 ^^^ x < 256 := Nat.xor_lt_two_pow (n := 8) (by omega) (by omega)
  have h := u32_xor_nat (crcBits 8 ((c % 256) ^^^ x)) (c / 256) (crcBits_lt 8 _ (by omega)) (by omega)
  rw [crcByte_table] at h
  exact h

set_option maxRecDepth 100000 in
set_option maxHeartbeats 800000 in
theorem sum_any (w : World) (b n c : Nat) (ps : List Piece) (hn : ps.length = n) (hm : n ≤ 100)
    (hc : ∀ k (hk : k < ps.length), w.cell? ⟨b, k, none⟩ = some (.slice ps[k].A ps[k].n ps[k].c))
    (hr : ∀ k (hk : k < ps.length), RdB w ps[k].A ps[k].n ps[k].xs) (hl : ∀ k (hk : k < ps.length), ps[k].n ≤ 9223372036854775807) :
    Calls Try.prog 21 #[.slice (some ⟨b, 0, none⟩) n c] w fun e w' => e = .returned (.int .u32 (crc (ps.flatMap (·.xs)) : Nat)) ∧ Below w.heap.size w w' := by
  have hz := zero256
  have HC := Lib.hid hc
  clear hc
  go_enter Try.func21, Try.ntmps21
  go_wp2_with (first | (go_at_call 28; refine (table_any _).mono ?_; rintro e w1 ⟨rfl, hb1⟩) | (refine wpList_store_row rfl _ _ _ rfl _ _ rfl rfl _ _ (heap_alloc_new _ _) ?c2 ?c3 ?c4 ?_))
  case c2 => rw [tabCells_size]; kernel_rfl
  case c3 => rw [tabCells_size]; rfl
  case c4 => exact tabCells_one _
  have F1 : ((w1.alloc (.cells z256 54)).setRow w1.heap.size (tabCells 256)).heap[w1.heap.size]? = some (.cells (tabCells 256) 54 (0, 0)) := setRow_heap _ _ _ _ _ _ (heap_alloc_new _ _)
  have F2 : Below w.heap.size w ((w1.alloc (.cells z256 54)).setRow w1.heap.size (tabCells 256)) := (hb1.alloc hb1.size _).setRow hb1.size _
  generalize (w1.alloc (.cells z256 54)).setRow w1.heap.size (tabCells 256) = W at F1 F2 ⊢
  generalize w1.heap.size = g at F1 ⊢
  have H1 := Lib.hid F1
  clear F1 hz hb1
  go_loop [4, 12] (fun t i => ∃ k : Nat, k ≤ n ∧ i = .int .i64 k ∧ t = .int .u32 (crcRaw 4294967295 ((ps.take k).flatMap (·.xs)) : Nat)) (fun _ i => n - (intOf i).toNat)
  case atStart => exact ⟨0, Nat.zero_le _, rfl, rfl⟩
  case round =>
    obtain ⟨k, hk, rfl, rfl⟩ := hrel
    have hs := crcRaw_lt ((ps.take k).flatMap (·.xs)) 4294967295 (by omega)
    by_cases hlt : k < n
    · have hc := cell_later F2 (HC.out k (by omega))
      have hrk := (hr k (by omega)).below F2
      have hlk := hl k (by omega)
      have Hsn := Lib.hid (take_snoc' ps k (by omega))
      generalize ps[k] = q at hc hrk hlk Hsn
      obtain ⟨A, m, cq, xs⟩ := q
      simp only at hc hrk hlk
      have hxl := Lib.hid hrk.len
      go_wp2
      go_loop [4, 18] (fun t i => ∃ j : Nat, j ≤ m ∧ i = .int .i64 j ∧ t = .int .u32 (crcRaw (crcRaw 4294967295 ((ps.take k).flatMap (·.xs))) (xs.take j) : Nat)) (fun _ i => m - (intOf i).toNat)
      case atStart => exact ⟨0, Nat.zero_le _, rfl, rfl⟩
      case round =>
        obtain ⟨j, hj, rfl, rfl⟩ := hrel
        have hsj := crcRaw_lt (xs.take j) _ hs
        by_cases hltj : j < m
        · obtain ⟨bq, off, rfl⟩ := hrk.addr (by omega)
          have hjx : j < xs.length := by have := hxl.out; omega
          have hcj := hrk.cells j hjx
          have hbj : xs[j].toNat < 256 := xs[j].toNat_lt
          have Hsj := Lib.hid (take_snoc' xs j hjx)
          generalize xs[j] = x at hcj hbj Hsj
          have hix : crcRaw (crcRaw 4294967295 ((ps.take k).flatMap (·.xs))) (xs.take j) % 256 ^^^ x.toNat < 256 := Nat.xor_lt_two_pow (n := 8) (by omega) (by omega)
          have ht : W.cell? ⟨g, crcRaw (crcRaw 4294967295 ((ps.take k).flatMap (·.xs))) (xs.take j) % 256 ^^^ x.toNat, none⟩ = some (.int .u32 (crcBits 8 (crcRaw (crcRaw 4294967295 ((ps.take k).flatMap (·.xs))) (xs.take j) % 256 ^^^ x.toNat) : Nat)) := by
            rw [cell_of_row _ _ _ _ _ _ H1.out, tabCells_at 256 _ hix, if_pos hix]
          have hix2 : bits .xor .u8 (((crcRaw (crcRaw 4294967295 ((ps.take k).flatMap (·.xs))) (xs.take j) : Nat) : Int) % 256) (x.toNat : Int) = ((crcRaw (crcRaw 4294967295 ((ps.take k).flatMap (·.xs))) (xs.take j) % 256 ^^^ x.toNat : Nat) : Int) := u8_xor_nat _ _ (Nat.mod_lt _ (by decide)) hbj
          go_wp2
          go_round
          case rel =>
            refine ⟨j + 1, by omega, by go_num, int_eq ?_⟩
            rw [Hsj.out, crcRaw_snoc]
            exact stepTab _ _ hsj hbj
          case measure => simp [intOf]; omega
        · go_wp2
          go_round
          case rel =>
            refine ⟨k + 1, by omega, by go_num, int_eq ?_⟩
            rw [Hsn.out, List.flatMap_append, crcRaw_append, List.take_of_length_le (l := xs) (by have := hxl.out; omega)]
            simp
          case measure => simp [intOf]; omega
    · go_wp2
      go_ret
      refine ⟨ret_int ?_, F2⟩
      rw [List.take_of_length_le (by omega)] at hs ⊢
      have h := u32_xor_nat 4294967295 _ (by omega) hs
      rw [Nat.xor_comm] at h
      exact h
end Go.Proofs.Ytcpojhckgoinmaa
