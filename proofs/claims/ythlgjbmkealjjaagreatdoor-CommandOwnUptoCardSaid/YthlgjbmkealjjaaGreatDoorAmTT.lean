/-
  Joined texts: AmT AmT2. No statement is proved here.
-/
import Derived.Lib.ItoaMem
import Derived.BigCall
import Derived.BigGuard
import Derived.Test.YthlgjbmkealjjaaGreatDoorAmA
namespace Go.Proofs.YthlgjbmkealjjaaGreatDoor
open Go.RowKit Go.Shelf Go.Sort Go.Lib
set_option linter.unusedVariables false

theorem fin_at (w : World) (o : Obj) (dk : Array UInt8) (k off : Nat) : ∃ os, (putRow (fun (b : UInt8) => Value.int .u8 (b.toNat : Int)) (w.alloc o) w.heap.size off dk).drewN k = grow (w.drewN k) os := by
  rw [alloc_eq_grow]
  obtain ⟨os', _, e⟩ := putRow_grow_new (fun (b : UInt8) => Value.int .u8 (b.toNat : Int)) w #[o] w.heap.size off dk (Nat.le_refl _)
  exact ⟨os', by rw [e]; rfl⟩
theorem below_grow (w : World) (k : Nat) (os : Array Obj) : Below w.heap.size w (grow (w.drewN k) os) :=
  ⟨rfl, rfl, rfl, by simp [grow, World.drewN], fun j hj => by simp [grow, World.drewN, Array.getElem?_append_left hj]⟩
theorem holds_zero0 (w : World) (T : TypeId) (nd : Nat) (hs : nd ≤ 24) : Holds (fun (b : UInt8) => Value.int .u8 (b.toNat : Int)) (w.alloc (.cells Lib.zeros24 T)) w.heap.size 0 (Array.replicate nd (0 : UInt8)) := fun j hj => by
  have hj' : j < nd := by simpa using hj
  refine ⟨?_, World.frozen?_alloc_new _ _ _ _⟩
  rw [World.cell?_alloc_new, Lib.zeros24_at _ (by omega), getElem!_pos _ j hj]
  simp
set_option maxHeartbeats 1000000 in
theorem fmt_inner (u : Nat) (w : World) (hu64 : u < 18446744073709551616) (htab : Lib.TabIs Tryz.prog w "internal/strconv.uint64pow10" .u64 Lib.pow10Tab) :
    Calls Tryz.prog 114 #[.int .u64 u, .int .i64 10] w fun e w' => e = .returned (.string ⟨(Lib.decDigits u).toArray⟩) ∧ Below w.heap.size w w' := by
  by_cases hs : u < 100
  · have S := Lib.hid (internal_strconv_small u hs)
    go_enter Tryz.func114, Tryz.ntmps114
    go_wp2_with fail
    refine (S.out _).mono ?_
    rintro e w' ⟨rfl, rfl⟩
    go_wp2
    go_ret
    exact ⟨rfl, Below.refl _ _⟩
  · have hu1 : 1 ≤ u := by omega
    have hnd20 : Lib.nDigits u ≤ 20 := by have := Lib.numDigits_eq u hu1 hu64; split at this <;> omega
    have ND := Lib.hid (internal_strconv_numDigits u hu1 hu64 _ (Lib.tabIs_alloc htab (.cells Lib.zeros24 153)))
    have hal : Tryz.prog.arrayLen 153 = 24 := by kernel_rfl
    have hsl : ∀ W, (Instr.sliceAt 153 (.pointer (some ⟨w.heap.size, 0, none⟩)) none (some (.int .i64 (Lib.nDigits u : Int))) none).run Tryz.prog W = .ok (.slice (some ⟨w.heap.size, 0, none⟩) (Lib.nDigits u) 24) W := fun W => by
      rw [run_sliceAt_array_h W 153 ⟨w.heap.size, 0, none⟩ (by kernel_rfl) .i64 (Lib.nDigits u : Int) (by omega) (by rw [hal]; omega), hal, show (sizeOf (Tryz.prog.elem 153)).run Tryz.prog W = .ok 1 W from by kernel_rfl]
      simp [Result.andThen, slicedAt, Addr.add]
    have hH0 := holds_zero0 w 153 (Lib.nDigits u) (by omega)
    have hfmt := internal_strconv_formatBase10 w.heap.size 0 24 u (Array.replicate (Lib.nDigits u) 0) (w.alloc (.cells Lib.zeros24 153)) hH0 (by rw [Array.size_replicate]; exact Lib.lt_pow_nDigits u) hu64 (by rw [Array.size_replicate]; omega)
    rw [Array.size_replicate] at hfmt
    have HF := Lib.hid hfmt
    have HH0 := Lib.hid hH0
    clear hH0 hal hfmt htab
    go_enter Tryz.func114, Tryz.ntmps114
    go_wp2_with fail
    refine ND.out.mono ?_
    rintro e w' ⟨rfl, rfl⟩
    go_wp2_with fail
    refine HF.out.mono ?_
    rintro e w' ⟨rfl, k, v', dk, rfl, hF⟩
    have hcv : (convert 86 9 (.slice (some ⟨w.heap.size, 0, none⟩) (Lib.nDigits u) 24)).run Tryz.prog ((putRow (fun (b : UInt8) => Value.int .u8 (b.toNat : Int)) (w.alloc (.cells Lib.zeros24 153)) w.heap.size 0 dk).drewN k) = .ok (.string ⟨(Lib.decDigits u).toArray⟩) ((putRow (fun (b : UInt8) => Value.int .u8 (b.toNat : Int)) (w.alloc (.cells Lib.zeros24 153)) w.heap.size 0 dk).drewN k) := by
      have h := run_convert_bytes_back (P := Tryz.prog) ((putRow (fun (b : UInt8) => Value.int .u8 (b.toNat : Int)) (w.alloc (.cells Lib.zeros24 153)) w.heap.size 0 dk).drewN k) 86 9 5 ⟨w.heap.size, 0, none⟩ 24 (Lib.decDigits u) Tryz.underlying86 Tryz.underlying5 Tryz.underlying9 (fun j hj => by
        rw [Lib.row_is_numeral hF j hj, Lib.add_plain, World.cell?_drewN]
        exact cell?_putRow (fun (b : UInt8) => Value.int .u8 (b.toNat : Int)) _ w.heap.size 0 _ dk HH0.out (by rw [hF.size, Array.size_replicate]) j (by rw [hF.size]; rw [Lib.decDigits_length] at hj; exact hj))
      rw [Lib.decDigits_length] at h
      exact h
    go_wp2
    go_ret
    obtain ⟨os, eo⟩ := fin_at w (.cells Lib.zeros24 153) dk k 0
    exact ⟨rfl, by rw [eo]; exact below_grow w k os⟩
theorem FormatUint_any (u : Nat) (w : World) (hu64 : u < 18446744073709551616) (htab : Lib.TabIs Tryz.prog w "internal/strconv.uint64pow10" .u64 Lib.pow10Tab) :
    Calls Tryz.prog 96 #[.int .u64 u, .int .i64 10] w fun e w' => e = .returned (.string ⟨(Lib.decDigits u).toArray⟩) ∧ Below w.heap.size w w' := by
  have F := Lib.hid (fmt_inner u w hu64 htab)
  clear htab
  go_enter Tryz.func96, Tryz.ntmps96
  go_wp2_with fail
  refine F.out.mono ?_
  rintro e w' ⟨rfl, hb⟩
  go_wp2
  go_ret
  exact ⟨rfl, hb⟩
end Go.Proofs.YthlgjbmkealjjaaGreatDoor

namespace Go.Proofs.YthlgjbmkealjjaaGreatDoor
open Go.RowKit Go.Shelf Go.Lib
set_option linter.unusedVariables false

theorem three (b : Nat) (h : b < 100) : Lib.decDigits (b + 100) = [49, UInt8.ofNat (48 + b / 10), UInt8.ofNat (48 + b % 10)] := by
  revert h
  revert b
  decide +kernel
theorem decs_le (u : Nat) (h : u < 18446744073709551616) : (⟨(Lib.decDigits u).toArray⟩ : ByteArray).size ≤ 20 := by
  show (Lib.decDigits u).toArray.size ≤ 20
  rw [List.size_toArray, Lib.decDigits_length]
  rcases Nat.eq_zero_or_pos u with rfl | h1
  · decide +kernel
  · have := Lib.numDigits_eq u h1 h; split at this <;> omega
/-- An amount as text. -/
def textB (v : Int) : ByteArray :=
  if v < 0 then (⟨#[45]⟩ : ByteArray) ++ ((⟨(Lib.decDigits (v.natAbs / 100)).toArray⟩ : ByteArray) ++ ⟨#[46]⟩ ++ (⟨[49, UInt8.ofNat (48 + v.natAbs % 100 / 10), UInt8.ofNat (48 + v.natAbs % 100 % 10)].toArray⟩ : ByteArray).extract 1 3)
  else (⟨(Lib.decDigits (v.natAbs / 100)).toArray⟩ : ByteArray) ++ ⟨#[46]⟩ ++ (⟨[49, UInt8.ofNat (48 + v.natAbs % 100 / 10), UInt8.ofNat (48 + v.natAbs % 100 % 10)].toArray⟩ : ByteArray).extract 1 3
set_option maxHeartbeats 1000000 in
theorem Text_any (v : Int) (w : World) (h0 : -9223372036854775808 ≤ v) (h1 : v ≤ 9223372036854775807) (htab : ∀ W, Below w.heap.size w W → Lib.TabIs Tryz.prog W "internal/strconv.uint64pow10" .u64 Lib.pow10Tab) :
    Calls Tryz.prog 65 #[.int .i64 v] w fun e w' => e = .returned (.string (textB v)) ∧ Below w.heap.size w w' := by
  unfold textB
  have S := Lib.hid (size_any v w h0 h1)
  have hn : v.natAbs ≤ 9223372036854775808 := by omega
  generalize hN : v.natAbs = n at *
  have F1 := Lib.hid (fun W (hW : Below w.heap.size w W) => FormatUint_any (n / 100) W (by omega) (htab W hW))
  have F2 := Lib.hid (fun W (hW : Below w.heap.size w W) => FormatUint_any (n % 100 + 100) W (by omega) (htab W hW))
  have q1 : (n : Int) / 100 = ((n / 100 : Nat) : Int) := rfl
  have q2 : (n : Int) % 100 + 100 = ((n % 100 + 100 : Nat) : Int) := by omega
  clear htab
  have D1 := decs_le (n / 100) (by omega)
  have D2 := three (n % 100) (Nat.mod_lt _ (by omega))
  rw [D2] at F2
  clear D2
  generalize n / 100 = a at *
  generalize n % 100 + 100 = b at *
  generalize UInt8.ofNat (48 + n % 100 / 10) = x at *
  generalize UInt8.ofNat (48 + n % 100 % 10) = y at *
  generalize (⟨(Lib.decDigits a).toArray⟩ : ByteArray) = s1 at *
  have ex : (⟨[49, x, y].toArray⟩ : ByteArray) = ⟨#[49, x, y]⟩ := rfl
  rw [ex]
  rw [ex] at F2
  clear ex
  by_cases hv : v < 0
  · rw [if_pos hv]
    go_enter Tryz.func65, Tryz.ntmps65
    go_wp2_with fail
    refine S.out.mono ?_
    rintro e w' ⟨rfl, rfl⟩
    go_wp2_with fail
    refine (F1.out _ (Below.refl _ _)).mono ?_
    rintro e w1 ⟨rfl, hb1⟩
    go_wp2_with fail
    refine (F2.out _ hb1).mono ?_
    rintro e w2 ⟨rfl, hb2⟩
    go_wp2_with fail
    go_ret
    exact ⟨rfl, hb1.trans (hb2.mono hb1.size)⟩
  · rw [if_neg hv]
    go_enter Tryz.func65, Tryz.ntmps65
    go_wp2_with fail
    refine S.out.mono ?_
    rintro e w' ⟨rfl, rfl⟩
    go_wp2_with fail
    refine (F1.out _ (Below.refl _ _)).mono ?_
    rintro e w1 ⟨rfl, hb1⟩
    go_wp2_with fail
    refine (F2.out _ hb1).mono ?_
    rintro e w2 ⟨rfl, hb2⟩
    go_wp2_with fail
    go_ret
    exact ⟨rfl, hb1.trans (hb2.mono hb1.size)⟩
theorem text5 : textB (-5) = ⟨#[45, 48, 46, 48, 53]⟩ := by decide +kernel
end Go.Proofs.YthlgjbmkealjjaaGreatDoor
