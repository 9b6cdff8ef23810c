/-
  The walk of amount.Split at any total and any weights. No statement is proved here.
-/
import Derived.Test.YtjniclalobggpaaDoorSplP
import Derived.Test.YtjniclalobggpaaDoorSplV
import Derived.Test.YtjniclalobggpaaDoorSoS
import Derived.Test.YtjniclalobggpaaDoorAmMD
import Derived.Test.YtjniclalobggpaaDoorAmSp
namespace Go.Proofs.YtjniclalobggpaaDoor
open Go.RowKit Go.Shelf Go.Sort
set_option linter.unusedVariables false

def rowI (L : Nat) (f : Nat → Int) : Array Value := ((List.range L).map fun i => Value.int .i64 (f i)).toArray
theorem rowI_size (L : Nat) (f : Nat → Int) : (rowI L f).size = L := by simp [rowI]
theorem rowI_at (L : Nat) (f : Nat → Int) (i : Nat) (h : i < L) : (rowI L f)[i]? = some (.int .i64 (f i)) := by simp [rowI, h]
theorem rowI_ext (L : Nat) (f g : Nat → Int) (h : ∀ i, i < L → f i = g i) : rowI L f = rowI L g := by
  unfold rowI
  congr 1
  refine List.map_congr_left fun i hi => ?_
  rw [h i (List.mem_range.1 hi)]
theorem rowI_set (L : Nat) (f : Nat → Int) (i : Nat) (v : Int) : (rowI L f).setIfInBounds i (.int .i64 v) = rowI L (fun k => if k = i then v else f k) := by
  refine Array.ext (by simp [rowI]) fun k h1 h2 => ?_
  rw [Array.getElem_setIfInBounds (by simpa using h1)]
  simp only [rowI, List.getElem_toArray, List.getElem_map, List.getElem_range]
  by_cases e : i = k
  · rw [if_pos e, if_pos e.symm]
  · rw [if_neg e, if_neg (fun h => e h.symm)]
theorem makeI (L : Nat) (hL : L ≤ 1024) (w : World) : (Instr.makeSlice 33 (.int .i64 (L : Int)) (.int .i64 (L : Int))).run Tryd.prog w = .ok (.slice (some ⟨w.heap.size, 0, none⟩) L L) (w.alloc (.cells (rowI L fun _ => 0) 2)) := by
  obtain ⟨i0, hi, hz0, hz1, hz2⟩ := info_parts infoI64
  have h := run_make (P := Tryd.prog) w 33 2 i0 (.int .i64 0) Tryd.underlying33 hi hz0 .i64 .i64 (L : Int) (L : Int) (by omega) (by omega) (by rw [hz2]; omega) (by omega)
  rw [hz1, Int.toNat_natCast, Nat.mul_one, show madeCells (Value.int .i64 0).cells L = rowI L fun _ => 0 from ?_] at h
  · exact h
  · refine Array.ext (by simp [madeCells, rowI]) fun k h1 h2 => ?_
    simp [madeCells, rowI, Value.cells, Nat.mod_one]
theorem encS_len (x : Nat × Nat) : (encS x).length = 2 := rfl
theorem flat_at (d : Array (Nat × Nat)) (j : Nat) (hj : j < d.size) : (flatK encS 2 d)[j * 2]? = some (.int .i64 (d[j]!).1) ∧ (flatK encS 2 d)[j * 2 + 1]? = some (.int .u64 (d[j]!).2) := by
  have h1 : j * 2 < (flatK encS 2 d).size := by rw [size_flatK]; omega
  have h2 : j * 2 + 1 < (flatK encS 2 d).size := by rw [size_flatK]; omega
  rw [Array.getElem?_eq_getElem h1, Array.getElem?_eq_getElem h2, ← getElem!_pos (flatK encS 2 d) (j * 2) h1, ← getElem!_pos (flatK encS 2 d) (j * 2 + 1) h2, get_flatK _ _ _ _ (by omega), get_flatK _ _ _ _ (by omega)]
  rw [show j * 2 / 2 = j by omega, show j * 2 % 2 = 0 by omega, show (j * 2 + 1) / 2 = j by omega, show (j * 2 + 1) % 2 = 1 by omega]
  exact ⟨rfl, rfl⟩
theorem flat_set (d : Array (Nat × Nat)) (j : Nat) (hj : j < d.size) (x : Nat × Nat) : ((flatK encS 2 d).setIfInBounds (j * 2) (.int .i64 x.1)).setIfInBounds (j * 2 + 1) (.int .u64 x.2) = flatK encS 2 (d.setIfInBounds j x) := by
  refine ext_get! (by simp) fun t ht => ?_
  have ht' : t < d.size * 2 := by simpa using ht
  rw [get_flatK _ _ _ t (by simpa using ht')]
  have g : ∀ (a : Array Value) (i : Nat) (v : Value), t < a.size → (a.setIfInBounds i v)[t]! = if i = t then v else a[t]! := fun a i v h => by
    rw [getElem!_pos _ t (by simpa using h), Array.getElem_setIfInBounds, getElem!_pos _ t h]
  have g2 : (d.setIfInBounds j x)[t / 2]! = if j = t / 2 then x else d[t / 2]! := by
    rw [getElem!_pos _ (t / 2) (by simp; omega), Array.getElem_setIfInBounds, getElem!_pos _ (t / 2) (by omega)]
  rw [g _ _ _ (by simpa using ht'), g _ _ _ (by simpa using ht'), get_flatK _ _ _ t ht', g2]
  by_cases e : j = t / 2
  · rw [if_pos e]
    rcases (show t = j * 2 ∨ t = j * 2 + 1 by omega) with rfl | rfl
    · rw [if_neg (by omega), if_pos rfl, show j * 2 % 2 = 0 by omega]; rfl
    · rw [if_pos rfl, show (j * 2 + 1) % 2 = 1 by omega]; rfl
  · rw [if_neg (by omega), if_neg (by omega), if_neg e]
def zeroS (L : Nat) : Array (Nat × Nat) := Array.replicate L (0, 0)
theorem makeS (L : Nat) (hL : L ≤ 1024) (w : World) : (Instr.makeSlice 66 (.int .i64 (L : Int)) (.int .i64 (L : Int))).run Tryd.prog w = .ok (.slice (some ⟨w.heap.size, 0, none⟩) L L) (w.alloc (.cells (flatK encS 2 (zeroS L)) 69)) := by
  obtain ⟨i0, hi, hz0, hz1, hz2⟩ := info_parts infoShare
  have h := run_make (P := Tryd.prog) w 66 69 i0 (.agg #[.int .i64 0, .int .u64 0]) Tryd.underlying66 hi hz0 .i64 .i64 (L : Int) (L : Int) (by omega) (by omega) (by rw [hz2]; omega) (by omega)
  rw [hz1, Int.toNat_natCast, show madeCells (Value.agg #[.int .i64 0, .int .u64 0]).cells (L * 2) = flatK encS 2 (zeroS L) from ?_] at h
  · exact h
  · refine Array.ext (by simp [madeCells, zeroS]) fun k h1 h2 => ?_
    have hk : k < L * 2 := by simpa [madeCells] using h1
    have e := get_flatK encS 2 (zeroS L) k (by simpa [zeroS] using hk)
    rw [getElem!_pos _ k h2] at e
    rw [e]
    have e2 : (zeroS L)[k / 2]! = (0, 0) := by
      rw [getElem!_pos _ (k / 2) (by simp [zeroS]; omega)]; simp [zeroS]
    rw [e2]
    rcases (show k % 2 = 0 ∨ k % 2 = 1 by omega) with h | h <;> simp [madeCells, Value.cells, encS, h]
/-- The shares as far as j. -/
def upTo (L j : Nat) (d : Array (Nat × Nat)) : Array (Nat × Nat) := ((List.range L).map fun i => if i < j then d[i]! else (0, 0)).toArray
theorem upTo_size (L j : Nat) (d : Array (Nat × Nat)) : (upTo L j d).size = L := by simp [upTo]
theorem upTo_zero (L : Nat) (d : Array (Nat × Nat)) : upTo L 0 d = zeroS L := by
  refine Array.ext (by simp [upTo, zeroS]) fun k h1 h2 => ?_
  simp [upTo, zeroS]
theorem upTo_end (L : Nat) (d : Array (Nat × Nat)) (h : d.size = L) : upTo L L d = d := by
  refine Array.ext (by simp [upTo, h]) fun k h1 h2 => ?_
  have : k < L := by omega
  simp [upTo, this, h2]
theorem upTo_set (L j : Nat) (d : Array (Nat × Nat)) (hj : j < L) : (upTo L j d).setIfInBounds j d[j]! = upTo L (j + 1) d := by
  refine Array.ext (by simp [upTo]) fun k h1 h2 => ?_
  have hk : k < L := by simpa [upTo] using h2
  rw [Array.getElem_setIfInBounds (by simpa using h1)]
  simp only [upTo, List.getElem_toArray, List.getElem_map, List.getElem_range]
  by_cases e : j = k
  · subst e; rw [if_pos rfl, if_pos (by omega)]
  · rw [if_neg e]
    by_cases e2 : k < j
    · rw [if_pos e2, if_pos (by omega)]
    · rw [if_neg e2, if_neg (by omega)]

/-! ### refusals -/
section
variable {w : World} {b off n : Nat} {x : Nat → Int}
set_option maxHeartbeats 1000000 in
theorem Split_long (total : Int) (A : Option Addr) (n c : Nat) (w : World) (h : n < 1 ∨ 1024 < n) :
    Calls Tryd.prog 16 #[.int .i64 total, .slice A n c] w fun e w' => e = .returned (.tuple #[.slice none 0 0, .int .i64 3]) ∧ Below w.heap.size w w' := by
  rcases h with h | h
  · obtain rfl : n = 0 := by omega
    go_enter Tryd.func16, Tryd.ntmps16
    go_wp2
    go_ret2
    exact ⟨rfl, Below.refl _ _⟩
  · have h1 : decide ((n : Int) < 1) = false := decide_eq_false (by omega)
    have h2 : decide (1024 < (n : Int)) = true := decide_eq_true (by omega)
    have h3 : ¬ (n : Int) < 1 := by omega
    have h4 : (1024 : Int) < n := by omega
    go_enter Tryd.func16, Tryd.ntmps16
    go_wp2
    go_ret2
    exact ⟨rfl, Below.refl _ _⟩
set_option maxHeartbeats 1000000 in
theorem Split_bad (total : Int) (c : Nat) (ws : List Nat) (k : Nat) (h1 : 1 ≤ n) (h2 : n ≤ 1024) (hc : ∀ j, j < n → w.cell? ⟨b, off + j, none⟩ = some (.int .i64 (x j)))
    (hk : k < n) (hok : ∀ j, j < k → x j = (wAt ws j : Int) ∧ wAt ws j ≤ 1000000000) (hbad : x k < 0 ∨ 1000000000 < x k) :
    Calls Tryd.prog 16 #[.int .i64 total, .slice (some ⟨b, off, none⟩) n c] w fun e w' => e = .returned (.tuple #[.slice none 0 0, .int .i64 2]) ∧ Below w.heap.size w w' := by
  have g1 : ¬ (n : Int) < 1 := by omega
  have g2 : ¬ (1024 : Int) < n := by omega
  have HC := Lib.hid hc
  have HK := Lib.hid hok
  have HS : Hid (∀ j, j ≤ k → wsum ws j ≤ j * 1000000000) := Lib.hid fun j hj => sumTo_le _ _ _ fun i hi => (hok i (by omega)).2
  clear hc hok
  go_enter Tryd.func16, Tryd.ntmps16
  go_wp2_with fail
  go_loopw [6, 32] (fun s i wr => ∃ j : Nat, j ≤ k ∧ s = .int .u64 (wsum ws j : Nat) ∧ i = .int .i64 j ∧ wr = w) (fun _ i _ => k - (intOf i).toNat)
  case atStart => exact ⟨0, by omega, rfl, rfl, rfl⟩
  case round =>
    obtain ⟨j, hj, rfl, rfl, rfl⟩ := hrel
    have hcj := HC.out j (by omega)
    have hjn : (j : Int) < (n : Int) := by omega
    by_cases hlt : j < k
    · have hs := HS.out j (by omega)
      have hs2 := HS.out (j + 1) (by omega)
      obtain ⟨e1, e2⟩ := HK.out j hlt
      rw [e1] at hcj
      have q1 : ¬ (wAt ws j : Int) < 0 := by omega
      have q2 : ¬ (1000000000 : Int) < (wAt ws j : Int) := by omega
      have q3 : IntKind.u64.wrap ((wsum ws j : Int) + (wAt ws j : Int)) = ((wsum ws (j + 1) : Nat) : Int) := by
        show IntKind.u64.wrap _ = ((sumTo (wAt ws) j + wAt ws j : Nat) : Int)
        rw [IntKind.wrap_u64]
        unfold wsum at *
        omega
      have q4 : IntKind.u64.wrap (wAt ws j : Int) = (wAt ws j : Int) := wrapU _ (by omega)
      have Q3 := Lib.hid q3
      clear e1 q3 hs hs2 hbad
      generalize wAt ws j = a at *
      generalize wsum ws j = s at *
      go_wp2_with fail
      go_roundw
      case rel => exact ⟨j + 1, by omega, by (first | rw [Q3.out] | (rw [← Q3.out]; rw [IntKind.wrap_u64]; congr 1; omega)), by go_num, by simp⟩
      case measure => simp [intOf]; omega
    · obtain rfl : j = k := by omega
      rcases hbad with hb | hb
      · go_wp2
        go_ret2
        exact ⟨rfl, Below.refl _ _⟩
      · have q1 : ¬ x j < 0 := by omega
        go_wp2
        go_ret2
        exact ⟨rfl, Below.refl _ _⟩
end
set_option maxHeartbeats 1000000 in
theorem Split_zero (total : Int) (c : Nat) (ws : List Nat) (b off n : Nat) (x : Nat → Int) (w : World) (h1 : 1 ≤ n) (h2 : n ≤ 1024) (hc : ∀ j, j < n → w.cell? ⟨b, off + j, none⟩ = some (.int .i64 (x j)))
    (hok : ∀ j, j < n → x j = (wAt ws j : Int) ∧ wAt ws j ≤ 1000000000) (hbad : wsum ws n = 0 ∨ total < -1000000000000000 ∨ 1000000000000000 < total) :
    Calls Tryd.prog 16 #[.int .i64 total, .slice (some ⟨b, off, none⟩) n c] w fun e w' => e = .returned (.tuple #[.slice none 0 0, .int .i64 2]) ∧ Below w.heap.size w w' := by
  have g1 : ¬ (n : Int) < 1 := by omega
  have g2 : ¬ (1024 : Int) < n := by omega
  have HC := Lib.hid hc
  have HK := Lib.hid hok
  have HB := Lib.hid hbad
  have HS : Hid (∀ j, j ≤ n → wsum ws j ≤ j * 1000000000) := Lib.hid fun j hj => sumTo_le _ _ _ fun i hi => (hok i (by omega)).2
  clear hc hok hbad
  go_enter Tryd.func16, Tryd.ntmps16
  go_wp2_with fail
  go_loopw [6, 32] (fun s i wr => ∃ j : Nat, j ≤ n ∧ s = .int .u64 (wsum ws j : Nat) ∧ i = .int .i64 j ∧ wr = w) (fun _ i _ => n - (intOf i).toNat)
  case atStart => exact ⟨0, by omega, rfl, rfl, rfl⟩
  case round =>
    obtain ⟨j, hj, rfl, rfl, rfl⟩ := hrel
    by_cases hlt : j < n
    · have hcj := HC.out j hlt
      have hjn : (j : Int) < (n : Int) := by omega
      have hs := HS.out j (by omega)
      have hs2 := HS.out (j + 1) (by omega)
      obtain ⟨e1, e2⟩ := HK.out j hlt
      rw [e1] at hcj
      have q1 : ¬ (wAt ws j : Int) < 0 := by omega
      have q2 : ¬ (1000000000 : Int) < (wAt ws j : Int) := by omega
      have q3 : IntKind.u64.wrap ((wsum ws j : Int) + (wAt ws j : Int)) = ((wsum ws (j + 1) : Nat) : Int) := by
        show IntKind.u64.wrap _ = ((sumTo (wAt ws) j + wAt ws j : Nat) : Int)
        rw [IntKind.wrap_u64]
        unfold wsum at *
        omega
      have q4 : IntKind.u64.wrap (wAt ws j : Int) = (wAt ws j : Int) := wrapU _ (by omega)
      have Q3 := Lib.hid q3
      clear e1 q3 hs hs2
      generalize wAt ws j = a at *
      generalize wsum ws j = s at *
      go_wp2_with fail
      go_roundw
      case rel => exact ⟨j + 1, by omega, by (first | rw [Q3.out] | (rw [← Q3.out]; rw [IntKind.wrap_u64]; congr 1; omega)), by go_num, by simp⟩
      case measure => simp [intOf]; omega
    · obtain rfl : j = n := by omega
      have hbad := HB.out
      by_cases z : wsum ws j = 0
      · have z1 : (((wsum ws j : Nat) : Int) == 0) = true := by rw [z]; rfl
        clear hbad z HS
        go_wp2
        go_ret2
        exact ⟨rfl, Below.refl _ _⟩
      · have z1 : (((wsum ws j : Nat) : Int) == 0) = false := by rw [beq_eq_false_iff_ne]; omega
        by_cases y : total < -1000000000000000
        · clear hbad z HS
          go_wp2
          go_ret2
          exact ⟨rfl, Below.refl _ _⟩
        · have y2 : 1000000000000000 < total := by omega
          clear hbad z HS
          go_wp2
          go_ret2
          exact ⟨rfl, Below.refl _ _⟩
end Go.Proofs.YtjniclalobggpaaDoor
