/-
  block.Build. No statement is proved here.
-/
import Derived.Test.YthaciglechijkaaBlkA
namespace Go.Proofs.Ythaciglechijkaa
open Go.RowKit
set_option linter.unusedVariables false

set_option maxHeartbeats 1000000 in
theorem long_any (Ak : Option Addr) (mk ck : Nat) (Av : Option Addr) (mv cv : Nat) (w : World) :
    Calls Try.prog 18 #[.agg #[.slice Ak mk ck, .slice Av mv cv]] w fun e w' => e = .returned (.bool (decide (200 < mk) || decide (4096 < mv))) ∧ Below w.heap.size w w' := by
  by_cases h1 : 200 < mk
  · go_enter Try.func18, Try.ntmps18
    go_wp2
    go_ret
    exact ⟨ret_bool (by first | rfl | simp [h1] | (rw [Bool.eq_iff_iff]; simp; omega)), (Below.refl _ _).alloc (Nat.le_refl _) _⟩
  · go_enter Try.func18, Try.ntmps18
    go_wp2
    go_ret
    refine ⟨ret_bool ?_, (Below.refl _ _).alloc (Nat.le_refl _) _⟩
    rw [Bool.eq_iff_iff]
    simp
    try omega
set_option maxHeartbeats 1000000 in
theorem index_any (A : Option Addr) (n c : Nat) (ps : List PairV) (w : World) (h : RdQ w A n ps) (hn : n ≤ 10000000000000) :
    Calls Try.prog 31 #[.slice A n c, .func (.func 18) #[] #[]] w fun e w' => ∃ i : Int, e = .returned (.int .i64 i) ∧ -1 ≤ i ∧ (0 ≤ i ↔ ps.any PairV.long = true) ∧ Below w.heap.size w w' := by
  have HX := Lib.hid h
  have HN : Hid (ps.length = n) := Lib.hid h.len
  clear h
  go_enter Try.func31, Try.ntmps31
  go_wp2_with fail
  go_loopw [8] (fun t wr => ∃ k : Nat, k ≤ n ∧ t = .int .i64 k ∧ Hid (∀ p ∈ ps.take k, p.long = false) ∧ Hid (Below w.heap.size w wr)) (fun t _ => n - (intOf t).toNat)
  case atStart => exact ⟨0, by omega, rfl, Lib.hid (by simp), Lib.hid (Below.refl _ _)⟩
  case round =>
    obtain ⟨k, hk, rfl, HP, HB⟩ := hrel
    by_cases hlt : k < n
    · have hkl : k < ps.length := by rw [HN.out]; exact hlt
      obtain ⟨b, off, rfl, hc⟩ := (HX.out.below HB.out).ex (by omega)
      obtain ⟨Ak, mk, ck, Av, mv, cv, c0, c1, r0, r1, _, _⟩ := hc k hkl
      have HC := Lib.hid (fun w => long_any Ak mk ck Av mv cv w)
      have hL : (decide (200 < mk) || decide (4096 < mv)) = ps[k].long := by
        unfold PairV.long
        rw [r0.len, r1.len]
      rw [hL] at HC
      have HM := Lib.hid (List.getElem_mem hkl)
      have HT : Hid (ps[k].long = false → ∀ p ∈ ps.take (k + 1), p.long = false) := Lib.hid fun h p hp => by
        rw [take_snoc' _ _ hkl] at hp
        rcases List.mem_append.1 hp with h1 | h1
        · exact HP.out p h1
        · simp at h1; rw [h1]; exact h
      clear hc r0 r1 hL
      generalize hp : ps[k] = p at *
      go_wp2_with fail
      refine (HC.out _).mono ?_
      rintro e w2 ⟨rfl, hb2⟩
      cases hlg : p.long
      · have HT2 := Lib.hid (HT.out hlg)
        go_wp2
        go_roundw
        case rel => exact ⟨k + 1, by omega, by go_num, HT2, Lib.hid (HB.out.trans (hb2.mono HB.out.size))⟩
        case measure => (try simp [intOf]) <;> (try omega)
      · have hany : ps.any PairV.long = true := List.any_eq_true.2 ⟨p, HM.out, hlg⟩
        go_wp2
        go_ret
        exact ⟨(k : Int), rfl, by omega, ⟨fun _ => hany, fun _ => by omega⟩, HB.out.trans (hb2.mono HB.out.size)⟩
    · have hany : ¬ ps.any PairV.long = true := by
        rw [List.any_eq_true]
        rintro ⟨p, hp, hl⟩
        have := HP.out p (by rw [List.take_of_length_le (by rw [HN.out]; omega)]; exact hp)
        rw [this] at hl
        cases hl
      go_wp2
      go_ret
      exact ⟨-1, rfl, by omega, ⟨fun h => by omega, fun h => absurd h hany⟩, HB.out⟩
theorem contains_any (A : Option Addr) (n c : Nat) (ps : List PairV) (w : World) (h : RdQ w A n ps) (hn : n ≤ 10000000000000) :
    Calls Try.prog 19 #[.slice A n c, .func (.func 18) #[] #[]] w fun e w' => e = .returned (.bool (ps.any PairV.long)) ∧ Below w.heap.size w w' := by
  have IX := Lib.hid (index_any A n c ps w h hn)
  generalize ps.any PairV.long = L at *
  go_enter Try.func19, Try.ntmps19
  go_wp2_with fail
  refine IX.out.mono ?_
  rintro e w2 ⟨i, rfl, hi, hiff, hb⟩
  go_wp2
  go_ret
  have hd : L = decide (0 ≤ i) := by
    rw [Bool.eq_iff_iff, decide_eq_true_eq]
    exact hiff.symm
  exact ⟨ret_bool (by first | rfl | exact hd | exact hd.symm), hb⟩
end Go.Proofs.Ythaciglechijkaa
