/-
  Postings, Trial at any journal; SamePostings over what is alike. No statement is proved here.
-/
import Derived.Test.YtpmbbhefcejjlaaLedS
import Derived.BigQuiet
namespace Go.Proofs.Ytpmbbhefcejjlaa
open Go.RowKit
set_option linter.unusedVariables false

def Dr (w w' : World) : Prop := ∃ m, w' = w.drewN m
theorem Dr.refl (w : World) : Dr w w := ⟨0, rfl⟩
theorem Dr.more {w w' : World} (h : Dr w w') (n : Nat) : Dr w (w'.drewN n) := by
  obtain ⟨m, rfl⟩ := h
  exact ⟨m + n, by rw [World.drewN_drewN]⟩
theorem Dr.below {w w' : World} (h : Dr w w') : Below w.heap.size w w' := by
  obtain ⟨m, rfl⟩ := h
  exact belowD (Below.refl _ _) m
set_option maxRecDepth 100000 in
set_option maxHeartbeats 2000000 in
theorem Same_eq (A B : Option Addr) (m c d : Nat) (ls : List (Int × Int)) (w : World) (hA : RdL w A m ls) (hB : RdL w B m ls) (hm : m ≤ 8796093022208) :
    Calls Try.prog 12 #[.slice A m c, .slice B m d] w fun e w' => e = .returned (.bool true) ∧ Dr w w' := by
  have hl1 := Lib.hid hA.len
  go_enter Try.func12, Try.ntmps12
  go_wp2
  go_loopw [13] (fun i wr => ∃ j : Nat, j ≤ m ∧ i = .int .i64 j ∧ Hid (Dr w wr)) (fun i _ => m - (intOf i).toNat)
  case atStart => exact ⟨0, by omega, rfl, Lib.hid (Dr.refl _)⟩
  case round =>
    obtain ⟨j, hj, rfl, hb⟩ := hrel
    obtain ⟨wa, rfl⟩ : ∃ x, x = wr := ⟨_, rfl⟩
    by_cases hlt : j < m
    · obtain ⟨a, o, rfl⟩ := hA.addr (by omega)
      obtain ⟨b, q, rfl⟩ := hB.addr (by omega)
      have h1 : j < ls.length := by rw [hl1.out]; exact hlt
      obtain ⟨c1, c2⟩ := (hA.below hb.out.below).cells j h1
      obtain ⟨d1, d2⟩ := (hB.below hb.out.below).cells j h1
      clear hA hB
      generalize ls[j] = x at *
      obtain ⟨x1, x2⟩ := x
      simp only at c1 c2 d1 d2
      rw [← Nat.add_assoc] at c2 d2
      clear h1
      have g4 := line_guard
      have g1 : ∀ W, (Op.equalIn 10000 35 (.agg #[.int .i64 x1, .int .i64 x2]) (.agg #[.int .i64 x1, .int .i64 x2])).run Try.prog W = .ok true W := fun W => by
        rw [line_equal x1 x2 x1 x2 W]
        simp
      go_upto_region 6 with (fail)
      go_quiet (fail)
      go_wp2
      go_roundw
      case rel => exact ⟨j + 1, by omega, by go_num, Lib.hid (hb.out.more _)⟩
      case measure => simp [intOf]; omega
    · go_wp2
      go_ret
      exact ⟨rfl, hb.out⟩
set_option maxRecDepth 100000 in
set_option maxHeartbeats 4000000 in
theorem SamePostings_eq (A B : Option Addr) (n c d : Nat) (ps : List PV) (w : World) (hA : RdP w A n ps) (hB : RdP w B n ps) (hn : n ≤ 900000) (hlen : ∀ p ∈ ps, p.lines.length ≤ 4398046511104) :
    Calls Try.prog 18 #[.slice A n c, .slice B n d] w fun e w' => e = .returned (.bool true) ∧ Dr w w' := by
  have HX := Lib.hid hA
  have HY := Lib.hid hB
  have HL := Lib.hid hlen
  have HN : Hid (ps.length = n) := Lib.hid hA.len
  clear hA hB hlen
  go_enter Try.func18, Try.ntmps18
  go_wp2_with fail
  go_loopw [13] (fun t wr => ∃ k : Nat, k ≤ n ∧ t = .int .i64 k ∧ Hid (Dr w wr)) (fun t _ => n - (intOf t).toNat)
  case atStart => exact ⟨0, Nat.zero_le _, rfl, Lib.hid (Dr.refl _)⟩
  case round =>
    obtain ⟨k, hk, rfl, HB⟩ := hrel
    obtain ⟨wa, rfl⟩ : ∃ x, x = wr := ⟨_, rfl⟩
    by_cases hlt : k < n
    · have hkl : k < ps.length := by rw [HN.out]; exact hlt
      obtain ⟨b0, off, rfl, hc⟩ := (HX.out.below HB.out.below).ex (by omega)
      obtain ⟨Al, ml, cl, p0, p1, p2, p3, hrl, hml⟩ := hc k hkl
      obtain ⟨b1, off1, rfl, hc1⟩ := (HY.out.below HB.out.below).ex (by omega)
      obtain ⟨Bl, ml1, dl, q0, q1, q2, q3, hrm, hml1⟩ := hc1 k hkl
      have hll := HL.out _ (List.getElem_mem hkl)
      obtain rfl : ml = ml1 := by rw [← hrl.len, ← hrm.len]
      have SQ := fun m => Same_eq Al Bl ml cl dl ps[k].lines (wa.drewN m) hrl hrm (by have := hrl.len; omega)
      have HSQ := Lib.hid SQ
      clear hc hc1 hll hrl hrm SQ
      generalize ps[k] = p at *
      go_wp2_with fail
      go_quiet (first | (go_at_call 12; refine Calls.quiet_of (HSQ.out _)))
      go_wp2
      go_roundw
      case rel => exact ⟨k + 1, by omega, by go_num, Lib.hid (HB.out.more _)⟩
      case measure => (try simp [intOf]) <;> (try omega)
    · go_wp2
      go_ret
      exact ⟨rfl, HB.out⟩
set_option maxRecDepth 100000 in
set_option maxHeartbeats 2000000 in
theorem Postings_jw (w : World) (g base lo hi : Nat) (ps : List PV) (cl a b : Int) (h : JW w g base lo hi ps cl) :
    Calls Try.prog 16 #[.pointer (some ⟨g, 0, none⟩), .int .i64 a, .int .i64 b] w fun e w' => ∃ v qs, e = .returned v ∧ pvs qs = ps.filter (inDays a b) ∧ OwnJ w' w.heap.size v qs ∧ Below w.heap.size w w' := by
  obtain ⟨A, c, hcell, hr⟩ := h.rd
  have j0 : w.cell? ⟨g, 0, none⟩ = some (.slice A ps.length c) := by rw [cell_of_row _ _ _ _ _ _ hcell]; rfl
  have HW := Lib.hid (Within_any A ps.length c ps a b w hr (by have := h.len; omega) (fun p hp => by have := h.lines p hp; omega))
  clear hcell hr h
  go_enter Try.func16, Try.ntmps16
  go_wp2_with fail
  refine HW.out.mono ?_
  rintro e w1 ⟨v, qs, rfl, hp, ho, hb⟩
  go_wp2
  go_ret
  exact ⟨v, qs, rfl, hp, ho, hb⟩
set_option maxRecDepth 100000 in
set_option maxHeartbeats 2000000 in
theorem Trial_jw (w : World) (g base lo hi : Nat) (ps : List PV) (cl a b : Int) (h : JW w g base lo hi ps cl) :
    Calls Try.prog 17 #[.pointer (some ⟨g, 0, none⟩), .int .i64 a, .int .i64 b] w fun e w' => ∃ v, e = .returned v ∧ OwnL w' w.heap.size v (sumsOf (ps.filter (inDays a b))) ∧ Below w.heap.size w w' := by
  have HP := Lib.hid (Postings_jw w g base lo hi ps cl a b h)
  have HL : Hid (ps.length ≤ 65536) := Lib.hid h.len
  have HLL := Lib.hid h.lines
  clear h
  go_enter Try.func17, Try.ntmps17
  go_wp2_with fail
  refine HP.out.mono ?_
  rintro e w1 ⟨v, qs, rfl, hp, ho, hb⟩
  obtain ⟨A, c, rfl, hc, hr, _⟩ := ho.form
  have HS := Lib.hid (Sums_any A qs.length c (pvs qs) w1 hr (by
    have h1 := List.length_filter_le (inDays a b) ps
    rw [← hp, pvs_len] at h1
    have := HL.out
    omega) (fun p hpp => by
    rw [hp] at hpp
    have := HLL.out p (List.mem_filter.1 hpp).1
    omega))
  rw [hp] at HS
  have HB := Lib.hid hb
  clear hr hb ho hp
  go_wp2_with fail
  refine HS.out.mono ?_
  rintro e w2 ⟨v2, rfl, hv2, hb2⟩
  go_wp2
  go_ret
  exact ⟨v2, rfl, hv2.lower HB.out.size, HB.out.trans (hb2.mono HB.out.size)⟩
end Go.Proofs.Ytpmbbhefcejjlaa
