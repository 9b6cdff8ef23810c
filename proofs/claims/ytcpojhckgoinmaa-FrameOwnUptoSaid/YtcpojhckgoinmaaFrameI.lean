/-
  The reference's Same of payloads, of whatever slices that read so.
-/
import Derived.Test.YtcpojhckgoinmaaFrameG
import Derived.Test.YtcpojhckgoinmaaOpenP
namespace Go.Proofs.Ytcpojhckgoinmaa
open Go.RowKit
set_option linter.unusedVariables false

theorem RdP.below {w w' : World} {A : Option Addr} {n : Nat} {ps : List (List UInt8)} (h : RdP w A n ps) (hb : Below w.heap.size w w') : RdP w' A n ps := by
  refine ⟨h.1, fun j hj => ?_⟩
  obtain ⟨b, off, Au, mu, cu, h1, h2, h3, h4⟩ := h.2 j hj
  obtain ⟨o, ho, _⟩ := cells_of_cell h2
  exact ⟨b, off, Au, mu, cu, h1, (hb.cell (p := ⟨b, off + j, none⟩) (Array.getElem?_eq_some_iff.1 ho).1).trans h2, h3.below hb, h4⟩
theorem OwnP.rd {w : World} {base : Nat} {A : Option Addr} {m c : Nat} {ps : List (List UInt8)} (h : OwnP w base (.slice A m c) ps) : RdP w A ps.length ps := by
  refine ⟨rfl, fun j hj => ?_⟩
  obtain ⟨g, Au, mu, cu, h1, h2, h3, h4⟩ := h.cell j hj
  exact ⟨g, 0, Au, mu, cu, h1, by rw [Nat.zero_add]; exact h2, h3, h4⟩
set_option maxRecDepth 100000 in
set_option maxHeartbeats 2000000 in
theorem SameR_any (A B : Option Addr) (m0 n0 c d : Nat) (ps qs : List (List UInt8)) (w : World) (h : RdP w A m0 ps) (h' : RdP w B n0 qs) (hm : ps.length ≤ 1000000000) (hn : qs.length ≤ 1000000000) :
    Calls Try.prog 20 #[.slice A m0 c, .slice B n0 d] w fun e w' => e = .returned (.bool (decide (ps = qs))) ∧ Below w.heap.size w w' := by
  obtain rfl : m0 = ps.length := h.1.symm
  obtain rfl : n0 = qs.length := h'.1.symm
  generalize hd : decide (ps = qs) = D
  have HD := Lib.hid hd
  have H := Lib.hid h
  have H' := Lib.hid h'
  clear hd h h'
  by_cases hmn : ps.length = qs.length
  · have hmn' := Lib.hid hmn
    rw [hmn]
    generalize hk : qs.length = m at *
    have HL := Lib.hid hk
    have HL' : Hid (ps.length = m) := Lib.hid hmn
    clear hk hmn hmn' hm
    go_enter Try.func20, Try.ntmps20
    go_wp2
    go_loopw [13] (fun i wr => ∃ j : Nat, j ≤ m ∧ i = .int .i64 j ∧ Hid (ps.take j = qs.take j) ∧ Below w.heap.size w wr) (fun i _ => m - (intOf i).toNat)
    case atStart => exact ⟨0, by omega, rfl, Lib.hid (by simp), Below.refl _ _⟩
    case round =>
      obtain ⟨j, hj, rfl, hp, hb⟩ := hrel
      by_cases hlt : j < m
      · have h1 : j < ps.length := by rw [HL'.out]; exact hlt
        have h2 : j < qs.length := by rw [HL.out]; exact hlt
        obtain ⟨g1, o1, A1, m1, c1, rfl, x1, r1, _⟩ := (H.out.below hb).2 j h1
        obtain ⟨g2, o2, A2, m2, c2, rfl, x2, r2, _⟩ := (H'.out.below hb).2 j h2
        have HS := Lib.hid (sameP_step j h1 h2 hp.out)
        have HN : Hid (ps[j] ≠ qs[j] → D = false) := Lib.hid (fun h => by rw [← HD.out]; exact decide_eq_false (fun e => h (by subst e; rfl)))
        generalize ps[j] = x at *
        generalize qs[j] = y at *
        clear h1 h2
        have k1 := fun m => (r1.drewN m).conv (P := Try.prog) (src := 22) (dst := 9) Try.underlying22 Try.underlying5 Try.underlying9 c1
        have k2 := fun m => (r2.drewN m).conv (P := Try.prog) (src := 22) (dst := 9) Try.underlying22 Try.underlying5 Try.underlying9 c2
        clear r1 r2
        by_cases hxy : x = y
        · have HX := Lib.hid (HS.out hxy)
          subst hxy
          clear HN HS
          go_upto_region 6 with (fail)
          go_quiet (fail)
          go_wp2
          case roundEnd =>
            go_roundw
            case rel => exact ⟨j + 1, by omega, by go_num, HX, below_drewN hb _⟩
            case measure => simp [intOf]; omega
          all_goals (exfalso; simp_all; done)
        · have hD := HN.out hxy
          subst hD
          clear HN HS
          have hbb : (x == y) = false := by rw [beq_eq_false_iff_ne]; exact hxy
          have hdd : decide (x = y) = false := decide_eq_false hxy
          go_upto_region 6 with (fail)
          go_quiet (fail)
          go_wp2
          go_ret
          exact ⟨rfl, below_drewN hb _⟩
      · have hD : D = true := by rw [← HD.out]; exact decide_eq_true (by have := hp.out; rw [List.take_of_length_le (by rw [HL'.out]; omega), List.take_of_length_le (by rw [HL.out]; omega)] at this; exact this)
        subst hD
        go_wp2
        go_ret
        exact ⟨rfl, hb⟩
  · have hne : D = false := by rw [← HD.out]; exact decide_eq_false (fun h => hmn (by rw [h]))
    subst hne
    go_enter Try.func20, Try.ntmps20
    go_wp2
    go_ret
    exact ⟨rfl, Below.refl _ _⟩
end Go.Proofs.Ytcpojhckgoinmaa
