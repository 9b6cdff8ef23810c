/-
  The iterator of frame.frames.
-/
import Derived.RangeFuncNested
import Derived.RangeFuncBound
import Derived.RangeFuncCalls
import Derived.RangeFuncLeaves
import Derived.Shelf.Abstract
import Derived.Shelf.RegionOpen
import Derived.WalkKit
import Derived.OwnWalkIn
import Derived.TacticsInMore
import Derived.LoopNIn
import Derived.LoopIn
import Derived.Test.YtcpojhckgoinmaaFrameD
namespace Go.Proofs.Ytcpojhckgoinmaa
open Go.RowKit Go.Shelf
set_option linter.unusedVariables false
attribute [local go_sem] Oper.semAt_some

theorem keeps_below {B : Nat} {W W' : World} (h : Below W.heap.size W W') : KeepsFrom B W W' := ⟨h.size, fun k o _ hk _ => (h.block k (Array.getElem?_eq_some_iff.1 hk).1).trans hk⟩
set_option maxRecDepth 100000 in
set_option maxHeartbeats 4000000 in
theorem frames_it (m : Nat) (w0 : World) (A : Option Addr) (n c : Nat) (xs : List UInt8) (hA : RdB w0 A n xs) (hm : n ≤ 1000000000) (hc : n ≤ c) :
    Iterates m Try.prog 29 #[.pointer (some ⟨w0.heap.size + 3, 0, none⟩), .pointer (some ⟨w0.heap.size + 4, 0, none⟩)] encR (w0.heap.size + 5) (Jn w0 A n c xs) (Nn w0 A n c xs) (Fn w0 A n c xs) := by
  intro l BK W hBK hY hJ0 hB0
  have HR := Lib.hid (fun p W hW => Read_any A n c p W xs hW (by omega) hc)
  have HL := Lib.hid hA.len
  have HX := Lib.hid hA
  have HY := Lib.hid hY
  have HB := Lib.hid hBK
  clear hA hY hBK
  refine callsIn_of_wp Try.func29 rfl trivial ?_
  simp only [Try.ntmps29, List.size_toArray, List.length_cons, List.length_nil, Nat.reduceAdd, Nat.reduceSub, Array.replicate_succ, Array.replicate_zero, List.push_toArray, List.append_toArray, List.nil_append, List.cons_append]
  gi_wp2
  gi_loopw [4] (fun p wr => ∃ pre : List Rnd, p = .int .i64 (kOf pre : Int) ∧ Jn w0 A n c xs pre wr ∧ BK wr) (fun p _ => n - (intOf p).toNat)
  case atStart => exact ⟨[], rfl, hJ0, hB0⟩
  case round =>
    obtain ⟨pre, rfl, ⟨v, e, hst, hj⟩, hbk⟩ := hrel
    have hbx : wr.cell? ⟨w0.heap.size + 3, 0, none⟩ = some (.slice A n c) := by rw [cell_of_row _ _ _ _ _ _ hj.box]; rfl
    have hcall := (HR.out (kOf pre) wr (HX.out.below hj.bel))
    have HCALL := Lib.hid hcall
    have HJ := Lib.hid hj
    have HS := Lib.hid hst
    clear hcall hj hst
    gi_wp2_with fail
    refine ⟨trivial, fun h => by simp [Fence.wide] at h, (callsIn_wide.2 HCALL.out).mono ?_⟩
    rintro e1 w1 ⟨u, rfl, hu, hb1⟩
    have hj1 := HJ.out.below hb1
    have hwp : w1.cell? ⟨w0.heap.size + 4, 0, none⟩ = some (.pointer (some ⟨w0.heap.size + 2, 0, none⟩)) := by rw [cell_of_row _ _ _ _ _ _ hj1.ptr]; rfl
    have hwc : w1.cell? ⟨w0.heap.size + 2, 0, none⟩ = some (.int .i64 e) := by rw [cell_of_row _ _ _ _ _ _ hj1.why]; rfl
    have hwf : w1.frozen? ⟨w0.heap.size + 2, 0, none⟩ = false := by simp [World.frozen?, hj1.why]
    have hbk1 := HB.out _ _ hbk (keeps_below hb1)
    have hsz : w0.heap.size + 5 ≤ wr.heap.size := (Array.getElem?_eq_some_iff.1 HJ.out.ptr).1
    have hap := Lib.hid (apart HJ.out.own hu (Nat.le_refl _))
    by_cases he : (rd xs (kOf pre)).2.2 = 0
    · obtain ⟨hp, hq⟩ := rd_ok he
      have HS2 := Lib.hid (HS.out.step he)
      have HJ2 := Lib.hid (hj1.setWhy 0)
      have hu2 : OwnB (w1.setCell ⟨w0.heap.size + 2, 0, none⟩ (.int .i64 0)) (w0.heap.size + 5) u (rd xs (kOf pre)).1 :=
        (hu.mono hsz).same fun g hg => set_other _ _ _ _ hj1.why (by have := (hu.block g hg).1; omega)
      have hbk2 : BK (w1.setCell ⟨w0.heap.size + 2, 0, none⟩ (.int .i64 0)) := HB.out _ _ hbk1 ((KeepsOthers.setCell _ _ _).from _)
      rw [he, hp]
      generalize (rd xs (kOf pre)).1 = p at *
      have hN : Nn w0 A n c xs pre (kOf pre + 8 + p.length, u, p) (w1.setCell ⟨w0.heap.size + 2, 0, none⟩ (.int .i64 0)) := ⟨v, HS2.out, HJ2.out, hu2, hap.out⟩
      obtain ⟨fn, tmps, assign, body, hy, hR⟩ := HY.out pre (kOf pre + 8 + p.length, u, p) _ hN hbk2
      have HRR := Lib.hid hR
      have hk0 := kOf_snoc pre (kOf pre + 8 + p.length, u, p)
      rw [HL.out] at hq
      dsimp only [encR] at hy
      rw [show ((kOf pre + 8 + p.length : Nat) : Int) = (kOf pre : Int) + 8 + (p.length : Int) by simp] at hy
      clear hN hR hu hu2 hj1 hbk1 hbk2 hbk hb1 he hp
      gi_wp2
      refine ⟨fun h => by simp [Fence.wide] at h, HRR.out.mono ?_⟩
      rintro e2 w3 ⟨rfl, hJ3, hbk3⟩
      gi_wp2
      go_roundw
      case rel => exact ⟨pre ++ [(kOf pre + 8 + p.length, u, p)], by rw [hk0]; go_num, hJ3, hbk3⟩
      case measure => simp [intOf]; omega
    · have HF := Lib.hid (show Fn w0 A n c xs (w1.setCell ⟨w0.heap.size + 2, 0, none⟩ (.int .i64 (rd xs (kOf pre)).2.2)) from ⟨v, _, _, HS.out, hj1.setWhy _, he⟩)
      have hbk2 : BK (w1.setCell ⟨w0.heap.size + 2, 0, none⟩ (.int .i64 (rd xs (kOf pre)).2.2)) := HB.out _ _ hbk1 ((KeepsOthers.setCell _ _ _).from _)
      generalize (rd xs (kOf pre)).2.1 = nx at *
      generalize (rd xs (kOf pre)).2.2 = er at *
      have he2 : (er != 0) = true := by rw [bne_iff_ne]; exact he
      clear hu hj1 hbk1 hb1
      gi_wp2
      refine ⟨fun _ h => (by cases h), ?_⟩
      gi_wp2
      refine bodyPost_ret (results_none rfl _ _ _) rfl ?_
      exact ⟨⟨_, rfl⟩, HF.out, hbk2⟩
end Go.Proofs.Ytcpojhckgoinmaa
