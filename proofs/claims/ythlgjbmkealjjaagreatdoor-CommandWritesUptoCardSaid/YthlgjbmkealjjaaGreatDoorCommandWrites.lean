/-
  The walk of the law CommandWrites: the program and the document write any command alike. No statement is proved here.
-/
import Derived.Test.YthlgjbmkealjjaaGreatDoorCmC
namespace Go.Proofs.YthlgjbmkealjjaaGreatDoor
open Go.RowKit
set_option linter.unusedVariables false
set_option maxRecDepth 100000 in
set_option maxHeartbeats 4000000 in
theorem CommandWrites_walk (c : Cm) (A : Option Addr) (n k : Nat) (w : World) (h : CmdIn w c A n k) :
    Calls Tryz.prog 4 #[.agg (cmCells c (.slice A n k))] w fun e w' => e = .returned (.bool true) ∧ Below w.heap.size w w' := by
  have WK : Hid (∀ W, Below w.heap.size w W → Calls Tryz.prog 7 #[] W fun e w' => e = .returned (.bool true) ∧ Below W.heap.size W w') := Lib.hid fun W hW => wakes_any W (vrs_at h.vrs hW)
  have OW := Lib.hid (fun W (hW : Below w.heap.size w W) => own_b h hW)
  have WR := Lib.hid (fun W (hW : Below w.heap.size w W) => Write_b h hW)
  have RW := Lib.hid (fun W (hW : Below w.heap.size w W) => refWrite_b h hW)
  generalize progW c = PW at *
  obtain ⟨X, er⟩ := PW
  dsimp only at *
  clear h
  unfold cmCells
  obtain ⟨W0, hW0⟩ : ∃ W0, W0 = w.alloc (.cells #[.string c.op, .string c.name, .slice A n k, .string c.text] 25) := ⟨_, rfl⟩
  obtain ⟨Nc, hNc⟩ : ∃ Nc, Nc = w.heap.size := ⟨_, rfl⟩
  have HC0 : Hid (W0.heap[Nc]? = some (.cells #[.string c.op, .string c.name, .slice A n k, .string c.text] 25 (0, 0))) := Lib.hid (by rw [hW0, hNc]; exact heap_alloc_new _ _)
  have HB0 : Hid (Below w.heap.size w W0) := Lib.hid (by rw [hW0]; exact (Below.refl _ _).alloc (Nat.le_refl _) _)
  have HZ : Hid (W0.heap.size = Nc + 1 ∧ Nc = w.heap.size) := Lib.hid ⟨by rw [hW0, hNc]; simp, hNc⟩
  go_enter Tryz.func4, Tryz.ntmps4
  go_upto_region 1 with (fail)
  rw [← hW0, ← hNc]
  clear hW0 hNc
  go_wp2_with fail
  refine (WK.out W0 HB0.out).mono ?_
  rintro e w1 ⟨rfl, hb1⟩
  have HK1 := Lib.hid hb1
  clear hb1
  have hB1 : Hid (Below w.heap.size w w1) := Lib.hid (HB0.out.trans (HK1.out.mono HB0.out.size))
  have hn0 : Nc < W0.heap.size := (Array.getElem?_eq_some_iff.1 HC0.out).1
  have h1 := (HK1.out.block _ hn0).trans HC0.out
  have hq1 := cells4 h1
  clear h1
  go_wp2_with fail
  refine (OW.out w1 hB1.out).mono ?_
  rintro e w2 ⟨⟨A2, k2, rfl, hk2, _, hr2⟩, hb2⟩
  have HK2 : Hid (Below W0.heap.size W0 w2) := Lib.hid (HK1.out.trans (hb2.mono HK1.out.size))
  have HR2 := Lib.hid hr2
  clear hb2 hr2 hq1
  have hB2 : Hid (Below w.heap.size w w2) := Lib.hid (HB0.out.trans (HK2.out.mono HB0.out.size))
  go_wp2_with fail
  refine (WR.out w2 hB2.out A2 k2 HR2.out hk2).mono ?_
  rintro e w3 ⟨rfl, hb3⟩
  have HK3 : Hid (Below W0.heap.size W0 w3) := Lib.hid (HK2.out.trans (hb3.mono HK2.out.size))
  clear hb3
  have h3 := (HK3.out.block _ hn0).trans HC0.out
  have hq3 := cells4 h3
  clear h3
  have hB3 : Hid (Below w.heap.size w w3) := Lib.hid (HB0.out.trans (HK3.out.mono HB0.out.size))
  go_wp2_with fail
  refine (RW.out w3 hB3.out).mono ?_
  rintro e w4 ⟨rfl, hb4⟩
  have HB4 : Hid (Below w.heap.size w w4) := Lib.hid (hB3.out.trans (hb4.mono hB3.out.size))
  clear hb4 hq3
  go_wp2
  go_ret
  exact ⟨rfl, by first | exact HB4.out | (rw [HZ.out.2]; exact HB4.out)⟩
end Go.Proofs.YthlgjbmkealjjaaGreatDoor
