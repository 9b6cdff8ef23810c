/-
  The walk of the law CommandParses: the program and the document read any line alike. No statement is proved here.
-/
import Derived.Test.YthlgjbmkealjjaaGreatDoorCmB
namespace Go.Proofs.YthlgjbmkealjjaaGreatDoor
open Go.RowKit
set_option linter.unusedVariables false
set_option maxRecDepth 100000 in
set_option maxHeartbeats 4000000 in
theorem CommandParses_walk (s : ByteArray) (w : World) (hv : Vrs w.heap.size w) (hs : s.size ≤ 140737488351232) :
    Calls Tryz.prog 3 #[.string s] w fun e w' => e = .returned (.bool true) ∧ Below w.heap.size w w' := by
  obtain ⟨l, rfl⟩ : ∃ l, s = bs l := ⟨s.data.toList, (bs_data s).symm⟩
  have WK := Lib.hid (wakes_any w hv)
  have P1 := Lib.hid (fun W (hW : Below w.heap.size w W) => Parse_b l W (fun W' hW' => hv W' (hW.trans (hW'.mono hW.size))))
  have P2 := Lib.hid (refParse_b l)
  have HPL : Hid ((parseAns l).1.args.length ≤ 140737488355328) := Lib.hid (Nat.le_trans (parse_args_len l) (by omega))
  generalize parseAns l = PA at *
  obtain ⟨⟨op, nm, tx, ar⟩, er⟩ := PA
  dsimp only at *
  obtain ⟨n, hn⟩ : ∃ n, n = ar.length := ⟨_, rfl⟩
  have HN : Hid (ar.length = n) := Lib.hid hn.symm
  rw [← hn] at P1 P2 HPL
  clear hv hn
  go_enter Tryz.func3, Tryz.ntmps3
  go_wp2_with fail
  refine WK.out.mono ?_
  rintro e w1 ⟨rfl, hb1⟩
  have HW1 := Lib.hid hb1
  clear hb1 WK
  go_wp2_with fail
  refine (P1.out w1 HW1.out).mono ?_
  rintro e w2 ⟨hb2, A2, c2, rfl, ho2⟩
  have HB2 := Lib.hid hb2
  have HO2 := Lib.hid ho2
  clear hb2 ho2
  go_upto_region 4 with (fail)
  obtain ⟨W2, hW2⟩ : ∃ W2, W2 = w2.alloc (.cells #[.string op, .string nm, .slice A2 n c2, .string tx] 25) := ⟨_, rfl⟩
  rw [← hW2]
  obtain ⟨B2, hB2⟩ : ∃ B2, B2 = w2.heap.size := ⟨_, rfl⟩
  rw [← hB2]
  have HC2 : Hid (W2.heap[B2]? = some (.cells #[.string op, .string nm, .slice A2 n c2, .string tx] 25 (0, 0))) := Lib.hid (by rw [hW2, hB2]; exact heap_alloc_new _ _)
  have HW2 : Hid (Below w.heap.size w W2) := Lib.hid (by rw [hW2]; have := HW1.out.trans (HB2.out.mono HW1.out.size); exact this.alloc this.size _)
  have HR2 : Hid (Rd W2 1 A2 n (ar.map (Value.int .i64))) := Lib.hid (by rw [hW2]; exact (Rd.of_own HO2.out).alloc _)
  clear hW2 hB2 HO2 HB2
  go_wp2_with fail
  refine (P2.out W2).mono ?_
  rintro e w3 ⟨hb3, A3, c3, rfl, ho3⟩
  have HB3 := Lib.hid hb3
  have HO3 := Lib.hid ho3
  clear hb3 ho3
  go_upto_region 5 with (fail)
  obtain ⟨W3, hW3⟩ : ∃ W3, W3 = w3.alloc (.cells #[.string op, .string nm, .slice A3 n c3, .string tx] 25) := ⟨_, rfl⟩
  rw [← hW3]
  obtain ⟨B3, hB3⟩ : ∃ B3, B3 = w3.heap.size := ⟨_, rfl⟩
  rw [← hB3]
  have HC3 : Hid (W3.heap[B3]? = some (.cells #[.string op, .string nm, .slice A3 n c3, .string tx] 25 (0, 0))) := Lib.hid (by rw [hW3, hB3]; exact heap_alloc_new _ _)
  have HK3 : Hid (Below W2.heap.size W2 W3) := Lib.hid (by rw [hW3]; exact HB3.out.alloc HB3.out.size _)
  have HR3 : Hid (Rd W3 1 A3 n (ar.map (Value.int .i64))) := Lib.hid (by rw [hW3]; exact (Rd.of_own HO3.out).alloc _)
  clear hW3 hB3 HO3 HB3
  have h2 := (HK3.out.block _ (Array.getElem?_eq_some_iff.1 HC2.out).1).trans HC2.out
  have hq2 := cells4 h2
  have hq3 := cells4 HC3.out
  have HSM : Hid (Calls Tryz.prog 10 #[.agg #[.string op, .string nm, .slice A2 n c2, .string tx], .agg #[.string op, .string nm, .slice A3 n c3, .string tx]] W3 fun e w' => e = .returned (.bool true) ∧ Below W3.heap.size W3 w') := Lib.hid (by
    have h := refSame_any ⟨op, nm, tx, ar⟩ ⟨op, nm, tx, ar⟩ A2 n c2 A3 n c3 W3 HN HN (HR2.out.below HK3.out) HR3.out HPL.out HPL.out
    rw [decide_eq_true (show sameC _ _ from ⟨rfl, rfl, rfl, rfl⟩)] at h
    exact h)
  clear h2
  go_wp2_with (go_at_call 10; refine HSM.out.mono ?_; rintro e w5 ⟨rfl, hb5⟩)
  go_ret
  exact ⟨rfl, HW2.out.trans ((HK3.out.mono HW2.out.size).trans (hb5.mono (Nat.le_trans HW2.out.size HK3.out.size)))⟩
end Go.Proofs.YthlgjbmkealjjaaGreatDoor
