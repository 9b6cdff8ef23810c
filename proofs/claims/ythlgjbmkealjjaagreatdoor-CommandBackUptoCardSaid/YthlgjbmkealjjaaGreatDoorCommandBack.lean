/-
  The walk of the law CommandBack: what is read is written as it was; what is written is read so. No statement is proved here.
-/
import Derived.Test.YthlgjbmkealjjaaGreatDoorCmC
namespace Go.Proofs.YthlgjbmkealjjaaGreatDoor
open Go.RowKit
set_option linter.unusedVariables false
set_option maxRecDepth 100000 in
set_option maxHeartbeats 4000000 in
theorem CommandBack_walk (s : ByteArray) (c : Cm) (A : Option Addr) (n k : Nat) (w : World) (h : CmdIn w c A n k) :
    Calls Tryz.prog 5 #[.string s, .agg (cmCells c (.slice A n k))] w fun e w' => e = .returned (.bool true) ∧ Below w.heap.size w w' := by
  obtain ⟨l, rfl⟩ : ∃ l, s = bs l := ⟨s.data.toList, (bs_data s).symm⟩
  have HV := Lib.hid h.vrs
  have WK : Hid (∀ W, Below w.heap.size w W → Calls Tryz.prog 7 #[] W fun e w' => e = .returned (.bool true) ∧ Below W.heap.size W w') := Lib.hid fun W hW => wakes_any W (vrs_at h.vrs hW)
  have OW := Lib.hid (fun W (hW : Below w.heap.size w W) => own_b h hW)
  have WR := Lib.hid (fun W (hW : Below w.heap.size w W) => Write_b h hW)
  have PA := Lib.hid (fun l W (hW : Below w.heap.size w W) => Parse_b l W (vrs_at h.vrs hW))
  have P1 := Lib.hid (PA.out l)
  have HRD := Lib.hid h.rd
  have HLN := Lib.hid h.len
  have hn4 : n ≤ 1048576 := Nat.le_trans h.cap h.kb
  have HS := Lib.hid (progW_says c)
  have W1 : Hid ((parseAns l).2 = 0 → ∀ W A' k', Below w.heap.size w W → (parseAns l).1.args.length ≤ k' → Rd W 1 A' (parseAns l).1.args.length ((parseAns l).1.args.map (Value.int .i64)) → Calls Tryz.prog 11 #[.agg #[.string (parseAns l).1.op, .string (parseAns l).1.name, .slice A' (parseAns l).1.args.length k', .string (parseAns l).1.text]] W fun e w' => e = .returned (.tuple #[.string (bs l), .int .i64 0]) ∧ Below W.heap.size W w') := Lib.hid fun h0 W A' k' hW hk hr => by
    have e : parseAns l = ((parseAns l).1, 0) := Prod.ext rfl h0
    obtain ⟨b1, b2, b3, b4⟩ := parse_bound2 e
    have hl := parse_args_len l
    have := Write_any (parseAns l).1 A' (parseAns l).1.args.length k' W (Lib.hid rfl) hr hk (by omega) b4 (by omega) (by omega) (by omega) (vrs_at HV.out hW)
    rw [progW_back e] at this
    exact this
  generalize parseAns l = P at *
  obtain ⟨⟨xo, xn, xt, xa⟩, er⟩ := P
  generalize progW c = PW at *
  obtain ⟨X, er2⟩ := PW
  dsimp only at *
  obtain ⟨m, hm⟩ : ∃ m, m = xa.length := ⟨_, rfl⟩
  rw [← hm] at P1 W1
  clear h hm
  unfold cmCells
  obtain ⟨W0, hW0⟩ : ∃ W0, W0 = w.alloc (.cells #[.string c.op, .string c.name, .slice A n k, .string c.text] 25) := ⟨_, rfl⟩
  obtain ⟨Nc, hNc⟩ : ∃ Nc, Nc = w.heap.size := ⟨_, rfl⟩
  have HC0 : Hid (W0.heap[Nc]? = some (.cells #[.string c.op, .string c.name, .slice A n k, .string c.text] 25 (0, 0))) := Lib.hid (by rw [hW0, hNc]; exact heap_alloc_new _ _)
  have HB0 : Hid (Below w.heap.size w W0) := Lib.hid (by rw [hW0]; exact (Below.refl _ _).alloc (Nat.le_refl _) _)
  have HZ : Hid (Nc = w.heap.size) := Lib.hid hNc
  have HR0 : Hid (Rd W0 1 A n (c.args.map (Value.int .i64))) := Lib.hid (by rw [hW0]; exact HRD.out.alloc _)
  have hn0 : Nc < W0.heap.size := (Array.getElem?_eq_some_iff.1 HC0.out).1
  have HW : Hid (∀ W, Below W0.heap.size W0 W → Below w.heap.size w W) := Lib.hid fun W hW => HB0.out.trans (hW.mono HB0.out.size)
  go_enter Tryz.func5, Tryz.ntmps5
  go_upto_region 1 with (fail)
  rw [← hW0, ← hNc]
  clear hW0 hNc HRD
  go_wp2_with fail
  refine (WK.out W0 HB0.out).mono ?_
  rintro e w1 ⟨rfl, hb1⟩
  have HK1 := Lib.hid hb1
  clear hb1 WK
  go_wp2_with fail
  refine (P1.out w1 (HW.out _ HK1.out)).mono ?_
  rintro e w2 ⟨hb2, A2, c2, rfl, ho2⟩
  have HK2 : Hid (Below W0.heap.size W0 w2) := Lib.hid (HK1.out.trans (hb2.mono HK1.out.size))
  have hcap2 := own_cap ho2
  have HR2 := Lib.hid (Rd.of_own ho2)
  clear hb2 ho2
  go_upto_region 4 with (fail)
  obtain ⟨W2, hW2⟩ : ∃ W2, W2 = w2.alloc (.cells #[.string xo, .string xn, .slice A2 m c2, .string xt] 25) := ⟨_, rfl⟩
  rw [← hW2]
  obtain ⟨B2, hB2⟩ : ∃ B2, B2 = w2.heap.size := ⟨_, rfl⟩
  rw [← hB2]
  have HC2 : Hid (W2.heap[B2]? = some (.cells #[.string xo, .string xn, .slice A2 m c2, .string xt] 25 (0, 0))) := Lib.hid (by rw [hW2, hB2]; exact heap_alloc_new _ _)
  have HK3 : Hid (Below W0.heap.size W0 W2) := Lib.hid (by rw [hW2]; exact HK2.out.alloc HK2.out.size _)
  have HR3 : Hid (Rd W2 1 A2 m (xa.map (Value.int .i64))) := Lib.hid (by rw [hW2]; exact HR2.out.alloc _)
  clear hW2 hB2 HR2 HK2 HK1 P1
  go_upto_if 21 with (fail)
  go_cut [7, 8] from 21 to 33 (fun _ _ wx => Hid (Below W0.heap.size W0 wx))
  case first =>
    by_cases he : er = 0
    · subst he
      have WA := Lib.hid (W1.out rfl W2 A2 c2 (HW.out _ HK3.out) hcap2 HR3.out)
      have hq := cells4 HC2.out
      clear W1
      go_wp2_with fail
      refine WA.out.mono ?_
      rintro e w5 ⟨rfl, hb5⟩
      have HK5 : Hid (Below W0.heap.size W0 w5) := Lib.hid (HK3.out.trans (hb5.mono HK3.out.size))
      clear hb5
      go_wp2
      go_meet
      exact HK5
    · have heb : (er == 0) = false := by rw [beq_eq_false_iff_ne]; exact he
      clear W1
      go_wp2
      go_meet
      exact HK3
  case rest =>
    have HK4 := hcut
    clear W1 HK3 HR3 HC2 hcut
    have h4 := (HK4.out.block _ hn0).trans HC0.out
    have hq4 := cells4 h4
    clear h4
    go_wp2_with fail
    refine (OW.out wc (HW.out _ HK4.out)).mono ?_
    rintro e w5 ⟨⟨A5, k5, rfl, hk5, _, hr5⟩, hb5⟩
    have HK5 : Hid (Below W0.heap.size W0 w5) := Lib.hid (HK4.out.trans (hb5.mono HK4.out.size))
    have HR5 := Lib.hid hr5
    clear hb5 hr5 hq4
    go_wp2_with fail
    refine (WR.out w5 (HW.out _ HK5.out) A5 k5 HR5.out hk5).mono ?_
    rintro e w6 ⟨rfl, hb6⟩
    have HK6 : Hid (Below W0.heap.size W0 w6) := Lib.hid (HK5.out.trans (hb6.mono HK5.out.size))
    clear hb6
    rcases HS.out with ⟨he2, L, hX, hL⟩ | ⟨he2, hX, _⟩
    · subst he2 hX
      have P2 := Lib.hid (PA.out L)
      obtain ⟨hL1, hL2⟩ := hL
      have hal := parse_args_len L
      generalize parseAns L = Q at *
      obtain ⟨⟨yo, yn, yt, ya⟩, er3⟩ := Q
      dsimp only at *
      subst hL1
      have HSM := Lib.hid hL2
      obtain ⟨q, hq⟩ : ∃ q, q = ya.length := ⟨_, rfl⟩
      have HQ : Hid (ya.length = q) := Lib.hid hq.symm
      rw [← hq] at P2 hal
      clear PA hq hL2
      go_wp2_with fail
      refine (P2.out w6 (HW.out _ HK6.out)).mono ?_
      rintro e w7 ⟨hb7, A7, c7, rfl, ho7⟩
      have HK7 : Hid (Below W0.heap.size W0 w7) := Lib.hid (HK6.out.trans (hb7.mono HK6.out.size))
      have HR7 := Lib.hid (Rd.of_own ho7)
      clear hb7 ho7 P2
      go_upto_region 12 with (fail)
      obtain ⟨W7, hW7⟩ : ∃ W7, W7 = w7.alloc (.cells #[.string yo, .string yn, .slice A7 q c7, .string yt] 25) := ⟨_, rfl⟩
      rw [← hW7]
      obtain ⟨B7, hB7⟩ : ∃ B7, B7 = w7.heap.size := ⟨_, rfl⟩
      rw [← hB7]
      have h7 : W7.heap[B7]? = some (.cells #[.string yo, .string yn, .slice A7 q c7, .string yt] 25 (0, 0)) := by rw [hW7, hB7]; exact heap_alloc_new _ _
      have HK8 : Hid (Below W0.heap.size W0 W7) := Lib.hid (by rw [hW7]; exact HK7.out.alloc HK7.out.size _)
      have HR8 : Hid (Rd W7 1 A7 q (ya.map (Value.int .i64))) := Lib.hid (by rw [hW7]; exact HR7.out.alloc _)
      have hq7 := cells4 h7
      have hq8 := cells4 ((HK8.out.block _ hn0).trans HC0.out)
      have HSC := Lib.hid (Same_b (c := ⟨yo, yn, yt, ya⟩) (k := c7) (k' := k) c HQ.out HLN.out HR8.out (HR0.out.below HK8.out) (by omega) (by omega) HSM.out)
      clear hW7 hB7 h7
      go_wp2_with (go_at_call 10; refine HSC.out.mono ?_; rintro e w9 ⟨rfl, hb9⟩)
      go_ret
      exact ⟨rfl, by have := HW.out _ (HK8.out.trans (hb9.mono HK8.out.size)); first | exact this | (rw [HZ.out]; exact this)⟩
    · subst he2 hX
      clear PA
      go_wp2
      go_ret
      exact ⟨rfl, by have := HW.out _ HK6.out; first | exact this | (rw [HZ.out]; exact this)⟩
end Go.Proofs.YthlgjbmkealjjaaGreatDoor
