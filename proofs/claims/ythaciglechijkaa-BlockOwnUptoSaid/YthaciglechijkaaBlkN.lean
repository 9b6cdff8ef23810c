/-
  The walk of wakes of layer 9. No statement is proved here.
-/
import Derived.Lib.SmallJoins
import Derived.Test.YthaciglechijkaaBlkM
import Derived.Test.YthaciglechijkaaBlkS
import Derived.Test.YthaciglechijkaaBlkB
namespace Go.Proofs.Ythaciglechijkaa
open Go.RowKit
set_option linter.unusedVariables false

theorem NewR.newS {w : World} {base : Nat} {v : Value} {xs : List UInt8} (h : NewR base w v xs) : NewS w base v xs := by
  obtain ⟨A, m, c, rfl, h1, _, h2, h3⟩ := h.ex
  refine ⟨A, m, c, rfl, h1, h2, fun a ha => ?_⟩
  obtain ⟨g, cs, e, h4, _, h5⟩ := h3 a ha
  exact ⟨g, cs, _, e, h4, h5⟩
theorem litf_at (w : World) (g : Nat) (ys : List UInt8) (hg : g = w.heap.size) (n : Nat) (cs : Array Value) (fr : Nat × Nat) (h : cs = (ys.map bv).toArray) (hn : ys.length = n) : RdB (w.alloc (.cells cs 5 fr)) (some ⟨g, 0, none⟩) n ys := by
  subst hg
  exact RdB.litf w cs fr ys h n hn
theorem lit_at (w : World) (g : Nat) (ys : List UInt8) (hg : g = w.heap.size) (n : Nat) (cs : Array Value) (h : cs = (ys.map bv).toArray) (hn : ys.length = n) : RdB (w.alloc (.cells cs 5)) (some ⟨g, 0, none⟩) n ys := by
  subst hg
  exact RdB.lit w cs ys h n hn
theorem wk_pairs (w : World) : ∃ W, W = (((w.alloc (.cells #[.int .u8 97, .int .u8 98] 5 (2, 3))).alloc (.cells #[.int .u8 120] 5 (1, 2))).alloc (.cells #[.int .u8 97, .int .u8 99] 5 (2, 3))).alloc (.cells #[.slice (some ⟨w.heap.size, 0, none⟩) 2 2, .slice (some ⟨w.heap.size + 1, 0, none⟩) 1 1, .slice (some ⟨w.heap.size + 2, 0, none⟩) 2 2, .slice none 0 0] 42) ∧
    RdQ W (some ⟨w.heap.size + 3, 0, none⟩) 2 [⟨[97, 98], [120]⟩, ⟨[97, 99], []⟩] ∧ Below w.heap.size w W := by
  have r1 := litf_at w w.heap.size [97, 98] rfl 2 _ (2, 3) rfl rfl
  have r2 := litf_at (w.alloc (.cells #[.int .u8 97, .int .u8 98] 5 (2, 3))) (w.heap.size + 1) [120] (by simp) 1 _ (1, 2) rfl rfl
  have r3 := litf_at ((w.alloc (.cells #[.int .u8 97, .int .u8 98] 5 (2, 3))).alloc (.cells #[.int .u8 120] 5 (1, 2))) (w.heap.size + 2) [97, 99] (by simp) 2 _ (2, 3) rfl rfl
  have hb : ∀ (v : World) (o : Obj), Below w.heap.size w v → Below w.heap.size w (v.alloc o) := fun v o h => h.alloc h.size o
  have hg1 := heap_alloc_new (((w.alloc (.cells #[.int .u8 97, .int .u8 98] 5 (2, 3))).alloc (.cells #[.int .u8 120] 5 (1, 2))).alloc (.cells #[.int .u8 97, .int .u8 99] 5 (2, 3))) (.cells #[.slice (some ⟨w.heap.size, 0, none⟩) 2 2, .slice (some ⟨w.heap.size + 1, 0, none⟩) 1 1, .slice (some ⟨w.heap.size + 2, 0, none⟩) 2 2, .slice none 0 0] 42)
  rw [show (((w.alloc (.cells #[.int .u8 97, .int .u8 98] 5 (2, 3))).alloc (.cells #[.int .u8 120] 5 (1, 2))).alloc (.cells #[.int .u8 97, .int .u8 99] 5 (2, 3))).heap.size = w.heap.size + 3 by simp] at hg1
  refine ⟨_, rfl, ⟨rfl, fun _ => ⟨w.heap.size + 3, 0, rfl, fun j hj => ?_⟩⟩, hb _ _ (hb _ _ (hb _ _ (hb _ _ (Below.refl _ _))))⟩
  rcases j with _ | _ | j
  · exact ⟨_, 2, 2, _, 1, 1, by rw [cell_of_row _ _ _ _ _ _ hg1]; rfl, by rw [cell_of_row _ _ _ _ _ _ hg1]; rfl, ((r1.alloc _).alloc _).alloc _, (r2.alloc _).alloc _, by omega, by omega⟩
  · exact ⟨_, 2, 2, none, 0, 0, by rw [cell_of_row _ _ _ _ _ _ hg1]; rfl, by rw [cell_of_row _ _ _ _ _ _ hg1]; rfl, r3.alloc _, RdB.nil _ none, by omega, by omega⟩
  · exact absurd (show j + 1 + 1 < 2 from hj) (by omega)
set_option maxRecDepth 100000 in
set_option maxHeartbeats 4000000 in
theorem wakes_any (w : World) :
    Calls Try.prog 7 #[] w fun e w' => e = .returned (.bool true) ∧ Below w.heap.size w w' := by
  obtain ⟨W1, hW1, hr1, hb1⟩ := wk_pairs w
  have BU := Lib.hid (Build_any (some ⟨w.heap.size + 3, 0, none⟩) 2 2 _ W1 hr1 (by omega))
  rw [wk_build] at BU
  have HB1 := Lib.hid hb1
  have kc1 := Joins.run_convert_bytes_const_at (P := Try.prog) w 24 5 #[.int .u8 97, .int .u8 98] 2 2 w.heap.size rfl Try.underlying24 Try.underlying5
  have kc2 := Joins.run_convert_bytes_const_at (P := Try.prog) (w.alloc (.cells #[.int .u8 97, .int .u8 98] 5 (2, 3))) 24 5 #[.int .u8 120] 1 1 (w.heap.size + 1) (by simp) Try.underlying24 Try.underlying5
  have kc3 := Joins.run_convert_bytes_const_at (P := Try.prog) ((w.alloc (.cells #[.int .u8 97, .int .u8 98] 5 (2, 3))).alloc (.cells #[.int .u8 120] 5 (1, 2))) 24 5 #[.int .u8 97, .int .u8 99] 2 2 (w.heap.size + 2) (by simp) Try.underlying24 Try.underlying5
  simp only [List.size_toArray, List.length_cons, List.length_nil, Nat.zero_add, Nat.reduceAdd] at kc1 kc2 kc3
  clear hr1 hb1
  go_enter Try.func7, Try.ntmps7
  go_wp2_with fail
  rw [← hW1]
  clear hW1 kc1 kc2 kc3
  refine BU.out.mono ?_
  rintro e w2 ⟨vb, rfl, hvb, hb2⟩
  have HB2 := Lib.hid (HB1.out.trans (hb2.mono HB1.out.size))
  have hvb2 := hvb.newS
  obtain ⟨Ab, mb, cb, rfl, hmb, hrb, _⟩ := hvb2.ex
  have hmb10 : mb = 10 := hrb.len.symm
  subst hmb10
  have HRB := Lib.hid hrb
  clear hvb hvb2 hb2 hrb HB1 BU
  go_wp2_with fail
  refine (own_any Ab 10 cb w2 _ HRB.out (by omega)).mono ?_
  rintro e w3 ⟨vo, rfl, hvo, hb3⟩
  obtain ⟨Ao, mo, co, rfl, HMO, hmo, hmc, hro, _⟩ := hvo.form
  have hmo10 : mo = 10 := HMO.out.symm
  subst hmo10
  have HRO := Lib.hid hro
  have HRB3 := Lib.hid (HRB.out.below hb3)
  have HB3 := Lib.hid (HB2.out.trans (hb3.mono HB2.out.size))
  clear hvo hb3 hro HRB HMO
  have kc4 := Joins.run_convert_bytes_const_at (P := Try.prog) w3 24 5 #[.int .u8 97, .int .u8 98] 2 2 w3.heap.size rfl Try.underlying24 Try.underlying5
  simp only [List.size_toArray, List.length_cons, List.length_nil, Nat.zero_add, Nat.reduceAdd] at kc4
  go_wp2_with fail
  have F1 := Find_any Ao 10 co (some ⟨w3.heap.size, 0, none⟩) 2 2 (w3.alloc (.cells #[.int .u8 97, .int .u8 98] 5 (2, 3))) _ [97, 98] (HRO.out.alloc _) (litf_at w3 _ _ rfl 2 _ (2, 3) rfl rfl) (by omega) hmo
  rw [wk_find] at F1
  refine F1.mono ?_
  rintro e w4 ⟨vf, rfl, hvf, hb4⟩
  obtain ⟨Af, mf, cf, rfl, HMF, hmf, _, hrf, _⟩ := hvf.form
  have hmf1 : mf = 1 := HMF.out.symm
  subst hmf1
  have hb4' : Below w3.heap.size w3 w4 := ((Below.refl _ _).alloc (Nat.le_refl _) _).trans (hb4.mono (by simp))
  have HRF := Lib.hid hrf
  have HRB4 := Lib.hid (HRB3.out.below hb4')
  have HB4 := Lib.hid (HB3.out.trans (hb4'.mono HB3.out.size))
  clear hvf hb4 hb4' hrf HRB3 HMF F1 HRO
  go_wp2_with fail
  have R1 := Read_any (some ⟨w4.heap.size, 0, none⟩) 3 3 (w4.alloc (.cells #[.int .u8 1, .int .u8 0, .int .u8 0] 5)) [1, 0, 0] (lit_at w4 _ _ rfl 3 _ rfl rfl) (by omega) (by omega)
  rw [wk_read] at R1
  refine R1.mono ?_
  rintro e w5 ⟨vr, rs, rfl, _, _, hb5⟩
  have hb5' : Below w4.heap.size w4 w5 := ((Below.refl _ _).alloc (Nat.le_refl _) _).trans (hb5.mono (by simp))
  have r0 := HRB4.out.below hb5'
  have r1 := HRF.out.below hb5'
  have HB5 := Lib.hid (HB4.out.trans (hb5'.mono HB4.out.size))
  have k1 := r0.conv (P := Try.prog) (src := 24) (dst := 9) Try.underlying24 Try.underlying5 Try.underlying9 cb
  have k2 := r1.conv (P := Try.prog) (src := 24) (dst := 9) Try.underlying24 Try.underlying5 Try.underlying9 cf
  clear r0 r1 hb5 hb5' R1 HRB4 HRF
  go_wp2
  go_ret
  exact ⟨rfl, HB5.out⟩
end Go.Proofs.Ythaciglechijkaa
