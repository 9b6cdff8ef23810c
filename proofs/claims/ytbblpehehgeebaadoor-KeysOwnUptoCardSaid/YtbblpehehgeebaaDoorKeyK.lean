/-
  The walk of wakes of layer 5. No statement is proved here.
-/
import Derived.Test.YtbblpehehgeebaaDoorKeyX
import Derived.Test.YtbblpehehgeebaaDoorKeyV
namespace Go.Proofs.YtbblpehehgeebaaDoor
open Go.RowKit
set_option linter.unusedVariables false

theorem wk1 : encOf [⟨false, 1, []⟩, ⟨true, 0, [97]⟩] = ([1, 128, 0, 0, 0, 0, 0, 0, 1, 2, 97, 0, 1], 0) := by decide +kernel
theorem wk2 : decOf [2, 97, 0, 1] = ([⟨true, 0, [97]⟩], 0) := rfl
theorem wk3 : decOf [3] = ([], 11) := rfl
theorem wk4 : nextL [1, 255] = [2] := by decide +kernel
theorem NewB.below {w w' : World} {base : Nat} {v : Value} {xs : List UInt8} (h : NewB base w v xs) (hb : Below w.heap.size w w') : NewB base w' v xs := by
  obtain ⟨A, m, c, rfl, h1, h2, h3, h4⟩ := h.ex
  exact ⟨A, m, c, rfl, h1, h2, h3.below hb, fun a ha => by
    obtain ⟨g, e, g1, g2⟩ := h4 a ha
    exact ⟨g, e, g1, Nat.lt_of_lt_of_le g2 hb.size⟩⟩
set_option maxRecDepth 100000 in
set_option maxHeartbeats 4000000 in
theorem wakes_any (w : World) (hm : MaxLen w) :
    Calls Tryd.prog 8 #[] w fun e w' => e = .returned (.bool true) ∧ Below w.heap.size w w' := by
  have h00 : 0 < w.heap.size := by
    obtain ⟨m, hm⟩ := hm
    exact World.block_lt_of_cell? w ⟨0, 0, none⟩ hm
  obtain ⟨W1, hW1⟩ : ∃ W1, W1 = w.alloc (.cells #[.bool false, .int .i64 1, .string ⟨#[]⟩, .bool true, .int .i64 0, .string ⟨#[97]⟩] 40) := ⟨_, rfl⟩
  have hb1 : Below w.heap.size w W1 := by rw [hW1]; exact (Below.refl _ _).alloc (Nat.le_refl _) _
  have hz1 : W1.heap.size = w.heap.size + 1 := by rw [hW1]; simp
  have hg1 : W1.heap[w.heap.size]? = some (.cells #[.bool false, .int .i64 1, .string ⟨#[]⟩, .bool true, .int .i64 0, .string ⟨#[97]⟩] 40 (0, 0)) := by rw [hW1]; exact heap_alloc_new w _
  have hr1 : RdPt W1 (some ⟨w.heap.size, 0, none⟩) 2 [⟨false, 1, []⟩, ⟨true, 0, [97]⟩] := ⟨rfl, fun _ => ⟨w.heap.size, 0, rfl, fun j hj => by
    rcases j with _ | _ | j
    · exact ⟨by rw [cell_of_row _ _ _ _ _ _ hg1]; rfl, by rw [cell_of_row _ _ _ _ _ _ hg1]; rfl, by rw [cell_of_row _ _ _ _ _ _ hg1]; rfl⟩
    · exact ⟨by rw [cell_of_row _ _ _ _ _ _ hg1]; rfl, by rw [cell_of_row _ _ _ _ _ _ hg1]; rfl, by rw [cell_of_row _ _ _ _ _ _ hg1]; rfl⟩
    · exact absurd (show j + 1 + 1 < 2 from hj) (by omega)⟩⟩
  have EN := Lib.hid (Encode_any (some ⟨w.heap.size, 0, none⟩) 2 2 _ W1 hr1 (by omega) (by intro p hp; simp at hp; rcases hp with rfl | rfl <;> simp) (by intro p hp; simp at hp; rcases hp with rfl | rfl <;> exact ⟨by decide, by decide⟩) (hm.below hb1 h00))
  rw [wk1] at EN
  have DE := Lib.hid (fun g n bs W h hn hAb => Decode_any (some ⟨g, 0, none⟩) n n bs W h hn (Nat.le_refl _) hAb)
  have NX := Lib.hid (fun g n xs W h hn hAb => Next_any (some ⟨g, 0, none⟩) n n W xs h hn (Nat.le_refl _) hAb)
  have HB1 := Lib.hid hb1
  clear hr1 hg1 hm hb1
  unfold EncEnds at EN
  unfold DecEnds at DE
  go_enter Tryd.func8, Tryd.ntmps8
  go_wp2_with fail
  rw [← hW1]
  clear hW1
  refine EN.out.mono ?_
  rintro e w2 ⟨vb, rfl, hvb, hb2⟩
  have HB2 := Lib.hid (HB1.out.trans (hb2.mono HB1.out.size))
  obtain ⟨Ab, mb, cb, rfl, hbb⟩ : ∃ A m c, vb = .slice A m c ∧ NewB W1.heap.size w2 vb [1, 128, 0, 0, 0, 0, 0, 0, 1, 2, 97, 0, 1] := by
    obtain ⟨A, m, c, e, _⟩ := hvb.ex
    exact ⟨A, m, c, e, hvb⟩
  have HVB := Lib.hid hbb
  clear hvb hb2 hbb HB1 EN hz1
  go_wp2_with fail
  have D1 := DE.out w2.heap.size 4 [2, 97, 0, 1] (w2.alloc (.cells #[.int .u8 2, .int .u8 97, .int .u8 0, .int .u8 1] 5)) (lit_at w2 _ [2, 97, 0, 1] rfl 4 _ rfl rfl) (by omega) (fun a ha => by injection ha with ha; subst ha; simp)
  rw [wk2] at D1
  refine D1.mono ?_
  rintro e w3 ⟨vp, rfl, hvp, hb3⟩
  dsimp only at hvp hb3
  have hb3' : Below w2.heap.size w2 w3 := ((Below.refl _ _).alloc (Nat.le_refl _) _).trans (hb3.mono (by simp))
  obtain ⟨Ap, cp, hvpe, hcp, hrp⟩ := hvp.form
  have hvpe' : vp = .slice Ap 1 cp := hvpe
  subst hvpe'
  have HRP := Lib.hid hrp
  have HVB3 := Lib.hid (HVB.out.below hb3')
  have HB3 := Lib.hid (HB2.out.trans (hb3'.mono HB2.out.size))
  clear hvp hb3 hb3' hvpe hrp HVB HB2 D1
  go_wp2_with fail
  have D2 := DE.out w3.heap.size 1 [3] (w3.alloc (.cells #[.int .u8 3] 5)) (lit_at w3 _ [3] rfl 1 _ rfl rfl) (by omega) (fun a ha => by injection ha with ha; subst ha; simp)
  rw [wk3] at D2
  refine D2.mono ?_
  rintro e w4 ⟨vq, rfl, _, hb4⟩
  try dsimp only at hb4
  have hb4' : Below w3.heap.size w3 w4 := ((Below.refl _ _).alloc (Nat.le_refl _) _).trans (hb4.mono (by simp))
  have hrp4 := HRP.out.below hb4'
  have hvb4 := HVB3.out.below hb4'
  have HB4 := Lib.hid (HB3.out.trans (hb4'.mono HB3.out.size))
  obtain ⟨Ab4, mb4, cb4, e4, hmc4, _, hrb, _⟩ := hvb4.ex
  injection e4 with x1 x2 x3
  subst x1 x2 x3
  have kb := hrb.conv (P := Tryd.prog) (src := 24) (dst := 9) Tryd.underlying24 Tryd.underlying5 Tryd.underlying9 cb
  obtain ⟨bp, op, rfl, hcell⟩ := hrp4.ex (by simp)
  obtain ⟨_, _, cp2⟩ := hcell 0 (by simp)
  have cp2' : w4.cell? ⟨bp, op + 2, none⟩ = some (.string ⟨#[97]⟩) := by simpa using cp2
  have N1 := NX.out w4.heap.size 2 [1, 255] (w4.alloc (.cells #[.int .u8 1, .int .u8 255] 5)) (lit_at w4 _ [1, 255] rfl 2 _ rfl rfl) (by omega) (fun a ha => by injection ha with ha; subst ha; simp)
  rw [wk4] at N1
  have HN1 := Lib.hid N1
  clear hb4 hb4' hrp4 hvb4 hrb hcell cp2 HRP HVB3 HB3 D2 DE NX N1
  go_wp2_with fail
  refine HN1.out.mono ?_
  rintro e w5 ⟨vn, rfl, hvn, hb5⟩
  obtain ⟨An, mn, cn, rfl, _, _, _, hrn, _⟩ := hvn.form
  have kn := hrn.conv (P := Tryd.prog) (src := 24) (dst := 9) Tryd.underlying24 Tryd.underlying5 Tryd.underlying9 cn
  have HB5 := Lib.hid (HB4.out.trans ((((Below.refl w4.heap.size w4).alloc (Nat.le_refl _) _).trans (hb5.mono (by simp))).mono HB4.out.size))
  clear hvn hb5 hrn HN1 kb cp2'
  go_wp2
  go_ret
  exact ⟨rfl, HB5.out⟩
end Go.Proofs.YtbblpehehgeebaaDoor
