/-
  The walk of AmountOwn.
-/
import Derived.Test.YtjniclalobggpaaDoorSplZ
import Derived.Test.YtjniclalobggpaaDoorAmWk
namespace Go.Proofs.YtjniclalobggpaaDoor
open Go.RowKit
set_option linter.unusedVariables false
theorem splitAns_len (total : Int) (xs : List Int) : (splitAns total xs).length ≤ 1024 := by
  unfold splitAns; split
  · rename_i h; rw [sharesOf_len]; exact h.2.1
  · simp
theorem RdI.apart {w w' : World} {A : Option Addr} {n G : Nat} {xs : List Int} (h : RdI w A n xs) (hk : ∀ b, b ≠ G → w'.heap[b]? = w.heap[b]?) (hA : ∀ ad, A = some ad → 0 < n → ad.block ≠ G) : RdI w' A n xs := by
  have hl := h.len
  rcases Nat.eq_zero_or_pos n with h0 | h0
  · subst h0
    rw [List.eq_nil_of_length_eq_zero hl]
    exact RdI.nil _ _
  · obtain ⟨b, off, rfl⟩ := h.addr h0
    exact RdI.mk hl fun j hj => (World.cell?_of_block (hk b (hA _ rfl h0))).trans (h.cells j hj)
theorem NewI.block {w w' : World} {v : Value} {xs : List Int} (h : NewI w w' v xs) : ∃ G A, v = .slice A xs.length xs.length ∧ w.heap.size ≤ G ∧ (0 < xs.length → A = some ⟨G, 0, none⟩ ∧ w'.heap[G]? = some (.cells (xs.map iv).toArray 2 (0, 0))) := by
  rcases h with ⟨rfl, rfl⟩ | ⟨G, rfl, hG, hh⟩
  · exact ⟨w.heap.size, none, rfl, Nat.le_refl _, fun h => by simp at h⟩
  · exact ⟨G, _, rfl, hG, fun _ => ⟨rfl, hh⟩⟩
theorem sameI_self (A : Option Addr) (n c : Nat) (xs : List Int) (A' : Option Addr) (c' : Nat) (w : World) (h : RdI w A n xs) (h' : RdI w A' n xs) (hn : n ≤ 140737488355328) :
    Calls Tryd.prog 19 #[.slice A n c, .slice A' n c'] w fun e w' => e = .returned (.bool true) ∧ Below w.heap.size w w' :=
  (sameI_any A n c xs A' n c' xs w h h' hn hn).mono fun e w' ⟨he, hb⟩ => ⟨by rw [he]; simp, hb⟩
set_option maxRecDepth 100000 in
set_option maxHeartbeats 4000000 in
theorem AmountOwn_walk (total : Int) (A : Option Addr) (n c : Nat) (w : World) (ht : Tabs w) (t0 : -9223372036854775808 ≤ total) (t1 : total ≤ 9223372036854775807) (xs : List Int) (h : RdI w A n xs) (hn : n ≤ c) (hc : c * 8 ≤ 140737488351232) :
    Calls Tryd.prog 9 #[.int .i64 total, .slice A n c] w fun e w' => e = .returned (.bool true) ∧ Below w.heap.size w w' := by
  have W := Lib.hid (wakes_any w ht)
  have OW := Lib.hid fun w h => ownI_any A n c w xs h (by omega)
  have SP := Lib.hid fun A n c w h => Split_any total A n c w xs h
  have RS := Lib.hid fun w h => refSplit_any total A n c w xs h
  have hlen := splitAns_len total xs
  have SM := Lib.hid fun A A' w (h : RdI w A (splitAns total xs).length (splitAns total xs)) (h' : RdI w A' (splitAns total xs).length (splitAns total xs)) => sameI_self A (splitAns total xs).length (splitAns total xs).length _ A' (splitAns total xs).length w h h' (by omega)
  have SX := Lib.hid fun A' c' w (h : RdI w A' n xs) (h' : RdI w A n xs) => sameI_self A' n c' xs A c w h h' (by omega)
  have HR := Lib.hid h
  have HL := Lib.hid h.len
  clear ht h
  generalize splitErr total xs = ev at *
  generalize splitAns total xs = zs at *
  go_enter Tryd.func9, Tryd.ntmps9
  go_wp2_with fail
  refine W.out.mono ?_
  rintro e w1 ⟨rfl, hb1⟩
  go_wp2_with fail
  refine (OW.out _ (HR.out.below hb1)).mono ?_
  rintro e w2 ⟨v, rfl, hv, hb2⟩
  have hb02 := hb1.trans (hb2.mono hb1.size)
  have hz2 := hb2.size
  clear hb2
  have hlit : RdI (w2.alloc (.cells #[.int .i64 77] 2)) (some ⟨w2.heap.size, 0, none⟩) 1 [77] := RdI.lit w2 _ [77] rfl 1 rfl
  have hxl : xs.length = n := HL.out
  go_wp2_with (at_builtin; refine app_i64 rfl _ _ rfl w1.heap.size v xs rfl (hv.alloc _) _ 1 1 [77] rfl hlit ?_ ?_ ?_)
  · omega
  · simp; omega
  intro v3 w3 hv3 hb3 _
  obtain ⟨A3, m3, c3, rfl, hm3, hmc3, hcm3, hr3, hblk3⟩ := hv3.form
  have hm3' := hm3.out
  rw [List.length_append, hxl] at hm3'
  have hm3n : n + 1 = m3 := hm3'
  obtain ⟨A4, hcut, hr4⟩ := cutI_h hr3 c3 hmc3 n (by omega) n rfl
  have htk : (xs ++ [77]).take n = xs := by rw [← hxl]; simp
  rw [htk] at hr4
  have hb03 : Below w.heap.size w w3 := (hb02.alloc (by have := hb02.size; omega) _).trans (hb3.mono hb1.size)
  clear hb3 hv3 hv hlit hb02 hz2 hxl htk hm3'
  have HM := Lib.hid hm3n
  clear hm3n hm3
  go_wp2_with fail
  refine (SP.out _ _ _ _ hr4).mono ?_
  rintro e w4 ⟨⟨v4, rfl, hn4⟩, hb4⟩
  obtain ⟨G, A5, rfl, hG, hG2⟩ := hn4.block
  have hr4' := hr4.below hb4
  have hr3' := hr3.below hb4
  have hlt4 : ∀ ad, A3 = some ad → ad.block < G := fun ad e => by
    obtain ⟨g, rfl, _, hg⟩ := hblk3 ad e
    show g < G; omega
  have hb04 := hb03.trans (hb4.mono hb03.size)
  have hG0 : w.heap.size ≤ G := by have := hb03.size; omega
  clear hn4 hb4 hr4 hr3 hb03 hblk3 hG
  go_wp2_with fail
  refine (SP.out _ _ _ _ hr4').mono ?_
  rintro e w5 ⟨⟨v5, rfl, hn5⟩, hb5⟩
  obtain ⟨G6, A6, rfl, hG6, hG62⟩ := hn5.block
  have hr3'' := hr3'.below hb5
  have hb05 := hb04.trans (hb5.mono hb04.size)
  have hg1 : 0 < zs.length → A5 = some ⟨G, 0, none⟩ := fun h => (hG2 h).1
  have hg2 : 0 < zs.length → w5.heap[G]? = some (.cells (zs.map iv).toArray 2 (0, 0)) := fun h => (hb5.block _ (Array.getElem?_eq_some_iff.1 (hG2 h).2).1).trans (hG2 h).2
  have hg3 : 0 < zs.length → G < G6 := fun h => Nat.lt_of_lt_of_le (Array.getElem?_eq_some_iff.1 (hG2 h).2).1 hG6
  obtain ⟨_, he6, hr6, _⟩ := hn5.form
  injection he6 with he6
  subst he6
  have HG1 := Lib.hid hg1
  have HG3 := Lib.hid hg3
  have HR3 := Lib.hid hr3''
  have HR6 := Lib.hid hr6
  have HG6 := Lib.hid hG62
  clear hn5 hb5 hr4' hr3' hb04 hG2 hG6 hg1 hg3 hG62
  go_wp2_with fail
  go_loopw [39] (fun i wr => ∃ (j : Nat) (cs : Array Value), j ≤ zs.length ∧ i = .int .i64 j ∧ cs.size = zs.length ∧ (0 < zs.length → wr.heap[G]? = some (.cells cs 2 (0, 0))) ∧ Hid (∀ b, b ≠ G → wr.heap[b]? = w5.heap[b]?) ∧ Below w.heap.size w wr) (fun i _ => zs.length - (intOf i).toNat)
  case atStart => exact ⟨0, (zs.map iv).toArray, by omega, rfl, by simp, hg2, fun b _ => rfl, hb05⟩
  case round =>
    clear hg2 hb05
    obtain ⟨j, cs, hj, rfl, hcs, hg2, hk, hb⟩ := hrel
    by_cases hlt : j < zs.length
    · have ha := HG1.out (by omega)
      subst ha
      have hh := hg2 (by omega)
      have hji : (j : Int) < (zs.length : Int) := by omega
      have c1 := cell_of_row wr G j _ _ _ hh
      rw [Array.getElem?_eq_getElem (by omega)] at c1
      have f1 := frozen_of_row wr G j _ _ hh
      have HH := Lib.hid hh
      have HCS := Lib.hid hcs
      generalize cs[j]'(by omega) = u at c1
      clear hg2 hh hcs
      go_wp2
      go_roundw
      case measure => simp [intOf]; omega
      case rel => exact ⟨j + 1, cs.setIfInBounds j (.int .i64 (-1)), by omega, by go_num, by rw [Array.size_setIfInBounds]; exact HCS.out, fun _ => row_set HH.out _ _, fun b hb => (heap_setCell_other _ _ _ _ hb).trans (hk.out b hb), hb.setCell hG0 _⟩
    · have hr3 := HR3.out.apart hk.out fun ad e _ => Nat.ne_of_lt (hlt4 ad e)
      have hr6 := HR6.out.apart hk.out fun ad e h0 => by
        obtain ⟨e2, _⟩ := HG6.out h0
        rw [e2] at e
        injection e with e
        rw [← e]
        exact Nat.ne_of_gt (HG3.out h0)
      clear hg2 hk HR3 HR6 HG6 HG3 HG1
      go_wp2_with fail
      refine (RS.out _ (HR.out.below hb)).mono ?_
      rintro e w7 ⟨⟨v7, rfl, hn7⟩, hb7⟩
      obtain ⟨A7, rfl, hr7, _⟩ := hn7.form
      have hr3b := hr3.below hb7
      have hr6b := hr6.below hb7
      have hb07 := hb.trans (hb7.mono hb.size)
      clear hn7 hb7 hr3 hr6
      have hm := HM.out
      have hl := HL.out
      obtain ⟨b3, o3, ha3⟩ := hr3b.addr (by omega)
      subst ha3
      have c77 := hr3b.cells n (by simp; omega)
      have e77 : (xs ++ [77])[n]'(by simp; omega) = 77 := by simp [← hl]
      rw [e77] at c77
      have hni : (n : Int) < (m3 : Int) := by omega
      have hr4 : RdI w7 A4 n xs := by
        obtain ⟨A9, hcut9, hr9⟩ := cutI_h hr3b c3 hmc3 n (by omega) n rfl
        have := (hcut w7).symm.trans (hcut9 w7)
        injection this with this
        injection this with this
        subst this
        have htk : (xs ++ [77]).take n = xs := by rw [← hl]; simp
        rw [htk] at hr9
        exact hr9
      clear hm hl e77
      go_wp2_with fail
      refine (SX.out _ _ _ hr4 (HR.out.below hb07)).mono ?_
      rintro e w8 ⟨rfl, hb8⟩
      have hb08 := hb07.trans (hb8.mono hb07.size)
      have hr6c := hr6b.below hb8
      have hr7c := hr7.below hb8
      clear hb8 hr6b hr7
      go_wp2_with fail
      refine (SM.out _ _ _ hr6c hr7c).mono ?_
      rintro e w9 ⟨rfl, hb9⟩
      go_wp2
      go_ret
      exact ⟨rfl, hb08.trans (hb9.mono hb08.size)⟩
end Go.Proofs.YtjniclalobggpaaDoor
