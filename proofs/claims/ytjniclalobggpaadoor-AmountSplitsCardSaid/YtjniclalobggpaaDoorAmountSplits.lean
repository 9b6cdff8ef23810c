/-
  The walk of AmountSplits.
-/
import Derived.Test.YtjniclalobggpaaDoorSplZ
import Derived.Test.YtjniclalobggpaaDoorAmWk
namespace Go.Proofs.YtjniclalobggpaaDoor
open Go.RowKit
set_option linter.unusedVariables false
theorem splitErr_range (total : Int) (xs : List Int) : splitErr total xs = 0 ∨ splitErr total xs = 2 ∨ splitErr total xs = 3 := by
  unfold splitErr; split
  · exact .inr (.inr rfl)
  · split
    · exact .inl rfl
    · exact .inr (.inl rfl)
theorem splitAns_len (total : Int) (xs : List Int) : (splitAns total xs).length ≤ 1024 := by
  unfold splitAns; split
  · rename_i h; rw [sharesOf_len]; exact h.2.1
  · simp
set_option maxRecDepth 100000 in
set_option maxHeartbeats 2000000 in
theorem AmountSplits_walk (total : Int) (A : Option Addr) (n c : Nat) (w : World) (ht : Tabs w) (t0 : -9223372036854775808 ≤ total) (t1 : total ≤ 9223372036854775807) (xs : List Int) (h : RdI w A n xs) (hn : n ≤ c) (hc : c * 8 ≤ 140737488351232) :
    Calls Tryd.prog 5 #[.int .i64 total, .slice A n c] w fun e w' => e = .returned (.bool true) ∧ Below w.heap.size w w' := by
  have W := Lib.hid (wakes_any w ht)
  have OW := Lib.hid fun w h => ownI_any A n c w xs h (by omega)
  have SP := Lib.hid fun A n c w h => Split_any total A n c w xs h
  have RS := Lib.hid fun w h => refSplit_any total A n c w xs h
  have SM := Lib.hid fun A A' w (h : RdI w A (splitAns total xs).length (splitAns total xs)) (h' : RdI w A' (splitAns total xs).length (splitAns total xs)) => sameI_any A (splitAns total xs).length (splitAns total xs).length _ A' (splitAns total xs).length (splitAns total xs).length _ w h h' (by have := splitAns_len total xs; omega) (by have := splitAns_len total xs; omega)
  have HR := Lib.hid h
  have er := splitErr_range total xs
  have ert : (splitErr total xs == splitErr total xs) = true := by simp
  clear ht h
  generalize splitErr total xs = ev at *
  generalize splitAns total xs = zs at *
  go_enter Tryd.func5, Tryd.ntmps5
  go_wp2_with fail
  refine W.out.mono ?_
  rintro e w1 ⟨rfl, hb1⟩
  go_wp2_with fail
  refine (OW.out _ (HR.out.below hb1)).mono ?_
  rintro e w2 ⟨v, rfl, hv, hb2⟩
  obtain ⟨A2, m2, c2, rfl, hm2, hmc2, _, hr2, _⟩ := hv.form
  have hb02 := hb1.trans (hb2.mono hb1.size)
  clear hv hb2
  go_wp2_with fail
  refine (SP.out _ _ _ _ hr2).mono ?_
  rintro e w3 ⟨⟨v3, rfl, hn3⟩, hb3⟩
  obtain ⟨A3, rfl, hr3, _⟩ := hn3.form
  have hb03 := hb02.trans (hb3.mono hb02.size)
  clear hn3 hb3 hr2
  go_wp2_with fail
  refine (RS.out _ (HR.out.below hb03)).mono ?_
  rintro e w4 ⟨⟨v4, rfl, hn4⟩, hb4⟩
  obtain ⟨A4, rfl, hr4, _⟩ := hn4.form
  have hb04 := hb03.trans (hb4.mono hb03.size)
  have hr3' := hr3.below hb4
  clear hn4 hb4 hr3
  go_wp2_with fail
  refine (SM.out _ _ _ hr3' hr4).mono ?_
  rintro e w5 ⟨rfl, hb5⟩
  have hd : decide (zs = zs) = true := decide_eq_true rfl
  go_wp2
  go_ret
  exact ⟨by simp, hb04.trans (hb5.mono hb04.size)⟩
end Go.Proofs.YtjniclalobggpaaDoor
