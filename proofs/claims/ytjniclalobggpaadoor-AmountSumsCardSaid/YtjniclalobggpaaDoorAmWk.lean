/-
  The walk of wakes. No statement is proved here.
-/
import Derived.Test.YtjniclalobggpaaDoorAmSp
import Derived.Test.YtjniclalobggpaaDoorAmR
import Derived.Test.YtjniclalobggpaaDoorAmW4
namespace Go.Proofs.YtjniclalobggpaaDoor
open Go.RowKit Go.Shelf
set_option linter.unusedVariables false

/-- The table of powers, in every world that has grown from this one. -/
def Tabs (w : World) : Prop := ∀ W, Below w.heap.size w W → Lib.TabIs Tryd.prog W "internal/strconv.uint64pow10" .u64 Lib.pow10Tab
theorem Tabs.below {w w' : World} (h : Tabs w) (hb : Below w.heap.size w w') : Tabs w' := fun W hW => h W (hb.trans (hW.mono hb.size))
theorem wk1 : mulDivOf 7 1 2 = (4, 0) := by decide +kernel
theorem wk2 : interestOf 100000 50000000 30 360 = (417, 0) := by decide +kernel
set_option maxRecDepth 100000 in
set_option maxHeartbeats 2000000 in
theorem wakes_any (w : World) (ht : Tabs w) :
    Calls Tryd.prog 11 #[] w fun e w' => e = .returned (.bool true) ∧ Below w.heap.size w w' := by
  have M := Lib.hid (fun w => MulDiv_of 7 1 2 w (by omega) (by omega) (by omega) (by omega) (by omega) (by omega) (fun _ _ => Div64_small 7 2 (by omega) (by omega) (by omega)))
  rw [wk1] at M
  have I := Lib.hid (fun w => Interest_of 100000 50000000 30 360 w (by omega) (by omega) (by omega) (by omega) (by omega) (by omega) (by omega) (by omega) (fun _ => Div64_small 150000000000000 360000000000 (by omega) (by omega) (by omega)))
  rw [wk2] at I
  have S := Lib.hid Split_one
  have R := Lib.hid Read_one
  have T := Lib.hid (fun W (hW : Below w.heap.size w W) => Text_any (-5) W (by omega) (by omega) (ht.below hW))
  rw [text5] at T
  clear ht
  go_enter Tryd.func11, Tryd.ntmps11
  go_wp2_with fail
  refine (M.out _).mono ?_
  rintro e w1 ⟨rfl, hb1⟩
  go_wp2_with fail
  refine (I.out _).mono ?_
  rintro e w2 ⟨rfl, hb2⟩
  have hb02 := hb1.trans (hb2.mono hb1.size)
  go_wp2_with fail
  refine (S.out w2.heap.size _ (0, 0) (heap_alloc_new w2 _)).mono ?_
  rintro e w3 ⟨G, rfl, hc3, hb3⟩
  have hb03 := (hb02.alloc hb02.size _).trans (hb3.mono (by have := hb02.size; simp; omega))
  go_wp2_with fail
  refine (R.out _).mono ?_
  rintro e w4 ⟨rfl, hb4⟩
  have hc4 := (hb4.cell (p := ⟨G, 0, none⟩) (cell_lt hc3)).trans hc3
  have hb04 := hb03.trans (hb4.mono hb03.size)
  go_wp2_with fail
  refine (T.out _ hb04).mono ?_
  rintro e w5 ⟨rfl, hb5⟩
  go_wp2
  go_ret
  exact ⟨rfl, hb04.trans (hb5.mono hb04.size)⟩
end Go.Proofs.YtjniclalobggpaaDoor
