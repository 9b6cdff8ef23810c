/-
  What the listed variables give the walk. No statement is proved here.
-/
import Derived.Test.YthlgjbmkealjjaaGreatDoorRows
import Derived.Test.YthlgjbmkealjjaaGreatDoorCmB
import Derived.ProofKit
import Derived.LaidMore
import Derived.Lay
import Derived.Shelf.Vars
import Derived.OpenShut
import Derived.Stop.Joined
import Derived.Stop.LaidErr
import Derived.SizedLaws
import Derived.Handed
import Derived.Lib.AppendIntMem
import Derived.Lib.LaidTab
namespace Go.Proofs.YthlgjbmkealjjaaGreatDoor
open Go.ChangeShapes Go.WideShapes Go.ChangeAt Go.RowKit
set_option linter.unusedVariables false

theorem own : ownKnob Tryz.prog.godebug = none := by kernel_rfl
theorem laidOut : laidOutB Tryz.prog = true := by kernel_rfl
/-- The variables that the rows list. -/
def laid5 : List (String × DataW Unit) := Rows.commandParsesRow.laid
theorem var_below {P : Program} {W W' : World} {n : String} {cs : Array Value} (h : W.var? P n = some cs) (hb : Below W.heap.size W W') : W'.var? P n = some cs := by
  unfold World.var? at h ⊢
  cases hg : P.globalNamed n with
  | none => simp [hg] at h
  | some g =>
    simp only [hg, Option.bind_some] at h ⊢
    have hlt : g < W.heap.size := by
      rcases Nat.lt_or_ge g W.heap.size with h' | h'
      · exact h'
      · simp [Array.getElem?_eq_none h'] at h
    rw [hb.block g hlt]
    exact h
theorem star : "*" ++ "errors.errorString" = "*errors.errorString" := by decide
theorem row_err (u : TypeId) (h : Tryz.prog.typeName? 3 u = some "*errors.errorString") : u = 172 :=
  typeName_ptr_named (nm := "errors.errorString") (by rw [star]; kernel_rfl) (by kernel_rfl) (by decide) u (by rw [star]; exact h)
set_option maxRecDepth 100000 in
theorem vrs_of_laid {W : World} (h : laidMetH Tryz.prog laid5 W) : Vrs W.heap.size W := by
  rw [MakeChecks.laidMetH_plain _ _ _ (by kernel_rfl)] at h
  have h2 : laidMet Tryz.prog (("internal/strconv.uint64pow10", Lib.tabData .u64 Lib.pow10Tab) :: ("unicode/utf8.acceptRanges", Rows.laid_unicode_utf8_acceptRanges) :: ("strconv.ErrRange", Rows.laid_strconv_ErrRange) :: ("strconv.ErrSyntax", Rows.laid_strconv_ErrSyntax) :: [("unicode/utf8.first", Rows.laid_unicode_utf8_first)]) W := laidMet.tail (laidMet.tail h)
  have ht := Lib.tabIs_of_head (g := 5) (t := 80) (e := 79) (n := 20) (by kernel_rfl) (by kernel_rfl) (by kernel_rfl) (by kernel_rfl) (by kernel_rfl) (by kernel_rfl) h2
  have h4 := laidMet.tail (laidMet.tail h2)
  obtain ⟨a1, s1, v1, _⟩ := laid_sentinel (g := 4) (ti := 91) (tp := 172) (te := 174) (ts := 9) h4 (by kernel_rfl) (by kernel_rfl) Tryz.underlying91 row_err Tryz.underlying172 Tryz.underlying174 rfl rfl Tryz.underlying9 (by kernel_rfl) (by kernel_rfl)
  obtain ⟨a2, s2, v2, _⟩ := laid_sentinel (g := 3) (ti := 91) (tp := 172) (te := 174) (ts := 9) (laidMet.tail h4) (by kernel_rfl) (by kernel_rfl) Tryz.underlying91 row_err Tryz.underlying172 Tryz.underlying174 rfl rfl Tryz.underlying9 (by kernel_rfl) (by kernel_rfl)
  intro W' hW
  exact ⟨Lib.tabBelow_of_tabIs ht W' hW, ⟨_, _, var_below v2 hW⟩, _, _, var_below v1 hW⟩
set_option maxRecDepth 100000 in
theorem door_met (os : Os) (args : Array Value) : laidMetH Tryz.prog laid5 ((World.laidAll Tryz.prog os laid5).forCall (fun _ _ => 0) ⟨#[], args, []⟩).memory := by
  rw [MakeChecks.laidMetH_plain _ _ _ (by kernel_rfl)]
  exact laidMet_laidAll _ (by kernel_rfl) (by kernel_rfl)
theorem start_os (os : Os) : (World.laidAll Tryz.prog os laid5).os = os := World.laidAll_os _ _ _
theorem start_shaped (os : Os) : (World.laidAll Tryz.prog os laid5).Shaped Tryz.prog := World.shaped_of_ZipB (by kernel_rfl) (by kernel_rfl)
end Go.Proofs.YthlgjbmkealjjaaGreatDoor
