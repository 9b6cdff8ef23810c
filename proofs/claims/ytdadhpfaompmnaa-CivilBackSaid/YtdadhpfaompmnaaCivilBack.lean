/-
  The walk of the law CivilBack: it returns true.
-/
import Derived.Test.YtdadhpfaompmnaaCivilW10
namespace Go.Proofs.Ytdadhpfaompmnaa
open Go.RowKit
set_option linter.unusedVariables false

set_option maxHeartbeats 2000000 in
theorem CivilBack_walk (d : Int) (w : World) (hd0 : -9223372036854775808 ≤ d) (hd1 : d ≤ 9223372036854775807) :
    Calls Try.prog 4 #[.int .i64 d] w fun e w' => e = .returned (.bool true) ∧ Below w.heap.size w w' := by
  go_enter Try.func4, Try.ntmps4
  go_wp2_with fail
  refine (wakes_any w).mono ?_
  rintro e w1 ⟨rfl, hb1⟩
  by_cases hr : -719162 ≤ d ∧ d ≤ 2932896
  · go_wp2_with fail
    refine (Split_in d w1 hr.1 hr.2).mono ?_
    rintro e w' ⟨⟨y, m, a, rfl, hv, hd⟩, rfl⟩
    have HV := Lib.hid hv
    have HD := Lib.hid hd
    clear hv hd
    go_wp2_with fail
    refine (refSplit_in d w1 hr.1 hr.2).mono ?_
    rintro e w' ⟨⟨y', m', a', rfl, hv', hd'⟩, rfl⟩
    obtain ⟨rfl, rfl, rfl⟩ := dayOf_inj hv' HV.out (hd'.trans HD.out.symm)
    clear hv' hd'
    have F := Lib.hid fun w => Of_in y' m' a' w HV.out
    rw [HD.out] at F
    go_wp2_with fail
    refine (F.out w1).mono ?_
    rintro e w2 ⟨rfl, hb2⟩
    go_wp2
    go_ret
    exact ⟨by simp, hb1.trans (hb2.mono hb1.size)⟩
  · have ho : d < -719162 ∨ 2932896 < d := by omega
    go_wp2_with fail
    refine (Split_out d w1 ho).mono ?_
    rintro e w' ⟨rfl, rfl⟩
    go_wp2_with fail
    refine (refSplit_out d w1 ho).mono ?_
    rintro e w' ⟨rfl, rfl⟩
    go_wp2
    go_ret
    exact ⟨by simp, hb1⟩
end Go.Proofs.Ytdadhpfaompmnaa
