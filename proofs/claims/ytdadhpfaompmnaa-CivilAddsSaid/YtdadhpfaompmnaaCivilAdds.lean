/-
  The walk of the law CivilAdds: it returns true.
-/
import Derived.Test.YtdadhpfaompmnaaCivilW10
namespace Go.Proofs.Ytdadhpfaompmnaa
open Go.RowKit
set_option linter.unusedVariables false

set_option maxHeartbeats 2000000 in
theorem CivilAdds_walk (d k : Int) (w : World) (hd0 : -9223372036854775808 ≤ d) (hd1 : d ≤ 9223372036854775807) (hk0 : -9223372036854775808 ≤ k) (hk1 : k ≤ 9223372036854775807) :
    Calls Try.prog 5 #[.int .i64 d, .int .i64 k] w fun e w' => e = .returned (.bool true) ∧ Below w.heap.size w w' := by
  go_enter Try.func5, Try.ntmps5
  go_wp2_with fail
  refine (wakes_any w).mono ?_
  rintro e w1 ⟨rfl, hb1⟩
  by_cases hr : -719162 ≤ d ∧ d ≤ 2932896
  · go_wp2_with fail
    refine (Add_in d k w1 hr.1 hr.2 hk0 hk1).mono ?_
    rintro e w2 ⟨⟨y, m, a, hv, hd, rfl⟩, hb2⟩
    have HV := Lib.hid hv
    have HD := Lib.hid hd
    clear hv hd
    have F := Lib.hid ((refAdd_in d k w2 hr.1 hr.2 hk0 hk1).mono (fun e w' (h : Adds d k e ∧ w2 = w') => (⟨Adds.at HV.out HD.out h.1, h.2⟩ : e = .returned (.tuple #[.int .i64 (addAt y m a k).1, .int .i64 (addAt y m a k).2]) ∧ w2 = w')))
    generalize addAt y m a k = res at F
    obtain ⟨p, q⟩ := res
    simp only at F
    go_wp2_with fail
    refine F.out.mono ?_
    rintro e w' ⟨rfl, rfl⟩
    go_wp2
    go_ret
    exact ⟨by simp, hb1.trans (hb2.mono hb1.size)⟩
  · have ho : d < -719162 ∨ 2932896 < d := by omega
    go_wp2_with fail
    refine (Add_out d k w1 ho).mono ?_
    rintro e w2 ⟨rfl, hb2⟩
    go_wp2_with fail
    refine (refAdd_out d k w2 ho).mono ?_
    rintro e w' ⟨rfl, rfl⟩
    go_wp2
    go_ret
    exact ⟨by simp, hb1.trans (hb2.mono hb1.size)⟩
end Go.Proofs.Ytdadhpfaompmnaa
