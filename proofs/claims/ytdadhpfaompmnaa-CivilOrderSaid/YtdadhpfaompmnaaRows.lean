/-
  No cell of these rows narrows 'for every input' (looked for: loops, veiled, ifaces, maps, wideKeys, modest, calm, conditions, laid).
  DERIVED. THE GIVEN ROWS OF THIS SEAT. 6 by the template 'for every input the law returns true; each argument reads behind the call as it read before'; 0 by the template 'total and deterministic' (their statements: YtdadhpfaompmnaaTotals.lean).
  GIVEN WITH THE SEED: the statements are not yours to turn. If you find one false, say at which input.
  Laid BY PROGRAM, IN A SANDBOX (cutbox-rows.mjs): the forced cells as the released guide's own fill.sh prints them over the translation 0b8c7483583ed446… (all of the seat's roots in one cut). By AI agents, Wed Nov 11 2026. No macro, syntax, notation, axiom, sorry.
-/
import Derived.Test.YtdadhpfaompmnaaChecked
import GoSem.Claim
import GoSem.ClaimJoined
import GoSem.ClaimMapViews
import Derived.JoinedTies
import Derived.KernelRfl
namespace Go.Proofs.Ytdadhpfaompmnaa
/- THE CELL 'sum', in the pinned program and in every row, IS THE sha256 OF THE DUMP (.gsa) THAT YtdadhpfaompmnaaProg.lean LOADS. Nothing in Lean hashes anything: it is a label: what it is worth is what the hold of that sum in a sandbox is worth. -/
noncomputable def Try.pinned : Pinned := { name := "ytdadhpfaompmnaa", sum := "0b8c7483583ed44644c3050f8d09e35a37edd2d18be0baf22c614a42941ffb69", checked := Try.checked }
namespace Rows
def none {H : Type} : Left H := { results := [], args := [] }

/-- 'usancelaw02.CivilDays': WHATEVER THE INPUT: true; the input reads as it did. -/
def civilDaysSpec : ChangeSpec := { name := "civilDays", fn := fun _ => fun
  | [d1, d2, d3] => { results := [.lit (.bool true)], args := [d1, d2, d3] }
  | _ => none }
def civilDaysRow : OpenClaim := { program := "ytdadhpfaompmnaa", sum := "0b8c7483583ed44644c3050f8d09e35a37edd2d18be0baf22c614a42941ffb69", func := "usance/usancelaw02.CivilDays", spec := "civilDays", recurses := true, apart := false }
def CivilDaysSaid : Prop := civilDaysRow.holds Try.pinned (OpenSpec.ofChange civilDaysSpec)

/-- ITS FALSE NEIGHBOUR: 'it returns false'. Refute it at one input. -/
def civilDaysWrong : ChangeSpec := { name := "civilDays", fn := fun _ => fun
  | [d1, d2, d3] => { results := [.lit (.bool false)], args := [d1, d2, d3] }
  | _ => none }
def CivilDaysWrongFalsely : Prop := civilDaysRow.holds Try.pinned (OpenSpec.ofChange civilDaysWrong)

/-- 'usancelaw02.CivilBack': WHATEVER THE INPUT: true; the input reads as it did. -/
def civilBackSpec : ChangeSpec := { name := "civilBack", fn := fun _ => fun
  | [d] => { results := [.lit (.bool true)], args := [d] }
  | _ => none }
def civilBackRow : OpenClaim := { program := "ytdadhpfaompmnaa", sum := "0b8c7483583ed44644c3050f8d09e35a37edd2d18be0baf22c614a42941ffb69", func := "usance/usancelaw02.CivilBack", spec := "civilBack", recurses := true, apart := false }
def CivilBackSaid : Prop := civilBackRow.holds Try.pinned (OpenSpec.ofChange civilBackSpec)

/-- ITS FALSE NEIGHBOUR: 'it returns false'. Refute it at one input. -/
def civilBackWrong : ChangeSpec := { name := "civilBack", fn := fun _ => fun
  | [d] => { results := [.lit (.bool false)], args := [d] }
  | _ => none }
def CivilBackWrongFalsely : Prop := civilBackRow.holds Try.pinned (OpenSpec.ofChange civilBackWrong)

/-- 'usancelaw02.CivilAdds': WHATEVER THE INPUT: true; the input reads as it did. -/
def civilAddsSpec : ChangeSpec := { name := "civilAdds", fn := fun _ => fun
  | [d1, d2] => { results := [.lit (.bool true)], args := [d1, d2] }
  | _ => none }
def civilAddsRow : OpenClaim := { program := "ytdadhpfaompmnaa", sum := "0b8c7483583ed44644c3050f8d09e35a37edd2d18be0baf22c614a42941ffb69", func := "usance/usancelaw02.CivilAdds", spec := "civilAdds", recurses := true, apart := false }
def CivilAddsSaid : Prop := civilAddsRow.holds Try.pinned (OpenSpec.ofChange civilAddsSpec)

/-- ITS FALSE NEIGHBOUR: 'it returns false'. Refute it at one input. -/
def civilAddsWrong : ChangeSpec := { name := "civilAdds", fn := fun _ => fun
  | [d1, d2] => { results := [.lit (.bool false)], args := [d1, d2] }
  | _ => none }
def CivilAddsWrongFalsely : Prop := civilAddsRow.holds Try.pinned (OpenSpec.ofChange civilAddsWrong)

/-- 'usancelaw02.CivilWeeks': WHATEVER THE INPUT: true; the input reads as it did. -/
def civilWeeksSpec : ChangeSpec := { name := "civilWeeks", fn := fun _ => fun
  | [d] => { results := [.lit (.bool true)], args := [d] }
  | _ => none }
def civilWeeksRow : OpenClaim := { program := "ytdadhpfaompmnaa", sum := "0b8c7483583ed44644c3050f8d09e35a37edd2d18be0baf22c614a42941ffb69", func := "usance/usancelaw02.CivilWeeks", spec := "civilWeeks", recurses := true, apart := false }
def CivilWeeksSaid : Prop := civilWeeksRow.holds Try.pinned (OpenSpec.ofChange civilWeeksSpec)

/-- ITS FALSE NEIGHBOUR: 'it returns false'. Refute it at one input. -/
def civilWeeksWrong : ChangeSpec := { name := "civilWeeks", fn := fun _ => fun
  | [d] => { results := [.lit (.bool false)], args := [d] }
  | _ => none }
def CivilWeeksWrongFalsely : Prop := civilWeeksRow.holds Try.pinned (OpenSpec.ofChange civilWeeksWrong)

/-- 'usancelaw02.CivilTexts': WHATEVER THE INPUT: true; the input reads as it did. -/
def civilTextsSpec : ChangeSpec := { name := "civilTexts", fn := fun _ => fun
  | [d1, d2] => { results := [.lit (.bool true)], args := [d1, d2] }
  | _ => none }
def civilTextsRow : OpenClaim := { program := "ytdadhpfaompmnaa", sum := "0b8c7483583ed44644c3050f8d09e35a37edd2d18be0baf22c614a42941ffb69", func := "usance/usancelaw02.CivilTexts", spec := "civilTexts", recurses := true, apart := false }
def CivilTextsSaid : Prop := civilTextsRow.holds Try.pinned (OpenSpec.ofChange civilTextsSpec)

/-- ITS FALSE NEIGHBOUR: 'it returns false'. Refute it at one input. -/
def civilTextsWrong : ChangeSpec := { name := "civilTexts", fn := fun _ => fun
  | [d1, d2] => { results := [.lit (.bool false)], args := [d1, d2] }
  | _ => none }
def CivilTextsWrongFalsely : Prop := civilTextsRow.holds Try.pinned (OpenSpec.ofChange civilTextsWrong)

/-- 'usancelaw02.CivilOrder': WHATEVER THE INPUT: true; the input reads as it did. -/
def civilOrderSpec : ChangeSpec := { name := "civilOrder", fn := fun _ => fun
  | [d1, d2] => { results := [.lit (.bool true)], args := [d1, d2] }
  | _ => none }
def civilOrderRow : OpenClaim := { program := "ytdadhpfaompmnaa", sum := "0b8c7483583ed44644c3050f8d09e35a37edd2d18be0baf22c614a42941ffb69", func := "usance/usancelaw02.CivilOrder", spec := "civilOrder", recurses := true, apart := false }
def CivilOrderSaid : Prop := civilOrderRow.holds Try.pinned (OpenSpec.ofChange civilOrderSpec)

/-- ITS FALSE NEIGHBOUR: 'it returns false'. Refute it at one input. -/
def civilOrderWrong : ChangeSpec := { name := "civilOrder", fn := fun _ => fun
  | [d1, d2] => { results := [.lit (.bool false)], args := [d1, d2] }
  | _ => none }
def CivilOrderWrongFalsely : Prop := civilOrderRow.holds Try.pinned (OpenSpec.ofChange civilOrderWrong)

/- THE SECOND FORM. 'bulk': how many values and letters a reading holds, each counted each time it is reached (what is shared counts as often as it is met; a slice's spare places count too). A statement '..UptoSaid' is the law's where the arguments, and the package variables that the reading takes, are together of bulk at most 1048576: NARROWER than '..Said'. Prove '..Said' where nothing that the law and all that it calls make is longer than what came in: it says more and counts as full. Else prove '..UptoSaid'. A law counts once. -/
mutual
def uptoBulk {H : Type} : DataW H → Nat
  | .lit (.string bytes) => bytes.length + 1
  | .lit _ => 1
  | .nil => 1
  | .ptr d => uptoBulk d + 1
  | .slice elems spare => uptoBulkAll elems + uptoBulkAll spare + 1
  | .agg parts => uptoBulkAll parts + 1
  | .iface _ d => uptoBulk d + 1
  | .map entries => uptoBulkEntries entries + 1
  | .held _ => 1
def uptoBulkAll {H : Type} : List (DataW H) → Nat
  | [] => 0
  | d :: r => uptoBulk d + uptoBulkAll r
def uptoBulkEntries {H : Type} : List (Lit × DataW H) → Nat
  | [] => 0
  | x :: r => uptoBulkEntry x + uptoBulkEntries r
def uptoBulkEntry {H : Type} : Lit × DataW H → Nat
  | (.string bytes, d) => bytes.length + uptoBulk d + 1
  | (_, d) => uptoBulk d + 1
 end
def uptoSmall : (H : Type) → List (DataW H) → Bool := fun _ ds => decide (uptoBulkAll ds ≤ 1048576)
def OpenSpec.upto (s : _root_.Go.ChangeSpec) : _root_.Go.OpenSpec := { _root_.Go.OpenSpec.ofChange s with cond := some uptoSmall }

/-- 'usancelaw02.CivilDays', WHERE WHAT IT READS IS OF BULK AT MOST 1048576: true; the input reads as it did. -/
def civilDaysUptoRow : OpenClaim := { program := "ytdadhpfaompmnaa", sum := "0b8c7483583ed44644c3050f8d09e35a37edd2d18be0baf22c614a42941ffb69", func := "usance/usancelaw02.CivilDays", spec := "civilDays", recurses := true, apart := false, narrowed := true }
def CivilDaysUptoSaid : Prop := civilDaysUptoRow.holds Try.pinned (OpenSpec.upto civilDaysSpec)

/-- 'usancelaw02.CivilBack', WHERE WHAT IT READS IS OF BULK AT MOST 1048576: true; the input reads as it did. -/
def civilBackUptoRow : OpenClaim := { program := "ytdadhpfaompmnaa", sum := "0b8c7483583ed44644c3050f8d09e35a37edd2d18be0baf22c614a42941ffb69", func := "usance/usancelaw02.CivilBack", spec := "civilBack", recurses := true, apart := false, narrowed := true }
def CivilBackUptoSaid : Prop := civilBackUptoRow.holds Try.pinned (OpenSpec.upto civilBackSpec)

/-- 'usancelaw02.CivilAdds', WHERE WHAT IT READS IS OF BULK AT MOST 1048576: true; the input reads as it did. -/
def civilAddsUptoRow : OpenClaim := { program := "ytdadhpfaompmnaa", sum := "0b8c7483583ed44644c3050f8d09e35a37edd2d18be0baf22c614a42941ffb69", func := "usance/usancelaw02.CivilAdds", spec := "civilAdds", recurses := true, apart := false, narrowed := true }
def CivilAddsUptoSaid : Prop := civilAddsUptoRow.holds Try.pinned (OpenSpec.upto civilAddsSpec)

/-- 'usancelaw02.CivilWeeks', WHERE WHAT IT READS IS OF BULK AT MOST 1048576: true; the input reads as it did. -/
def civilWeeksUptoRow : OpenClaim := { program := "ytdadhpfaompmnaa", sum := "0b8c7483583ed44644c3050f8d09e35a37edd2d18be0baf22c614a42941ffb69", func := "usance/usancelaw02.CivilWeeks", spec := "civilWeeks", recurses := true, apart := false, narrowed := true }
def CivilWeeksUptoSaid : Prop := civilWeeksUptoRow.holds Try.pinned (OpenSpec.upto civilWeeksSpec)

/-- 'usancelaw02.CivilTexts', WHERE WHAT IT READS IS OF BULK AT MOST 1048576: true; the input reads as it did. -/
def civilTextsUptoRow : OpenClaim := { program := "ytdadhpfaompmnaa", sum := "0b8c7483583ed44644c3050f8d09e35a37edd2d18be0baf22c614a42941ffb69", func := "usance/usancelaw02.CivilTexts", spec := "civilTexts", recurses := true, apart := false, narrowed := true }
def CivilTextsUptoSaid : Prop := civilTextsUptoRow.holds Try.pinned (OpenSpec.upto civilTextsSpec)

/-- 'usancelaw02.CivilOrder', WHERE WHAT IT READS IS OF BULK AT MOST 1048576: true; the input reads as it did. -/
def civilOrderUptoRow : OpenClaim := { program := "ytdadhpfaompmnaa", sum := "0b8c7483583ed44644c3050f8d09e35a37edd2d18be0baf22c614a42941ffb69", func := "usance/usancelaw02.CivilOrder", spec := "civilOrder", recurses := true, apart := false, narrowed := true }
def CivilOrderUptoSaid : Prop := civilOrderUptoRow.holds Try.pinned (OpenSpec.upto civilOrderSpec)

end Rows
end Go.Proofs.Ytdadhpfaompmnaa
