/-
  No cell of these rows narrows 'for every input' (looked for: loops, veiled, ifaces, maps, wideKeys, modest, calm, conditions, laid).
  DERIVED. THE GIVEN ROWS OF THIS SEAT. 7 by the template 'for every input the law returns true; each argument reads behind the call as it read before'; 0 by the template 'total and deterministic' (their statements: YtmpbpgcmiboflaaTotals.lean).
  GIVEN WITH THE SEED: the statements are not yours to turn. If you find one false, say at which input.
  Laid BY PROGRAM, IN A SANDBOX (cutbox-rows.mjs): the forced cells as the released guide's own fill.sh prints them over the translation f292030119732d2e… (all of the seat's roots in one cut). By AI agents, Wed Nov 11 2026. No macro, syntax, notation, axiom, sorry.
-/
import Derived.Test.YtmpbpgcmiboflaaChecked
import GoSem.Claim
import GoSem.ClaimJoined
import GoSem.ClaimMapViews
import Derived.JoinedTies
import Derived.KernelRfl
namespace Go.Proofs.Ytmpbpgcmiboflaa
/- THE CELL 'sum', in the pinned program and in every row, IS THE sha256 OF THE DUMP (.gsa) THAT YtmpbpgcmiboflaaProg.lean LOADS. Nothing in Lean hashes anything: it is a label: what it is worth is what the hold of that sum in a sandbox is worth. -/
noncomputable def Try.pinned : Pinned := { name := "ytmpbpgcmiboflaa", sum := "f292030119732d2e7b01f44fda134430a0a76a3e742abe22597c5e209c6f3b5e", checked := Try.checked }
namespace Rows
def none {H : Type} : Left H := { results := [], args := [] }

/-- 'usancelaw19.AccrueReplays': WHATEVER THE INPUT: true; the input reads as it did. -/
def accrueReplaysSpec : ChangeSpec := { name := "accrueReplays", fn := fun _ => fun
  | [d1, d2, d3] => { results := [.lit (.bool true)], args := [d1, d2, d3] }
  | _ => none }
def accrueReplaysRow : OpenClaim := { program := "ytmpbpgcmiboflaa", sum := "f292030119732d2e7b01f44fda134430a0a76a3e742abe22597c5e209c6f3b5e", func := "usance/usancelaw19.AccrueReplays", spec := "accrueReplays", inPlace := ["math/bits.Add64"], unfollowed := true, recurses := true, named := ["math/bits.divideError", "math/bits.overflowError"], apart := false }
def AccrueReplaysSaid : Prop := accrueReplaysRow.holds Try.pinned (OpenSpec.ofChange accrueReplaysSpec)

/-- ITS FALSE NEIGHBOUR: 'it returns false'. Refute it at one input. -/
def accrueReplaysWrong : ChangeSpec := { name := "accrueReplays", fn := fun _ => fun
  | [d1, d2, d3] => { results := [.lit (.bool false)], args := [d1, d2, d3] }
  | _ => none }
def AccrueReplaysWrongFalsely : Prop := accrueReplaysRow.holds Try.pinned (OpenSpec.ofChange accrueReplaysWrong)

/-- 'usancelaw19.AccrueLate': WHATEVER THE INPUT: true; the input reads as it did. -/
def accrueLateSpec : ChangeSpec := { name := "accrueLate", fn := fun _ => fun
  | [d1, d2] => { results := [.lit (.bool true)], args := [d1, d2] }
  | _ => none }
def accrueLateRow : OpenClaim := { program := "ytmpbpgcmiboflaa", sum := "f292030119732d2e7b01f44fda134430a0a76a3e742abe22597c5e209c6f3b5e", func := "usance/usancelaw19.AccrueLate", spec := "accrueLate", inPlace := ["math/bits.Add64"], unfollowed := true, recurses := true, named := ["math/bits.divideError", "math/bits.overflowError"], apart := false }
def AccrueLateSaid : Prop := accrueLateRow.holds Try.pinned (OpenSpec.ofChange accrueLateSpec)

/-- ITS FALSE NEIGHBOUR: 'it returns false'. Refute it at one input. -/
def accrueLateWrong : ChangeSpec := { name := "accrueLate", fn := fun _ => fun
  | [d1, d2] => { results := [.lit (.bool false)], args := [d1, d2] }
  | _ => none }
def AccrueLateWrongFalsely : Prop := accrueLateRow.holds Try.pinned (OpenSpec.ofChange accrueLateWrong)

/-- 'usancelaw19.AccrueEven': WHATEVER THE INPUT: true; the input reads as it did. -/
def accrueEvenSpec : ChangeSpec := { name := "accrueEven", fn := fun _ => fun
  | [d1, d2, d3] => { results := [.lit (.bool true)], args := [d1, d2, d3] }
  | _ => none }
def accrueEvenRow : OpenClaim := { program := "ytmpbpgcmiboflaa", sum := "f292030119732d2e7b01f44fda134430a0a76a3e742abe22597c5e209c6f3b5e", func := "usance/usancelaw19.AccrueEven", spec := "accrueEven", inPlace := ["math/bits.Add64"], unfollowed := true, recurses := true, named := ["math/bits.divideError", "math/bits.overflowError"], apart := false }
def AccrueEvenSaid : Prop := accrueEvenRow.holds Try.pinned (OpenSpec.ofChange accrueEvenSpec)

/-- ITS FALSE NEIGHBOUR: 'it returns false'. Refute it at one input. -/
def accrueEvenWrong : ChangeSpec := { name := "accrueEven", fn := fun _ => fun
  | [d1, d2, d3] => { results := [.lit (.bool false)], args := [d1, d2, d3] }
  | _ => none }
def AccrueEvenWrongFalsely : Prop := accrueEvenRow.holds Try.pinned (OpenSpec.ofChange accrueEvenWrong)

/-- 'usancelaw19.AccrueAhead': WHATEVER THE INPUT: true; the input reads as it did. -/
def accrueAheadSpec : ChangeSpec := { name := "accrueAhead", fn := fun _ => fun
  | [d1, d2, d3] => { results := [.lit (.bool true)], args := [d1, d2, d3] }
  | _ => none }
def accrueAheadRow : OpenClaim := { program := "ytmpbpgcmiboflaa", sum := "f292030119732d2e7b01f44fda134430a0a76a3e742abe22597c5e209c6f3b5e", func := "usance/usancelaw19.AccrueAhead", spec := "accrueAhead", inPlace := ["math/bits.Add64"], unfollowed := true, recurses := true, named := ["math/bits.divideError", "math/bits.overflowError"], apart := false }
def AccrueAheadSaid : Prop := accrueAheadRow.holds Try.pinned (OpenSpec.ofChange accrueAheadSpec)

/-- ITS FALSE NEIGHBOUR: 'it returns false'. Refute it at one input. -/
def accrueAheadWrong : ChangeSpec := { name := "accrueAhead", fn := fun _ => fun
  | [d1, d2, d3] => { results := [.lit (.bool false)], args := [d1, d2, d3] }
  | _ => none }
def AccrueAheadWrongFalsely : Prop := accrueAheadRow.holds Try.pinned (OpenSpec.ofChange accrueAheadWrong)

/-- 'usancelaw19.AccrueGrows': WHATEVER THE INPUT: true; the input reads as it did. -/
def accrueGrowsSpec : ChangeSpec := { name := "accrueGrows", fn := fun _ => fun
  | [d1, d2, d3] => { results := [.lit (.bool true)], args := [d1, d2, d3] }
  | _ => none }
def accrueGrowsRow : OpenClaim := { program := "ytmpbpgcmiboflaa", sum := "f292030119732d2e7b01f44fda134430a0a76a3e742abe22597c5e209c6f3b5e", func := "usance/usancelaw19.AccrueGrows", spec := "accrueGrows", inPlace := ["math/bits.Add64"], unfollowed := true, recurses := true, named := ["math/bits.divideError", "math/bits.overflowError"], apart := false }
def AccrueGrowsSaid : Prop := accrueGrowsRow.holds Try.pinned (OpenSpec.ofChange accrueGrowsSpec)

/-- ITS FALSE NEIGHBOUR: 'it returns false'. Refute it at one input. -/
def accrueGrowsWrong : ChangeSpec := { name := "accrueGrows", fn := fun _ => fun
  | [d1, d2, d3] => { results := [.lit (.bool false)], args := [d1, d2, d3] }
  | _ => none }
def AccrueGrowsWrongFalsely : Prop := accrueGrowsRow.holds Try.pinned (OpenSpec.ofChange accrueGrowsWrong)

/-- 'usancelaw19.AccrueSimple': WHATEVER THE INPUT: true; the input reads as it did. -/
def accrueSimpleSpec : ChangeSpec := { name := "accrueSimple", fn := fun _ => fun
  | [d1, d2, d3] => { results := [.lit (.bool true)], args := [d1, d2, d3] }
  | _ => none }
def accrueSimpleRow : OpenClaim := { program := "ytmpbpgcmiboflaa", sum := "f292030119732d2e7b01f44fda134430a0a76a3e742abe22597c5e209c6f3b5e", func := "usance/usancelaw19.AccrueSimple", spec := "accrueSimple", inPlace := ["math/bits.Add64"], unfollowed := true, recurses := true, named := ["math/bits.divideError", "math/bits.overflowError"], apart := false }
def AccrueSimpleSaid : Prop := accrueSimpleRow.holds Try.pinned (OpenSpec.ofChange accrueSimpleSpec)

/-- ITS FALSE NEIGHBOUR: 'it returns false'. Refute it at one input. -/
def accrueSimpleWrong : ChangeSpec := { name := "accrueSimple", fn := fun _ => fun
  | [d1, d2, d3] => { results := [.lit (.bool false)], args := [d1, d2, d3] }
  | _ => none }
def AccrueSimpleWrongFalsely : Prop := accrueSimpleRow.holds Try.pinned (OpenSpec.ofChange accrueSimpleWrong)

/-- 'usancelaw19.AccrueOwn': WHATEVER THE INPUT: true; the input reads as it did. -/
def accrueOwnSpec : ChangeSpec := { name := "accrueOwn", fn := fun _ => fun
  | [d1, d2, d3] => { results := [.lit (.bool true)], args := [d1, d2, d3] }
  | _ => none }
def accrueOwnRow : OpenClaim := { program := "ytmpbpgcmiboflaa", sum := "f292030119732d2e7b01f44fda134430a0a76a3e742abe22597c5e209c6f3b5e", func := "usance/usancelaw19.AccrueOwn", spec := "accrueOwn", inPlace := ["math/bits.Add64"], unfollowed := true, recurses := true, named := ["math/bits.divideError", "math/bits.overflowError"], apart := false }
def AccrueOwnSaid : Prop := accrueOwnRow.holds Try.pinned (OpenSpec.ofChange accrueOwnSpec)

/-- ITS FALSE NEIGHBOUR: 'it returns false'. Refute it at one input. -/
def accrueOwnWrong : ChangeSpec := { name := "accrueOwn", fn := fun _ => fun
  | [d1, d2, d3] => { results := [.lit (.bool false)], args := [d1, d2, d3] }
  | _ => none }
def AccrueOwnWrongFalsely : Prop := accrueOwnRow.holds Try.pinned (OpenSpec.ofChange accrueOwnWrong)

/- THE SECOND FORM. 'bulk': how many values and letters a reading holds, each counted each time it is reached (what is shared counts as often as it is met; a slice's spare places count too). A statement '..UptoSaid' is the law's where the arguments, and the package variables that the reading takes, are together of bulk at most 1048576: NARROWER than '..Said'. Prove '..Said' where nothing that the law and all that it calls make is longer than what came in: it says more and counts as full. Else prove '..UptoSaid'. A law counts once. -/
mutual
def uptoBulk {H : Type} : DataW H → Nat
  | .lit (.string bytes) => bytes.length + 1
  | .lit _ => 1
  | .nil => 1
  | .ptr d => uptoBulk d + 1
  | .slice elems spare => uptoBulkAll elems + uptoBulkAll spare + 1
  | .agg parts => uptoBulkAll parts + 1
  | .iface _ d => uptoBulk d + 1
  | .map entries => uptoBulkEntries entries + 1
  | .held _ => 1
def uptoBulkAll {H : Type} : List (DataW H) → Nat
  | [] => 0
  | d :: r => uptoBulk d + uptoBulkAll r
def uptoBulkEntries {H : Type} : List (Lit × DataW H) → Nat
  | [] => 0
  | x :: r => uptoBulkEntry x + uptoBulkEntries r
def uptoBulkEntry {H : Type} : Lit × DataW H → Nat
  | (.string bytes, d) => bytes.length + uptoBulk d + 1
  | (_, d) => uptoBulk d + 1
 end
def uptoSmall : (H : Type) → List (DataW H) → Bool := fun _ ds => decide (uptoBulkAll ds ≤ 1048576)
def OpenSpec.upto (s : _root_.Go.ChangeSpec) : _root_.Go.OpenSpec := { _root_.Go.OpenSpec.ofChange s with cond := some uptoSmall }

/-- 'usancelaw19.AccrueReplays', WHERE WHAT IT READS IS OF BULK AT MOST 1048576: true; the input reads as it did. -/
def accrueReplaysUptoRow : OpenClaim := { program := "ytmpbpgcmiboflaa", sum := "f292030119732d2e7b01f44fda134430a0a76a3e742abe22597c5e209c6f3b5e", func := "usance/usancelaw19.AccrueReplays", spec := "accrueReplays", inPlace := ["math/bits.Add64"], unfollowed := true, recurses := true, named := ["math/bits.divideError", "math/bits.overflowError"], apart := false, narrowed := true }
def AccrueReplaysUptoSaid : Prop := accrueReplaysUptoRow.holds Try.pinned (OpenSpec.upto accrueReplaysSpec)

/-- 'usancelaw19.AccrueLate', WHERE WHAT IT READS IS OF BULK AT MOST 1048576: true; the input reads as it did. -/
def accrueLateUptoRow : OpenClaim := { program := "ytmpbpgcmiboflaa", sum := "f292030119732d2e7b01f44fda134430a0a76a3e742abe22597c5e209c6f3b5e", func := "usance/usancelaw19.AccrueLate", spec := "accrueLate", inPlace := ["math/bits.Add64"], unfollowed := true, recurses := true, named := ["math/bits.divideError", "math/bits.overflowError"], apart := false, narrowed := true }
def AccrueLateUptoSaid : Prop := accrueLateUptoRow.holds Try.pinned (OpenSpec.upto accrueLateSpec)

/-- 'usancelaw19.AccrueEven', WHERE WHAT IT READS IS OF BULK AT MOST 1048576: true; the input reads as it did. -/
def accrueEvenUptoRow : OpenClaim := { program := "ytmpbpgcmiboflaa", sum := "f292030119732d2e7b01f44fda134430a0a76a3e742abe22597c5e209c6f3b5e", func := "usance/usancelaw19.AccrueEven", spec := "accrueEven", inPlace := ["math/bits.Add64"], unfollowed := true, recurses := true, named := ["math/bits.divideError", "math/bits.overflowError"], apart := false, narrowed := true }
def AccrueEvenUptoSaid : Prop := accrueEvenUptoRow.holds Try.pinned (OpenSpec.upto accrueEvenSpec)

/-- 'usancelaw19.AccrueAhead', WHERE WHAT IT READS IS OF BULK AT MOST 1048576: true; the input reads as it did. -/
def accrueAheadUptoRow : OpenClaim := { program := "ytmpbpgcmiboflaa", sum := "f292030119732d2e7b01f44fda134430a0a76a3e742abe22597c5e209c6f3b5e", func := "usance/usancelaw19.AccrueAhead", spec := "accrueAhead", inPlace := ["math/bits.Add64"], unfollowed := true, recurses := true, named := ["math/bits.divideError", "math/bits.overflowError"], apart := false, narrowed := true }
def AccrueAheadUptoSaid : Prop := accrueAheadUptoRow.holds Try.pinned (OpenSpec.upto accrueAheadSpec)

/-- 'usancelaw19.AccrueGrows', WHERE WHAT IT READS IS OF BULK AT MOST 1048576: true; the input reads as it did. -/
def accrueGrowsUptoRow : OpenClaim := { program := "ytmpbpgcmiboflaa", sum := "f292030119732d2e7b01f44fda134430a0a76a3e742abe22597c5e209c6f3b5e", func := "usance/usancelaw19.AccrueGrows", spec := "accrueGrows", inPlace := ["math/bits.Add64"], unfollowed := true, recurses := true, named := ["math/bits.divideError", "math/bits.overflowError"], apart := false, narrowed := true }
def AccrueGrowsUptoSaid : Prop := accrueGrowsUptoRow.holds Try.pinned (OpenSpec.upto accrueGrowsSpec)

/-- 'usancelaw19.AccrueSimple', WHERE WHAT IT READS IS OF BULK AT MOST 1048576: true; the input reads as it did. -/
def accrueSimpleUptoRow : OpenClaim := { program := "ytmpbpgcmiboflaa", sum := "f292030119732d2e7b01f44fda134430a0a76a3e742abe22597c5e209c6f3b5e", func := "usance/usancelaw19.AccrueSimple", spec := "accrueSimple", inPlace := ["math/bits.Add64"], unfollowed := true, recurses := true, named := ["math/bits.divideError", "math/bits.overflowError"], apart := false, narrowed := true }
def AccrueSimpleUptoSaid : Prop := accrueSimpleUptoRow.holds Try.pinned (OpenSpec.upto accrueSimpleSpec)

/-- 'usancelaw19.AccrueOwn', WHERE WHAT IT READS IS OF BULK AT MOST 1048576: true; the input reads as it did. -/
def accrueOwnUptoRow : OpenClaim := { program := "ytmpbpgcmiboflaa", sum := "f292030119732d2e7b01f44fda134430a0a76a3e742abe22597c5e209c6f3b5e", func := "usance/usancelaw19.AccrueOwn", spec := "accrueOwn", inPlace := ["math/bits.Add64"], unfollowed := true, recurses := true, named := ["math/bits.divideError", "math/bits.overflowError"], apart := false, narrowed := true }
def AccrueOwnUptoSaid : Prop := accrueOwnUptoRow.holds Try.pinned (OpenSpec.upto accrueOwnSpec)

end Rows
end Go.Proofs.Ytmpbpgcmiboflaa
