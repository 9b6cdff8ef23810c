/-
  No cell of these rows narrows 'for every input' (looked for: loops, veiled, ifaces, maps, wideKeys, modest, calm, conditions, laid).
  DERIVED. THE GIVEN ROWS OF THIS SEAT. 6 by the template 'for every input the law returns true; each argument reads behind the call as it read before'; 0 by the template 'total and deterministic' (their statements: YtpmbbhefcejjlaaTotals.lean).
  GIVEN WITH THE SEED: the statements are not yours to turn. If you find one false, say at which input.
  Laid BY PROGRAM, IN A SANDBOX (cutbox-rows.mjs): the forced cells as the released guide's own fill.sh prints them over the translation 2de915df45b1a6bf… (all of the seat's roots in one cut). By AI agents, Wed Nov 11 2026. No macro, syntax, notation, axiom, sorry.
-/
import Derived.Test.YtpmbbhefcejjlaaChecked
import GoSem.Claim
import GoSem.ClaimJoined
import GoSem.ClaimMapViews
import Derived.JoinedTies
import Derived.KernelRfl
namespace Go.Proofs.Ytpmbbhefcejjlaa
/- THE CELL 'sum', in the pinned program and in every row, IS THE sha256 OF THE DUMP (.gsa) THAT YtpmbbhefcejjlaaProg.lean LOADS. Nothing in Lean hashes anything: it is a label: what it is worth is what the hold of that sum in a sandbox is worth. -/
noncomputable def Try.pinned : Pinned := { name := "ytpmbbhefcejjlaa", sum := "2de915df45b1a6bf05ff9cc2078c1617ed39c217c6b487c873c1cdc120bb924b", checked := Try.checked }
namespace Rows
def none {H : Type} : Left H := { results := [], args := [] }

/-- 'usancelaw21.LedgerLines': WHATEVER THE INPUT: true; the input reads as it did. -/
def ledgerLinesSpec : ChangeSpec := { name := "ledgerLines", fn := fun _ => fun
  | [d1, d2] => { results := [.lit (.bool true)], args := [d1, d2] }
  | _ => none }
def ledgerLinesRow : OpenClaim := { program := "ytpmbbhefcejjlaa", sum := "2de915df45b1a6bf05ff9cc2078c1617ed39c217c6b487c873c1cdc120bb924b", func := "usance/usancelaw21.LedgerLines", spec := "ledgerLines", unfollowed := true, recurses := true, plainKeys := false, apart := false }
def LedgerLinesSaid : Prop := ledgerLinesRow.holds Try.pinned (OpenSpec.ofChange ledgerLinesSpec)

/-- ITS FALSE NEIGHBOUR: 'it returns false'. Refute it at one input. -/
def ledgerLinesWrong : ChangeSpec := { name := "ledgerLines", fn := fun _ => fun
  | [d1, d2] => { results := [.lit (.bool false)], args := [d1, d2] }
  | _ => none }
def LedgerLinesWrongFalsely : Prop := ledgerLinesRow.holds Try.pinned (OpenSpec.ofChange ledgerLinesWrong)

/-- 'usancelaw21.LedgerEven': WHATEVER THE INPUT: true; the input reads as it did. -/
def ledgerEvenSpec : ChangeSpec := { name := "ledgerEven", fn := fun _ => fun
  | [d1, d2, d3] => { results := [.lit (.bool true)], args := [d1, d2, d3] }
  | _ => none }
def ledgerEvenRow : OpenClaim := { program := "ytpmbbhefcejjlaa", sum := "2de915df45b1a6bf05ff9cc2078c1617ed39c217c6b487c873c1cdc120bb924b", func := "usance/usancelaw21.LedgerEven", spec := "ledgerEven", unfollowed := true, recurses := true, plainKeys := false, apart := false }
def LedgerEvenSaid : Prop := ledgerEvenRow.holds Try.pinned (OpenSpec.ofChange ledgerEvenSpec)

/-- ITS FALSE NEIGHBOUR: 'it returns false'. Refute it at one input. -/
def ledgerEvenWrong : ChangeSpec := { name := "ledgerEven", fn := fun _ => fun
  | [d1, d2, d3] => { results := [.lit (.bool false)], args := [d1, d2, d3] }
  | _ => none }
def LedgerEvenWrongFalsely : Prop := ledgerEvenRow.holds Try.pinned (OpenSpec.ofChange ledgerEvenWrong)

/-- 'usancelaw21.LedgerClosed': WHATEVER THE INPUT: true; the input reads as it did. -/
def ledgerClosedSpec : ChangeSpec := { name := "ledgerClosed", fn := fun _ => fun
  | [d1, d2, d3] => { results := [.lit (.bool true)], args := [d1, d2, d3] }
  | _ => none }
def ledgerClosedRow : OpenClaim := { program := "ytpmbbhefcejjlaa", sum := "2de915df45b1a6bf05ff9cc2078c1617ed39c217c6b487c873c1cdc120bb924b", func := "usance/usancelaw21.LedgerClosed", spec := "ledgerClosed", unfollowed := true, recurses := true, plainKeys := false, apart := false }
def LedgerClosedSaid : Prop := ledgerClosedRow.holds Try.pinned (OpenSpec.ofChange ledgerClosedSpec)

/-- ITS FALSE NEIGHBOUR: 'it returns false'. Refute it at one input. -/
def ledgerClosedWrong : ChangeSpec := { name := "ledgerClosed", fn := fun _ => fun
  | [d1, d2, d3] => { results := [.lit (.bool false)], args := [d1, d2, d3] }
  | _ => none }
def LedgerClosedWrongFalsely : Prop := ledgerClosedRow.holds Try.pinned (OpenSpec.ofChange ledgerClosedWrong)

/-- 'usancelaw21.LedgerSums': WHATEVER THE INPUT: true; the input reads as it did. -/
def ledgerSumsSpec : ChangeSpec := { name := "ledgerSums", fn := fun _ => fun
  | [d1, d2, d3] => { results := [.lit (.bool true)], args := [d1, d2, d3] }
  | _ => none }
def ledgerSumsRow : OpenClaim := { program := "ytpmbbhefcejjlaa", sum := "2de915df45b1a6bf05ff9cc2078c1617ed39c217c6b487c873c1cdc120bb924b", func := "usance/usancelaw21.LedgerSums", spec := "ledgerSums", unfollowed := true, recurses := true, plainKeys := false, apart := false }
def LedgerSumsSaid : Prop := ledgerSumsRow.holds Try.pinned (OpenSpec.ofChange ledgerSumsSpec)

/-- ITS FALSE NEIGHBOUR: 'it returns false'. Refute it at one input. -/
def ledgerSumsWrong : ChangeSpec := { name := "ledgerSums", fn := fun _ => fun
  | [d1, d2, d3] => { results := [.lit (.bool false)], args := [d1, d2, d3] }
  | _ => none }
def LedgerSumsWrongFalsely : Prop := ledgerSumsRow.holds Try.pinned (OpenSpec.ofChange ledgerSumsWrong)

/-- 'usancelaw21.LedgerNil': WHATEVER THE INPUT: true; the input reads as it did. -/
def ledgerNilSpec : ChangeSpec := { name := "ledgerNil", fn := fun _ => fun
  | [d] => { results := [.lit (.bool true)], args := [d] }
  | _ => none }
def ledgerNilRow : OpenClaim := { program := "ytpmbbhefcejjlaa", sum := "2de915df45b1a6bf05ff9cc2078c1617ed39c217c6b487c873c1cdc120bb924b", func := "usance/usancelaw21.LedgerNil", spec := "ledgerNil", unfollowed := true, recurses := true, plainKeys := false, apart := false }
def LedgerNilSaid : Prop := ledgerNilRow.holds Try.pinned (OpenSpec.ofChange ledgerNilSpec)

/-- ITS FALSE NEIGHBOUR: 'it returns false'. Refute it at one input. -/
def ledgerNilWrong : ChangeSpec := { name := "ledgerNil", fn := fun _ => fun
  | [d] => { results := [.lit (.bool false)], args := [d] }
  | _ => none }
def LedgerNilWrongFalsely : Prop := ledgerNilRow.holds Try.pinned (OpenSpec.ofChange ledgerNilWrong)

/-- 'usancelaw21.LedgerOwn': WHATEVER THE INPUT: true; the input reads as it did. -/
def ledgerOwnSpec : ChangeSpec := { name := "ledgerOwn", fn := fun _ => fun
  | [d] => { results := [.lit (.bool true)], args := [d] }
  | _ => none }
def ledgerOwnRow : OpenClaim := { program := "ytpmbbhefcejjlaa", sum := "2de915df45b1a6bf05ff9cc2078c1617ed39c217c6b487c873c1cdc120bb924b", func := "usance/usancelaw21.LedgerOwn", spec := "ledgerOwn", unfollowed := true, recurses := true, plainKeys := false, apart := false }
def LedgerOwnSaid : Prop := ledgerOwnRow.holds Try.pinned (OpenSpec.ofChange ledgerOwnSpec)

/-- ITS FALSE NEIGHBOUR: 'it returns false'. Refute it at one input. -/
def ledgerOwnWrong : ChangeSpec := { name := "ledgerOwn", fn := fun _ => fun
  | [d] => { results := [.lit (.bool false)], args := [d] }
  | _ => none }
def LedgerOwnWrongFalsely : Prop := ledgerOwnRow.holds Try.pinned (OpenSpec.ofChange ledgerOwnWrong)

/- THE SECOND FORM. 'bulk': how many values and letters a reading holds, each counted each time it is reached (what is shared counts as often as it is met; a slice's spare places count too). A statement '..UptoSaid' is the law's where the arguments, and the package variables that the reading takes, are together of bulk at most 1048576: NARROWER than '..Said'. Prove '..Said' where nothing that the law and all that it calls make is longer than what came in: it says more and counts as full. Else prove '..UptoSaid'. A law counts once. -/
mutual
def uptoBulk {H : Type} : DataW H → Nat
  | .lit (.string bytes) => bytes.length + 1
  | .lit _ => 1
  | .nil => 1
  | .ptr d => uptoBulk d + 1
  | .slice elems spare => uptoBulkAll elems + uptoBulkAll spare + 1
  | .agg parts => uptoBulkAll parts + 1
  | .iface _ d => uptoBulk d + 1
  | .map entries => uptoBulkEntries entries + 1
  | .held _ => 1
def uptoBulkAll {H : Type} : List (DataW H) → Nat
  | [] => 0
  | d :: r => uptoBulk d + uptoBulkAll r
def uptoBulkEntries {H : Type} : List (Lit × DataW H) → Nat
  | [] => 0
  | x :: r => uptoBulkEntry x + uptoBulkEntries r
def uptoBulkEntry {H : Type} : Lit × DataW H → Nat
  | (.string bytes, d) => bytes.length + uptoBulk d + 1
  | (_, d) => uptoBulk d + 1
 end
def uptoSmall : (H : Type) → List (DataW H) → Bool := fun _ ds => decide (uptoBulkAll ds ≤ 1048576)
def OpenSpec.upto (s : _root_.Go.ChangeSpec) : _root_.Go.OpenSpec := { _root_.Go.OpenSpec.ofChange s with cond := some uptoSmall }

/-- 'usancelaw21.LedgerLines', WHERE WHAT IT READS IS OF BULK AT MOST 1048576: true; the input reads as it did. -/
def ledgerLinesUptoRow : OpenClaim := { program := "ytpmbbhefcejjlaa", sum := "2de915df45b1a6bf05ff9cc2078c1617ed39c217c6b487c873c1cdc120bb924b", func := "usance/usancelaw21.LedgerLines", spec := "ledgerLines", unfollowed := true, recurses := true, plainKeys := false, apart := false, narrowed := true }
def LedgerLinesUptoSaid : Prop := ledgerLinesUptoRow.holds Try.pinned (OpenSpec.upto ledgerLinesSpec)

/-- 'usancelaw21.LedgerEven', WHERE WHAT IT READS IS OF BULK AT MOST 1048576: true; the input reads as it did. -/
def ledgerEvenUptoRow : OpenClaim := { program := "ytpmbbhefcejjlaa", sum := "2de915df45b1a6bf05ff9cc2078c1617ed39c217c6b487c873c1cdc120bb924b", func := "usance/usancelaw21.LedgerEven", spec := "ledgerEven", unfollowed := true, recurses := true, plainKeys := false, apart := false, narrowed := true }
def LedgerEvenUptoSaid : Prop := ledgerEvenUptoRow.holds Try.pinned (OpenSpec.upto ledgerEvenSpec)

/-- 'usancelaw21.LedgerClosed', WHERE WHAT IT READS IS OF BULK AT MOST 1048576: true; the input reads as it did. -/
def ledgerClosedUptoRow : OpenClaim := { program := "ytpmbbhefcejjlaa", sum := "2de915df45b1a6bf05ff9cc2078c1617ed39c217c6b487c873c1cdc120bb924b", func := "usance/usancelaw21.LedgerClosed", spec := "ledgerClosed", unfollowed := true, recurses := true, plainKeys := false, apart := false, narrowed := true }
def LedgerClosedUptoSaid : Prop := ledgerClosedUptoRow.holds Try.pinned (OpenSpec.upto ledgerClosedSpec)

/-- 'usancelaw21.LedgerSums', WHERE WHAT IT READS IS OF BULK AT MOST 1048576: true; the input reads as it did. -/
def ledgerSumsUptoRow : OpenClaim := { program := "ytpmbbhefcejjlaa", sum := "2de915df45b1a6bf05ff9cc2078c1617ed39c217c6b487c873c1cdc120bb924b", func := "usance/usancelaw21.LedgerSums", spec := "ledgerSums", unfollowed := true, recurses := true, plainKeys := false, apart := false, narrowed := true }
def LedgerSumsUptoSaid : Prop := ledgerSumsUptoRow.holds Try.pinned (OpenSpec.upto ledgerSumsSpec)

/-- 'usancelaw21.LedgerNil', WHERE WHAT IT READS IS OF BULK AT MOST 1048576: true; the input reads as it did. -/
def ledgerNilUptoRow : OpenClaim := { program := "ytpmbbhefcejjlaa", sum := "2de915df45b1a6bf05ff9cc2078c1617ed39c217c6b487c873c1cdc120bb924b", func := "usance/usancelaw21.LedgerNil", spec := "ledgerNil", unfollowed := true, recurses := true, plainKeys := false, apart := false, narrowed := true }
def LedgerNilUptoSaid : Prop := ledgerNilUptoRow.holds Try.pinned (OpenSpec.upto ledgerNilSpec)

/-- 'usancelaw21.LedgerOwn', WHERE WHAT IT READS IS OF BULK AT MOST 1048576: true; the input reads as it did. -/
def ledgerOwnUptoRow : OpenClaim := { program := "ytpmbbhefcejjlaa", sum := "2de915df45b1a6bf05ff9cc2078c1617ed39c217c6b487c873c1cdc120bb924b", func := "usance/usancelaw21.LedgerOwn", spec := "ledgerOwn", unfollowed := true, recurses := true, plainKeys := false, apart := false, narrowed := true }
def LedgerOwnUptoSaid : Prop := ledgerOwnUptoRow.holds Try.pinned (OpenSpec.upto ledgerOwnSpec)

end Rows
end Go.Proofs.Ytpmbbhefcejjlaa
