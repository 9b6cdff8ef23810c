/-
  No cell of these rows narrows 'for every input' (looked for: loops, veiled, ifaces, maps, wideKeys, modest, calm, conditions, laid).
  DERIVED. THE GIVEN ROWS OF THIS SEAT. 5 by the template 'for every input the law returns true; each argument reads behind the call as it read before'; 0 by the template 'total and deterministic' (their statements: YtaepjocfajiokaaTotals.lean).
  GIVEN WITH THE SEED: the statements are not yours to turn. If you find one false, say at which input.
  Laid BY PROGRAM, IN A SANDBOX (cutbox-rows.mjs): the forced cells as the released guide's own fill.sh prints them over the translation 33f18962a7f44272… (all of the seat's roots in one cut). By AI agents, Wed Nov 11 2026. No macro, syntax, notation, axiom, sorry.
-/
import Derived.Test.YtaepjocfajiokaaChecked
import GoSem.Claim
import GoSem.ClaimJoined
import GoSem.ClaimMapViews
import Derived.JoinedTies
import Derived.KernelRfl
namespace Go.Proofs.Ytaepjocfajiokaa
/- THE CELL 'sum', in the pinned program and in every row, IS THE sha256 OF THE DUMP (.gsa) THAT YtaepjocfajiokaaProg.lean LOADS. Nothing in Lean hashes anything: it is a label: what it is worth is what the hold of that sum in a sandbox is worth. -/
noncomputable def Try.pinned : Pinned := { name := "ytaepjocfajiokaa", sum := "33f18962a7f442728ae3a3b87300a3a28de83c0b037e16099be5c3a0bcba811c", checked := Try.checked }
namespace Rows
def none {H : Type} : Left H := { results := [], args := [] }

/-- 'usancelaw04.VarintOne': WHATEVER THE INPUT: true; the input reads as it did. -/
def varintOneSpec : ChangeSpec := { name := "varintOne", fn := fun _ => fun
  | [d1, d2] => { results := [.lit (.bool true)], args := [d1, d2] }
  | _ => none }
def varintOneRow : OpenClaim := { program := "ytaepjocfajiokaa", sum := "33f18962a7f442728ae3a3b87300a3a28de83c0b037e16099be5c3a0bcba811c", func := "usance/usancelaw04.VarintOne", spec := "varintOne", apart := false }
def VarintOneSaid : Prop := varintOneRow.holds Try.pinned (OpenSpec.ofChange varintOneSpec)

/-- ITS FALSE NEIGHBOUR: 'it returns false'. Refute it at one input. -/
def varintOneWrong : ChangeSpec := { name := "varintOne", fn := fun _ => fun
  | [d1, d2] => { results := [.lit (.bool false)], args := [d1, d2] }
  | _ => none }
def VarintOneWrongFalsely : Prop := varintOneRow.holds Try.pinned (OpenSpec.ofChange varintOneWrong)

/-- 'usancelaw04.VarintWrites': WHATEVER THE INPUT: true; the input reads as it did. -/
def varintWritesSpec : ChangeSpec := { name := "varintWrites", fn := fun _ => fun
  | [d1, d2, d3] => { results := [.lit (.bool true)], args := [d1, d2, d3] }
  | _ => none }
def varintWritesRow : OpenClaim := { program := "ytaepjocfajiokaa", sum := "33f18962a7f442728ae3a3b87300a3a28de83c0b037e16099be5c3a0bcba811c", func := "usance/usancelaw04.VarintWrites", spec := "varintWrites", apart := false }
def VarintWritesSaid : Prop := varintWritesRow.holds Try.pinned (OpenSpec.ofChange varintWritesSpec)

/-- ITS FALSE NEIGHBOUR: 'it returns false'. Refute it at one input. -/
def varintWritesWrong : ChangeSpec := { name := "varintWrites", fn := fun _ => fun
  | [d1, d2, d3] => { results := [.lit (.bool false)], args := [d1, d2, d3] }
  | _ => none }
def VarintWritesWrongFalsely : Prop := varintWritesRow.holds Try.pinned (OpenSpec.ofChange varintWritesWrong)

/-- 'usancelaw04.VarintOwn': WHATEVER THE INPUT: true; the input reads as it did. -/
def varintOwnSpec : ChangeSpec := { name := "varintOwn", fn := fun _ => fun
  | [d1, d2, d3] => { results := [.lit (.bool true)], args := [d1, d2, d3] }
  | _ => none }
def varintOwnRow : OpenClaim := { program := "ytaepjocfajiokaa", sum := "33f18962a7f442728ae3a3b87300a3a28de83c0b037e16099be5c3a0bcba811c", func := "usance/usancelaw04.VarintOwn", spec := "varintOwn", apart := false }
def VarintOwnSaid : Prop := varintOwnRow.holds Try.pinned (OpenSpec.ofChange varintOwnSpec)

/-- ITS FALSE NEIGHBOUR: 'it returns false'. Refute it at one input. -/
def varintOwnWrong : ChangeSpec := { name := "varintOwn", fn := fun _ => fun
  | [d1, d2, d3] => { results := [.lit (.bool false)], args := [d1, d2, d3] }
  | _ => none }
def VarintOwnWrongFalsely : Prop := varintOwnRow.holds Try.pinned (OpenSpec.ofChange varintOwnWrong)

/-- 'usancelaw04.VarintReads': WHATEVER THE INPUT: true; the input reads as it did. -/
def varintReadsSpec : ChangeSpec := { name := "varintReads", fn := fun _ => fun
  | [d1, d2, d3] => { results := [.lit (.bool true)], args := [d1, d2, d3] }
  | _ => none }
def varintReadsRow : OpenClaim := { program := "ytaepjocfajiokaa", sum := "33f18962a7f442728ae3a3b87300a3a28de83c0b037e16099be5c3a0bcba811c", func := "usance/usancelaw04.VarintReads", spec := "varintReads", apart := false }
def VarintReadsSaid : Prop := varintReadsRow.holds Try.pinned (OpenSpec.ofChange varintReadsSpec)

/-- ITS FALSE NEIGHBOUR: 'it returns false'. Refute it at one input. -/
def varintReadsWrong : ChangeSpec := { name := "varintReads", fn := fun _ => fun
  | [d1, d2, d3] => { results := [.lit (.bool false)], args := [d1, d2, d3] }
  | _ => none }
def VarintReadsWrongFalsely : Prop := varintReadsRow.holds Try.pinned (OpenSpec.ofChange varintReadsWrong)

/-- 'usancelaw04.VarintBack': WHATEVER THE INPUT: true; the input reads as it did. -/
def varintBackSpec : ChangeSpec := { name := "varintBack", fn := fun _ => fun
  | [d1, d2, d3] => { results := [.lit (.bool true)], args := [d1, d2, d3] }
  | _ => none }
def varintBackRow : OpenClaim := { program := "ytaepjocfajiokaa", sum := "33f18962a7f442728ae3a3b87300a3a28de83c0b037e16099be5c3a0bcba811c", func := "usance/usancelaw04.VarintBack", spec := "varintBack", apart := false }
def VarintBackSaid : Prop := varintBackRow.holds Try.pinned (OpenSpec.ofChange varintBackSpec)

/-- ITS FALSE NEIGHBOUR: 'it returns false'. Refute it at one input. -/
def varintBackWrong : ChangeSpec := { name := "varintBack", fn := fun _ => fun
  | [d1, d2, d3] => { results := [.lit (.bool false)], args := [d1, d2, d3] }
  | _ => none }
def VarintBackWrongFalsely : Prop := varintBackRow.holds Try.pinned (OpenSpec.ofChange varintBackWrong)

/- THE SECOND FORM. 'bulk': how many values and letters a reading holds, each counted each time it is reached (what is shared counts as often as it is met; a slice's spare places count too). A statement '..UptoSaid' is the law's where the arguments, and the package variables that the reading takes, are together of bulk at most 1048576: NARROWER than '..Said'. Prove '..Said' where nothing that the law and all that it calls make is longer than what came in: it says more and counts as full. Else prove '..UptoSaid'. A law counts once. -/
mutual
def uptoBulk {H : Type} : DataW H → Nat
  | .lit (.string bytes) => bytes.length + 1
  | .lit _ => 1
  | .nil => 1
  | .ptr d => uptoBulk d + 1
  | .slice elems spare => uptoBulkAll elems + uptoBulkAll spare + 1
  | .agg parts => uptoBulkAll parts + 1
  | .iface _ d => uptoBulk d + 1
  | .map entries => uptoBulkEntries entries + 1
  | .held _ => 1
def uptoBulkAll {H : Type} : List (DataW H) → Nat
  | [] => 0
  | d :: r => uptoBulk d + uptoBulkAll r
def uptoBulkEntries {H : Type} : List (Lit × DataW H) → Nat
  | [] => 0
  | x :: r => uptoBulkEntry x + uptoBulkEntries r
def uptoBulkEntry {H : Type} : Lit × DataW H → Nat
  | (.string bytes, d) => bytes.length + uptoBulk d + 1
  | (_, d) => uptoBulk d + 1
 end
def uptoSmall : (H : Type) → List (DataW H) → Bool := fun _ ds => decide (uptoBulkAll ds ≤ 1048576)
def OpenSpec.upto (s : _root_.Go.ChangeSpec) : _root_.Go.OpenSpec := { _root_.Go.OpenSpec.ofChange s with cond := some uptoSmall }

/-- 'usancelaw04.VarintOne', WHERE WHAT IT READS IS OF BULK AT MOST 1048576: true; the input reads as it did. -/
def varintOneUptoRow : OpenClaim := { program := "ytaepjocfajiokaa", sum := "33f18962a7f442728ae3a3b87300a3a28de83c0b037e16099be5c3a0bcba811c", func := "usance/usancelaw04.VarintOne", spec := "varintOne", apart := false, narrowed := true }
def VarintOneUptoSaid : Prop := varintOneUptoRow.holds Try.pinned (OpenSpec.upto varintOneSpec)

/-- 'usancelaw04.VarintWrites', WHERE WHAT IT READS IS OF BULK AT MOST 1048576: true; the input reads as it did. -/
def varintWritesUptoRow : OpenClaim := { program := "ytaepjocfajiokaa", sum := "33f18962a7f442728ae3a3b87300a3a28de83c0b037e16099be5c3a0bcba811c", func := "usance/usancelaw04.VarintWrites", spec := "varintWrites", apart := false, narrowed := true }
def VarintWritesUptoSaid : Prop := varintWritesUptoRow.holds Try.pinned (OpenSpec.upto varintWritesSpec)

/-- 'usancelaw04.VarintOwn', WHERE WHAT IT READS IS OF BULK AT MOST 1048576: true; the input reads as it did. -/
def varintOwnUptoRow : OpenClaim := { program := "ytaepjocfajiokaa", sum := "33f18962a7f442728ae3a3b87300a3a28de83c0b037e16099be5c3a0bcba811c", func := "usance/usancelaw04.VarintOwn", spec := "varintOwn", apart := false, narrowed := true }
def VarintOwnUptoSaid : Prop := varintOwnUptoRow.holds Try.pinned (OpenSpec.upto varintOwnSpec)

/-- 'usancelaw04.VarintReads', WHERE WHAT IT READS IS OF BULK AT MOST 1048576: true; the input reads as it did. -/
def varintReadsUptoRow : OpenClaim := { program := "ytaepjocfajiokaa", sum := "33f18962a7f442728ae3a3b87300a3a28de83c0b037e16099be5c3a0bcba811c", func := "usance/usancelaw04.VarintReads", spec := "varintReads", apart := false, narrowed := true }
def VarintReadsUptoSaid : Prop := varintReadsUptoRow.holds Try.pinned (OpenSpec.upto varintReadsSpec)

/-- 'usancelaw04.VarintBack', WHERE WHAT IT READS IS OF BULK AT MOST 1048576: true; the input reads as it did. -/
def varintBackUptoRow : OpenClaim := { program := "ytaepjocfajiokaa", sum := "33f18962a7f442728ae3a3b87300a3a28de83c0b037e16099be5c3a0bcba811c", func := "usance/usancelaw04.VarintBack", spec := "varintBack", apart := false, narrowed := true }
def VarintBackUptoSaid : Prop := varintBackUptoRow.holds Try.pinned (OpenSpec.upto varintBackSpec)

end Rows
end Go.Proofs.Ytaepjocfajiokaa
