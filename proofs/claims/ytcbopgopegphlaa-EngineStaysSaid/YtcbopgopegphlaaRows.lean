/-
  No cell of these rows narrows 'for every input' (looked for: loops, veiled, ifaces, maps, wideKeys, modest, calm, conditions, laid).
  DERIVED. THE GIVEN ROWS OF THIS SEAT. 3 by the template 'for every input the law returns true; each argument reads behind the call as it read before'; 0 by the template 'total and deterministic' (their statements: YtcbopgopegphlaaTotals.lean).
  GIVEN WITH THE SEED: the statements are not yours to turn. If you find one false, say at which input.
  Laid BY PROGRAM, IN A SANDBOX (cutbox-rows.mjs): the forced cells as the released guide's own fill.sh prints them over the translation 6c4f44466abfd40c… (all of the seat's roots in one cut). By AI agents, Wed Nov 11 2026. No macro, syntax, notation, axiom, sorry.
-/
import Derived.Test.YtcbopgopegphlaaChecked
import GoSem.Claim
import GoSem.ClaimJoined
import GoSem.ClaimMapViews
import Derived.JoinedTies
import Derived.KernelRfl
namespace Go.Proofs.Ytcbopgopegphlaa
/- THE CELL 'sum', in the pinned program and in every row, IS THE sha256 OF THE DUMP (.gsa) THAT YtcbopgopegphlaaProg.lean LOADS. Nothing in Lean hashes anything: it is a label: what it is worth is what the hold of that sum in a sandbox is worth. -/
noncomputable def Try.pinned : Pinned := { name := "ytcbopgopegphlaa", sum := "6c4f44466abfd40cc1ced51dba2ba24d899ac6f6983d7e4ee97d21274a68c590", checked := Try.checked }
namespace Rows
def none {H : Type} : Left H := { results := [], args := [] }

/-- 'usancelaw20.EngineStays': WHATEVER THE INPUT: true; the input reads as it did. -/
def engineStaysSpec : ChangeSpec := { name := "engineStays", fn := fun _ => fun
  | [d1, d2, d3] => { results := [.lit (.bool true)], args := [d1, d2, d3] }
  | _ => none }
def engineStaysRow : OpenClaim := { program := "ytcbopgopegphlaa", sum := "6c4f44466abfd40cc1ced51dba2ba24d899ac6f6983d7e4ee97d21274a68c590", func := "usance/usancelaw20.EngineStays", spec := "engineStays", inPlace := ["math/bits.Add64"], unfollowed := true, recurses := true, named := ["math/bits.divideError", "math/bits.overflowError"], plainKeys := false, apart := false }
def EngineStaysSaid : Prop := engineStaysRow.holds Try.pinned (OpenSpec.ofChange engineStaysSpec)

/-- ITS FALSE NEIGHBOUR: 'it returns false'. Refute it at one input. -/
def engineStaysWrong : ChangeSpec := { name := "engineStays", fn := fun _ => fun
  | [d1, d2, d3] => { results := [.lit (.bool false)], args := [d1, d2, d3] }
  | _ => none }
def EngineStaysWrongFalsely : Prop := engineStaysRow.holds Try.pinned (OpenSpec.ofChange engineStaysWrong)

/-- 'usancelaw20.EngineNil': WHATEVER THE INPUT: true; the input reads as it did. -/
def engineNilSpec : ChangeSpec := { name := "engineNil", fn := fun _ => fun
  | [d1, d2] => { results := [.lit (.bool true)], args := [d1, d2] }
  | _ => none }
def engineNilRow : OpenClaim := { program := "ytcbopgopegphlaa", sum := "6c4f44466abfd40cc1ced51dba2ba24d899ac6f6983d7e4ee97d21274a68c590", func := "usance/usancelaw20.EngineNil", spec := "engineNil", inPlace := ["math/bits.Add64"], unfollowed := true, recurses := true, named := ["math/bits.divideError", "math/bits.overflowError"], plainKeys := false, apart := false }
def EngineNilSaid : Prop := engineNilRow.holds Try.pinned (OpenSpec.ofChange engineNilSpec)

/-- ITS FALSE NEIGHBOUR: 'it returns false'. Refute it at one input. -/
def engineNilWrong : ChangeSpec := { name := "engineNil", fn := fun _ => fun
  | [d1, d2] => { results := [.lit (.bool false)], args := [d1, d2] }
  | _ => none }
def EngineNilWrongFalsely : Prop := engineNilRow.holds Try.pinned (OpenSpec.ofChange engineNilWrong)

/-- 'usancelaw20.EngineLayers': WHATEVER THE INPUT: true; the input reads as it did. -/
def engineLayersSpec : ChangeSpec := { name := "engineLayers", fn := fun _ => fun
  | [d1, d2, d3] => { results := [.lit (.bool true)], args := [d1, d2, d3] }
  | _ => none }
def engineLayersRow : OpenClaim := { program := "ytcbopgopegphlaa", sum := "6c4f44466abfd40cc1ced51dba2ba24d899ac6f6983d7e4ee97d21274a68c590", func := "usance/usancelaw20.EngineLayers", spec := "engineLayers", inPlace := ["math/bits.Add64"], unfollowed := true, recurses := true, named := ["math/bits.divideError", "math/bits.overflowError"], plainKeys := false, apart := false }
def EngineLayersSaid : Prop := engineLayersRow.holds Try.pinned (OpenSpec.ofChange engineLayersSpec)

/-- ITS FALSE NEIGHBOUR: 'it returns false'. Refute it at one input. -/
def engineLayersWrong : ChangeSpec := { name := "engineLayers", fn := fun _ => fun
  | [d1, d2, d3] => { results := [.lit (.bool false)], args := [d1, d2, d3] }
  | _ => none }
def EngineLayersWrongFalsely : Prop := engineLayersRow.holds Try.pinned (OpenSpec.ofChange engineLayersWrong)

/- THE SECOND FORM. 'bulk': how many values and letters a reading holds, each counted each time it is reached (what is shared counts as often as it is met; a slice's spare places count too). A statement '..UptoSaid' is the law's where the arguments, and the package variables that the reading takes, are together of bulk at most 1048576: NARROWER than '..Said'. Prove '..Said' where nothing that the law and all that it calls make is longer than what came in: it says more and counts as full. Else prove '..UptoSaid'. A law counts once. -/
mutual
def uptoBulk {H : Type} : DataW H → Nat
  | .lit (.string bytes) => bytes.length + 1
  | .lit _ => 1
  | .nil => 1
  | .ptr d => uptoBulk d + 1
  | .slice elems spare => uptoBulkAll elems + uptoBulkAll spare + 1
  | .agg parts => uptoBulkAll parts + 1
  | .iface _ d => uptoBulk d + 1
  | .map entries => uptoBulkEntries entries + 1
  | .held _ => 1
def uptoBulkAll {H : Type} : List (DataW H) → Nat
  | [] => 0
  | d :: r => uptoBulk d + uptoBulkAll r
def uptoBulkEntries {H : Type} : List (Lit × DataW H) → Nat
  | [] => 0
  | x :: r => uptoBulkEntry x + uptoBulkEntries r
def uptoBulkEntry {H : Type} : Lit × DataW H → Nat
  | (.string bytes, d) => bytes.length + uptoBulk d + 1
  | (_, d) => uptoBulk d + 1
 end
def uptoSmall : (H : Type) → List (DataW H) → Bool := fun _ ds => decide (uptoBulkAll ds ≤ 1048576)
def OpenSpec.upto (s : _root_.Go.ChangeSpec) : _root_.Go.OpenSpec := { _root_.Go.OpenSpec.ofChange s with cond := some uptoSmall }

/-- 'usancelaw20.EngineStays', WHERE WHAT IT READS IS OF BULK AT MOST 1048576: true; the input reads as it did. -/
def engineStaysUptoRow : OpenClaim := { program := "ytcbopgopegphlaa", sum := "6c4f44466abfd40cc1ced51dba2ba24d899ac6f6983d7e4ee97d21274a68c590", func := "usance/usancelaw20.EngineStays", spec := "engineStays", inPlace := ["math/bits.Add64"], unfollowed := true, recurses := true, named := ["math/bits.divideError", "math/bits.overflowError"], plainKeys := false, apart := false, narrowed := true }
def EngineStaysUptoSaid : Prop := engineStaysUptoRow.holds Try.pinned (OpenSpec.upto engineStaysSpec)

/-- 'usancelaw20.EngineNil', WHERE WHAT IT READS IS OF BULK AT MOST 1048576: true; the input reads as it did. -/
def engineNilUptoRow : OpenClaim := { program := "ytcbopgopegphlaa", sum := "6c4f44466abfd40cc1ced51dba2ba24d899ac6f6983d7e4ee97d21274a68c590", func := "usance/usancelaw20.EngineNil", spec := "engineNil", inPlace := ["math/bits.Add64"], unfollowed := true, recurses := true, named := ["math/bits.divideError", "math/bits.overflowError"], plainKeys := false, apart := false, narrowed := true }
def EngineNilUptoSaid : Prop := engineNilUptoRow.holds Try.pinned (OpenSpec.upto engineNilSpec)

/-- 'usancelaw20.EngineLayers', WHERE WHAT IT READS IS OF BULK AT MOST 1048576: true; the input reads as it did. -/
def engineLayersUptoRow : OpenClaim := { program := "ytcbopgopegphlaa", sum := "6c4f44466abfd40cc1ced51dba2ba24d899ac6f6983d7e4ee97d21274a68c590", func := "usance/usancelaw20.EngineLayers", spec := "engineLayers", inPlace := ["math/bits.Add64"], unfollowed := true, recurses := true, named := ["math/bits.divideError", "math/bits.overflowError"], plainKeys := false, apart := false, narrowed := true }
def EngineLayersUptoSaid : Prop := engineLayersUptoRow.holds Try.pinned (OpenSpec.upto engineLayersSpec)

end Rows
end Go.Proofs.Ytcbopgopegphlaa
