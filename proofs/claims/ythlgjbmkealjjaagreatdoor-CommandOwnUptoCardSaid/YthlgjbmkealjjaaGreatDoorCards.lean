/-
  DERIVED. GIVEN WITH THE SEED: THE CARDS: each row of YthlgjbmkealjjaaGreatDoorRows.lean that lists a variable, with what it lists TIED to the program's text (the seventh form; the later family's looks); each row that meets fmt, with fmt's text TOLD by the authors' own Lean function (tested against real Go, not proved from fmt's source: count such statements apart). THE CARD IS WHAT COUNTS. Prove the row's statement (the work); the ties are given (YthlgjbmkealjjaaGreatDoorTie.lean); close each card by the builder's one call (the guide's Derived/Test/ToyasCard.lean, 'card_holds'). Laid BY PROGRAM, IN A SANDBOX (cutbox-door.mjs). By AI agents, Wed Nov 11 2026. No macro, syntax, notation, axiom, sorry.
-/
import Derived.Test.YthlgjbmkealjjaaGreatDoorRows
import GoSem.ClaimSeven
namespace Go.Proofs.YthlgjbmkealjjaaGreatDoor
namespace Rows

/-- THE TIED CARD OF 'usancelaw22.CommandParses'. -/
def commandParsesCard : Claim7 := { stood := { row := commandParsesRow, standIns := [], harness := (true, "0aeb72e0b83a498d4445908e13e62208e8ea0ac9a25f58d3df9c00558ec0e220"), looks := true }, kinds := [], alts := [], laidByText := true, laidKinds := [.data, .data, .data, .data, .sentinel, .sentinel, .pinned], laidTests := true, laidLooks := .later }
def CommandParsesCardSaid : Prop := Claim7.holds Tryz.pinned (.plain (OpenSpec.ofChange commandParsesSpec)) commandParsesCard

/-- THE TIED CARD OF 'usancelaw22.CommandWrites'. -/
def commandWritesCard : Claim7 := { stood := { row := commandWritesRow, standIns := [], harness := (true, "0aeb72e0b83a498d4445908e13e62208e8ea0ac9a25f58d3df9c00558ec0e220"), looks := true }, kinds := [], alts := [], laidByText := true, laidKinds := [.data, .data, .data, .data, .sentinel, .sentinel, .pinned], laidTests := true, laidLooks := .later }
def CommandWritesCardSaid : Prop := Claim7.holds Tryz.pinned (.plain (OpenSpec.ofChange commandWritesSpec)) commandWritesCard

/-- THE TIED CARD OF 'usancelaw22.CommandBack'. -/
def commandBackCard : Claim7 := { stood := { row := commandBackRow, standIns := [], harness := (true, "0aeb72e0b83a498d4445908e13e62208e8ea0ac9a25f58d3df9c00558ec0e220"), looks := true }, kinds := [], alts := [], laidByText := true, laidKinds := [.data, .data, .data, .data, .sentinel, .sentinel, .pinned], laidTests := true, laidLooks := .later }
def CommandBackCardSaid : Prop := Claim7.holds Tryz.pinned (.plain (OpenSpec.ofChange commandBackSpec)) commandBackCard

/-- THE TIED CARD OF 'usancelaw22.CommandOwn'. -/
def commandOwnCard : Claim7 := { stood := { row := commandOwnRow, standIns := [], harness := (true, "0aeb72e0b83a498d4445908e13e62208e8ea0ac9a25f58d3df9c00558ec0e220"), looks := true }, kinds := [], alts := [], laidByText := true, laidKinds := [.data, .data, .data, .data, .sentinel, .sentinel, .pinned], laidTests := true, laidLooks := .later }
def CommandOwnCardSaid : Prop := Claim7.holds Tryz.pinned (.plain (OpenSpec.ofChange commandOwnSpec)) commandOwnCard

/-- THE SECOND FORM's CARD OF 'usancelaw22.CommandParses'. -/
def commandParsesUptoCard : Claim7 := { stood := { row := commandParsesUptoRow, standIns := [], harness := (true, "0aeb72e0b83a498d4445908e13e62208e8ea0ac9a25f58d3df9c00558ec0e220"), looks := true }, kinds := [], alts := [], laidByText := true, laidKinds := [.data, .data, .data, .data, .sentinel, .sentinel, .pinned], laidTests := true, laidLooks := .later }
def CommandParsesUptoCardSaid : Prop := Claim7.holds Tryz.pinned (.plain (OpenSpec.upto commandParsesSpec)) commandParsesUptoCard

/-- THE SECOND FORM's CARD OF 'usancelaw22.CommandWrites'. -/
def commandWritesUptoCard : Claim7 := { stood := { row := commandWritesUptoRow, standIns := [], harness := (true, "0aeb72e0b83a498d4445908e13e62208e8ea0ac9a25f58d3df9c00558ec0e220"), looks := true }, kinds := [], alts := [], laidByText := true, laidKinds := [.data, .data, .data, .data, .sentinel, .sentinel, .pinned], laidTests := true, laidLooks := .later }
def CommandWritesUptoCardSaid : Prop := Claim7.holds Tryz.pinned (.plain (OpenSpec.upto commandWritesSpec)) commandWritesUptoCard

/-- THE SECOND FORM's CARD OF 'usancelaw22.CommandBack'. -/
def commandBackUptoCard : Claim7 := { stood := { row := commandBackUptoRow, standIns := [], harness := (true, "0aeb72e0b83a498d4445908e13e62208e8ea0ac9a25f58d3df9c00558ec0e220"), looks := true }, kinds := [], alts := [], laidByText := true, laidKinds := [.data, .data, .data, .data, .sentinel, .sentinel, .pinned], laidTests := true, laidLooks := .later }
def CommandBackUptoCardSaid : Prop := Claim7.holds Tryz.pinned (.plain (OpenSpec.upto commandBackSpec)) commandBackUptoCard

/-- THE SECOND FORM's CARD OF 'usancelaw22.CommandOwn'. -/
def commandOwnUptoCard : Claim7 := { stood := { row := commandOwnUptoRow, standIns := [], harness := (true, "0aeb72e0b83a498d4445908e13e62208e8ea0ac9a25f58d3df9c00558ec0e220"), looks := true }, kinds := [], alts := [], laidByText := true, laidKinds := [.data, .data, .data, .data, .sentinel, .sentinel, .pinned], laidTests := true, laidLooks := .later }
def CommandOwnUptoCardSaid : Prop := Claim7.holds Tryz.pinned (.plain (OpenSpec.upto commandOwnSpec)) commandOwnUptoCard
end Rows
end Go.Proofs.YthlgjbmkealjjaaGreatDoor
