/-
  DERIVED. GIVEN WITH THE SEED: THE CARDS: each row of YtbblpehehgeebaaDoorRows.lean that lists a variable, with what it lists TIED to the program's text (the seventh form; the later family's looks); each row that meets fmt, with fmt's text TOLD by the authors' own Lean function (tested against real Go, not proved from fmt's source: count such statements apart). THE CARD IS WHAT COUNTS. Prove the row's statement (the work); the ties are given (YtbblpehehgeebaaDoorTie.lean); close each card by the builder's one call (the guide's Derived/Test/ToyasCard.lean, 'card_holds'). Laid BY PROGRAM, IN A SANDBOX (cutbox-door.mjs). By AI agents, Wed Nov 11 2026. No macro, syntax, notation, axiom, sorry.
-/
import Derived.Test.YtbblpehehgeebaaDoorRows
import GoSem.ClaimSeven
namespace Go.Proofs.YtbblpehehgeebaaDoor
namespace Rows

/-- THE TIED CARD OF 'usancelaw05.KeysWrites'. -/
def keysWritesCard : Claim7 := { stood := { row := keysWritesRow, standIns := [], harness := (true, "d6136761857ef980cb794c8dd0e27265f1b7eead72a09195fdbb8d90bdf91ea7"), looks := true }, kinds := [], alts := [], laidByText := true, laidKinds := [.data, .pinned], laidTests := true, laidLooks := .later }
def KeysWritesCardSaid : Prop := Claim7.holds Tryd.pinned (.plain (OpenSpec.ofChange keysWritesSpec)) keysWritesCard

/-- THE TIED CARD OF 'usancelaw05.KeysBack'. -/
def keysBackCard : Claim7 := { stood := { row := keysBackRow, standIns := [], harness := (true, "d6136761857ef980cb794c8dd0e27265f1b7eead72a09195fdbb8d90bdf91ea7"), looks := true }, kinds := [], alts := [], laidByText := true, laidKinds := [.data, .pinned], laidTests := true, laidLooks := .later }
def KeysBackCardSaid : Prop := Claim7.holds Tryd.pinned (.plain (OpenSpec.ofChange keysBackSpec)) keysBackCard

/-- THE TIED CARD OF 'usancelaw05.KeysNext'. -/
def keysNextCard : Claim7 := { stood := { row := keysNextRow, standIns := [], harness := (true, "d6136761857ef980cb794c8dd0e27265f1b7eead72a09195fdbb8d90bdf91ea7"), looks := true }, kinds := [], alts := [], laidByText := true, laidKinds := [.data, .pinned], laidTests := true, laidLooks := .later }
def KeysNextCardSaid : Prop := Claim7.holds Tryd.pinned (.plain (OpenSpec.ofChange keysNextSpec)) keysNextCard

/-- THE TIED CARD OF 'usancelaw05.KeysOwn'. -/
def keysOwnCard : Claim7 := { stood := { row := keysOwnRow, standIns := [], harness := (true, "d6136761857ef980cb794c8dd0e27265f1b7eead72a09195fdbb8d90bdf91ea7"), looks := true }, kinds := [], alts := [], laidByText := true, laidKinds := [.data, .pinned], laidTests := true, laidLooks := .later }
def KeysOwnCardSaid : Prop := Claim7.holds Tryd.pinned (.plain (OpenSpec.ofChange keysOwnSpec)) keysOwnCard

/-- THE TIED CARD OF 'usancelaw05.KeysOrder'. -/
def keysOrderCard : Claim7 := { stood := { row := keysOrderRow, standIns := [], harness := (true, "d6136761857ef980cb794c8dd0e27265f1b7eead72a09195fdbb8d90bdf91ea7"), looks := true }, kinds := [], alts := [], laidByText := true, laidKinds := [.data, .pinned], laidTests := true, laidLooks := .later }
def KeysOrderCardSaid : Prop := Claim7.holds Tryd.pinned (.plain (OpenSpec.ofChange keysOrderSpec)) keysOrderCard

/-- THE SECOND FORM's CARD OF 'usancelaw05.KeysWrites'. -/
def keysWritesUptoCard : Claim7 := { stood := { row := keysWritesUptoRow, standIns := [], harness := (true, "d6136761857ef980cb794c8dd0e27265f1b7eead72a09195fdbb8d90bdf91ea7"), looks := true }, kinds := [], alts := [], laidByText := true, laidKinds := [.data, .pinned], laidTests := true, laidLooks := .later }
def KeysWritesUptoCardSaid : Prop := Claim7.holds Tryd.pinned (.plain (OpenSpec.upto keysWritesSpec)) keysWritesUptoCard

/-- THE SECOND FORM's CARD OF 'usancelaw05.KeysBack'. -/
def keysBackUptoCard : Claim7 := { stood := { row := keysBackUptoRow, standIns := [], harness := (true, "d6136761857ef980cb794c8dd0e27265f1b7eead72a09195fdbb8d90bdf91ea7"), looks := true }, kinds := [], alts := [], laidByText := true, laidKinds := [.data, .pinned], laidTests := true, laidLooks := .later }
def KeysBackUptoCardSaid : Prop := Claim7.holds Tryd.pinned (.plain (OpenSpec.upto keysBackSpec)) keysBackUptoCard

/-- THE SECOND FORM's CARD OF 'usancelaw05.KeysNext'. -/
def keysNextUptoCard : Claim7 := { stood := { row := keysNextUptoRow, standIns := [], harness := (true, "d6136761857ef980cb794c8dd0e27265f1b7eead72a09195fdbb8d90bdf91ea7"), looks := true }, kinds := [], alts := [], laidByText := true, laidKinds := [.data, .pinned], laidTests := true, laidLooks := .later }
def KeysNextUptoCardSaid : Prop := Claim7.holds Tryd.pinned (.plain (OpenSpec.upto keysNextSpec)) keysNextUptoCard

/-- THE SECOND FORM's CARD OF 'usancelaw05.KeysOwn'. -/
def keysOwnUptoCard : Claim7 := { stood := { row := keysOwnUptoRow, standIns := [], harness := (true, "d6136761857ef980cb794c8dd0e27265f1b7eead72a09195fdbb8d90bdf91ea7"), looks := true }, kinds := [], alts := [], laidByText := true, laidKinds := [.data, .pinned], laidTests := true, laidLooks := .later }
def KeysOwnUptoCardSaid : Prop := Claim7.holds Tryd.pinned (.plain (OpenSpec.upto keysOwnSpec)) keysOwnUptoCard

/-- THE SECOND FORM's CARD OF 'usancelaw05.KeysOrder'. -/
def keysOrderUptoCard : Claim7 := { stood := { row := keysOrderUptoRow, standIns := [], harness := (true, "d6136761857ef980cb794c8dd0e27265f1b7eead72a09195fdbb8d90bdf91ea7"), looks := true }, kinds := [], alts := [], laidByText := true, laidKinds := [.data, .pinned], laidTests := true, laidLooks := .later }
def KeysOrderUptoCardSaid : Prop := Claim7.holds Tryd.pinned (.plain (OpenSpec.upto keysOrderSpec)) keysOrderUptoCard
end Rows
end Go.Proofs.YtbblpehehgeebaaDoor
