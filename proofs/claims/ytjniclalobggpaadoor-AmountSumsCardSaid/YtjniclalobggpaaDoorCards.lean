/-
  DERIVED. GIVEN WITH THE SEED: THE CARDS: each row of YtjniclalobggpaaDoorRows.lean that lists a variable, with what it lists TIED to the program's text (the seventh form; the later family's looks); each row that meets fmt, with fmt's text TOLD by the authors' own Lean function (tested against real Go, not proved from fmt's source: count such statements apart). THE CARD IS WHAT COUNTS. Prove the row's statement (the work); the ties are given (YtjniclalobggpaaDoorTie.lean); close each card by the builder's one call (the guide's Derived/Test/ToyasCard.lean, 'card_holds'). Laid BY PROGRAM, IN A SANDBOX (cutbox-door.mjs). By AI agents, Wed Nov 11 2026. No macro, syntax, notation, axiom, sorry.
-/
import Derived.Test.YtjniclalobggpaaDoorRows
import GoSem.ClaimSeven
namespace Go.Proofs.YtjniclalobggpaaDoor
namespace Rows

/-- THE TIED CARD OF 'usancelaw01.AmountDivides'. -/
def amountDividesCard : Claim7 := { stood := { row := amountDividesRow, standIns := [], harness := (true, "5eb9cb97a04d930a6c592655cea69ddeaa1bef1175cbd85cc5f62c3c000103cc"), looks := true }, kinds := [], alts := [], laidByText := true, laidKinds := [.data, .data, .data, .sentinel, .sentinel], laidTests := true, laidLooks := .later }
def AmountDividesCardSaid : Prop := Claim7.holds Tryd.pinned (.plain (OpenSpec.ofChange amountDividesSpec)) amountDividesCard

/-- THE TIED CARD OF 'usancelaw01.AmountInterest'. -/
def amountInterestCard : Claim7 := { stood := { row := amountInterestRow, standIns := [], harness := (true, "5eb9cb97a04d930a6c592655cea69ddeaa1bef1175cbd85cc5f62c3c000103cc"), looks := true }, kinds := [], alts := [], laidByText := true, laidKinds := [.data, .data, .data, .sentinel, .sentinel], laidTests := true, laidLooks := .later }
def AmountInterestCardSaid : Prop := Claim7.holds Tryd.pinned (.plain (OpenSpec.ofChange amountInterestSpec)) amountInterestCard

/-- THE TIED CARD OF 'usancelaw01.AmountSplits'. -/
def amountSplitsCard : Claim7 := { stood := { row := amountSplitsRow, standIns := [], harness := (true, "5eb9cb97a04d930a6c592655cea69ddeaa1bef1175cbd85cc5f62c3c000103cc"), looks := true }, kinds := [], alts := [], laidByText := true, laidKinds := [.data, .data, .data, .sentinel, .sentinel], laidTests := true, laidLooks := .later }
def AmountSplitsCardSaid : Prop := Claim7.holds Tryd.pinned (.plain (OpenSpec.ofChange amountSplitsSpec)) amountSplitsCard

/-- THE TIED CARD OF 'usancelaw01.AmountSums'. -/
def amountSumsCard : Claim7 := { stood := { row := amountSumsRow, standIns := [], harness := (true, "5eb9cb97a04d930a6c592655cea69ddeaa1bef1175cbd85cc5f62c3c000103cc"), looks := true }, kinds := [], alts := [], laidByText := true, laidKinds := [.data, .data, .data, .sentinel, .sentinel], laidTests := true, laidLooks := .later }
def AmountSumsCardSaid : Prop := Claim7.holds Tryd.pinned (.plain (OpenSpec.ofChange amountSumsSpec)) amountSumsCard

/-- THE TIED CARD OF 'usancelaw01.AmountTexts'. -/
def amountTextsCard : Claim7 := { stood := { row := amountTextsRow, standIns := [], harness := (true, "5eb9cb97a04d930a6c592655cea69ddeaa1bef1175cbd85cc5f62c3c000103cc"), looks := true }, kinds := [], alts := [], laidByText := true, laidKinds := [.data, .data, .data, .sentinel, .sentinel], laidTests := true, laidLooks := .later }
def AmountTextsCardSaid : Prop := Claim7.holds Tryd.pinned (.plain (OpenSpec.ofChange amountTextsSpec)) amountTextsCard

/-- THE TIED CARD OF 'usancelaw01.AmountLaws'. -/
def amountLawsCard : Claim7 := { stood := { row := amountLawsRow, standIns := [], harness := (true, "5eb9cb97a04d930a6c592655cea69ddeaa1bef1175cbd85cc5f62c3c000103cc"), looks := true }, kinds := [], alts := [], laidByText := true, laidKinds := [.data, .data, .data, .sentinel, .sentinel], laidTests := true, laidLooks := .later }
def AmountLawsCardSaid : Prop := Claim7.holds Tryd.pinned (.plain (OpenSpec.ofChange amountLawsSpec)) amountLawsCard

/-- THE TIED CARD OF 'usancelaw01.AmountOwn'. -/
def amountOwnCard : Claim7 := { stood := { row := amountOwnRow, standIns := [], harness := (true, "5eb9cb97a04d930a6c592655cea69ddeaa1bef1175cbd85cc5f62c3c000103cc"), looks := true }, kinds := [], alts := [], laidByText := true, laidKinds := [.data, .data, .data, .sentinel, .sentinel], laidTests := true, laidLooks := .later }
def AmountOwnCardSaid : Prop := Claim7.holds Tryd.pinned (.plain (OpenSpec.ofChange amountOwnSpec)) amountOwnCard

/-- THE TIED CARD OF 'usancelaw01.AmountAdds'. -/
def amountAddsCard : Claim7 := { stood := { row := amountAddsRow, standIns := [], harness := (true, "5eb9cb97a04d930a6c592655cea69ddeaa1bef1175cbd85cc5f62c3c000103cc"), looks := true }, kinds := [], alts := [], laidByText := true, laidKinds := [.data, .data, .data, .sentinel, .sentinel], laidTests := true, laidLooks := .later }
def AmountAddsCardSaid : Prop := Claim7.holds Tryd.pinned (.plain (OpenSpec.ofChange amountAddsSpec)) amountAddsCard

/-- THE SECOND FORM's CARD OF 'usancelaw01.AmountDivides'. -/
def amountDividesUptoCard : Claim7 := { stood := { row := amountDividesUptoRow, standIns := [], harness := (true, "5eb9cb97a04d930a6c592655cea69ddeaa1bef1175cbd85cc5f62c3c000103cc"), looks := true }, kinds := [], alts := [], laidByText := true, laidKinds := [.data, .data, .data, .sentinel, .sentinel], laidTests := true, laidLooks := .later }
def AmountDividesUptoCardSaid : Prop := Claim7.holds Tryd.pinned (.plain (OpenSpec.upto amountDividesSpec)) amountDividesUptoCard

/-- THE SECOND FORM's CARD OF 'usancelaw01.AmountInterest'. -/
def amountInterestUptoCard : Claim7 := { stood := { row := amountInterestUptoRow, standIns := [], harness := (true, "5eb9cb97a04d930a6c592655cea69ddeaa1bef1175cbd85cc5f62c3c000103cc"), looks := true }, kinds := [], alts := [], laidByText := true, laidKinds := [.data, .data, .data, .sentinel, .sentinel], laidTests := true, laidLooks := .later }
def AmountInterestUptoCardSaid : Prop := Claim7.holds Tryd.pinned (.plain (OpenSpec.upto amountInterestSpec)) amountInterestUptoCard

/-- THE SECOND FORM's CARD OF 'usancelaw01.AmountSplits'. -/
def amountSplitsUptoCard : Claim7 := { stood := { row := amountSplitsUptoRow, standIns := [], harness := (true, "5eb9cb97a04d930a6c592655cea69ddeaa1bef1175cbd85cc5f62c3c000103cc"), looks := true }, kinds := [], alts := [], laidByText := true, laidKinds := [.data, .data, .data, .sentinel, .sentinel], laidTests := true, laidLooks := .later }
def AmountSplitsUptoCardSaid : Prop := Claim7.holds Tryd.pinned (.plain (OpenSpec.upto amountSplitsSpec)) amountSplitsUptoCard

/-- THE SECOND FORM's CARD OF 'usancelaw01.AmountSums'. -/
def amountSumsUptoCard : Claim7 := { stood := { row := amountSumsUptoRow, standIns := [], harness := (true, "5eb9cb97a04d930a6c592655cea69ddeaa1bef1175cbd85cc5f62c3c000103cc"), looks := true }, kinds := [], alts := [], laidByText := true, laidKinds := [.data, .data, .data, .sentinel, .sentinel], laidTests := true, laidLooks := .later }
def AmountSumsUptoCardSaid : Prop := Claim7.holds Tryd.pinned (.plain (OpenSpec.upto amountSumsSpec)) amountSumsUptoCard

/-- THE SECOND FORM's CARD OF 'usancelaw01.AmountTexts'. -/
def amountTextsUptoCard : Claim7 := { stood := { row := amountTextsUptoRow, standIns := [], harness := (true, "5eb9cb97a04d930a6c592655cea69ddeaa1bef1175cbd85cc5f62c3c000103cc"), looks := true }, kinds := [], alts := [], laidByText := true, laidKinds := [.data, .data, .data, .sentinel, .sentinel], laidTests := true, laidLooks := .later }
def AmountTextsUptoCardSaid : Prop := Claim7.holds Tryd.pinned (.plain (OpenSpec.upto amountTextsSpec)) amountTextsUptoCard

/-- THE SECOND FORM's CARD OF 'usancelaw01.AmountLaws'. -/
def amountLawsUptoCard : Claim7 := { stood := { row := amountLawsUptoRow, standIns := [], harness := (true, "5eb9cb97a04d930a6c592655cea69ddeaa1bef1175cbd85cc5f62c3c000103cc"), looks := true }, kinds := [], alts := [], laidByText := true, laidKinds := [.data, .data, .data, .sentinel, .sentinel], laidTests := true, laidLooks := .later }
def AmountLawsUptoCardSaid : Prop := Claim7.holds Tryd.pinned (.plain (OpenSpec.upto amountLawsSpec)) amountLawsUptoCard

/-- THE SECOND FORM's CARD OF 'usancelaw01.AmountOwn'. -/
def amountOwnUptoCard : Claim7 := { stood := { row := amountOwnUptoRow, standIns := [], harness := (true, "5eb9cb97a04d930a6c592655cea69ddeaa1bef1175cbd85cc5f62c3c000103cc"), looks := true }, kinds := [], alts := [], laidByText := true, laidKinds := [.data, .data, .data, .sentinel, .sentinel], laidTests := true, laidLooks := .later }
def AmountOwnUptoCardSaid : Prop := Claim7.holds Tryd.pinned (.plain (OpenSpec.upto amountOwnSpec)) amountOwnUptoCard

/-- THE SECOND FORM's CARD OF 'usancelaw01.AmountAdds'. -/
def amountAddsUptoCard : Claim7 := { stood := { row := amountAddsUptoRow, standIns := [], harness := (true, "5eb9cb97a04d930a6c592655cea69ddeaa1bef1175cbd85cc5f62c3c000103cc"), looks := true }, kinds := [], alts := [], laidByText := true, laidKinds := [.data, .data, .data, .sentinel, .sentinel], laidTests := true, laidLooks := .later }
def AmountAddsUptoCardSaid : Prop := Claim7.holds Tryd.pinned (.plain (OpenSpec.upto amountAddsSpec)) amountAddsUptoCard
end Rows
end Go.Proofs.YtjniclalobggpaaDoor
