/-
  DERIVED. GIVEN WITH THE SEED: THE CARDS: each row of YtjbafnbkcjoohaaGreatDoorRows.lean that lists a variable, with what it lists TIED to the program's text (the seventh form; the later family's looks); each row that meets fmt, with fmt's text TOLD by the authors' own Lean function (tested against real Go, not proved from fmt's source: count such statements apart). THE CARD IS WHAT COUNTS. Prove the row's statement (the work); the ties are given (YtjbafnbkcjoohaaGreatDoorTie.lean); close each card by the builder's one call (the guide's Derived/Test/ToyasCard.lean, 'card_holds'). Laid BY PROGRAM, IN A SANDBOX (cutbox-door.mjs). By AI agents, Wed Nov 11 2026. No macro, syntax, notation, axiom, sorry.
-/
import Derived.Test.YtjbafnbkcjoohaaGreatDoorRows
import GoSem.ClaimSeven
namespace Go.Proofs.YtjbafnbkcjoohaaGreatDoor
namespace Rows

/-- THE TIED CARD OF 'augurlaw03.PrintForms'. -/
def printFormsCard : Claim7 := { stood := { row := printFormsRow, standIns := [], harness := (true, "f42a5c22634e5781a5dc6fadc8603e99b2fbe3f5675895c05463f01c4b71d57f"), looks := true }, kinds := [], alts := [], laidByText := true, laidKinds := [.data, .data, .data, .sentinel, .sentinel, .sentinel, .sentinel, .sentinel, .sentinel], laidTests := true, laidLooks := .later }
def PrintFormsCardSaid : Prop := Claim7.holds Tryz.pinned (.plain (OpenSpec.ofChange printFormsSpec)) printFormsCard

/-- THE TIED CARD OF 'augurlaw15.CodeTexts'. -/
def codeTextsCard : Claim7 := { stood := { row := codeTextsRow, standIns := [], harness := (true, "f42a5c22634e5781a5dc6fadc8603e99b2fbe3f5675895c05463f01c4b71d57f"), looks := true }, kinds := [], alts := [], laidByText := true, laidKinds := [.data, .data, .data, .sentinel, .sentinel, .sentinel, .sentinel, .sentinel, .sentinel, .sentinel], laidTests := true, laidLooks := .later }
def CodeTextsCardSaid : Prop := Claim7.holds Tryz.pinned (.plain (OpenSpec.ofChange codeTextsSpec)) codeTextsCard

/-- THE TIED CARD OF 'augurlaw18.VerifyWritten'. -/
def verifyWrittenCard : Claim7 := { stood := { row := verifyWrittenRow, standIns := [], harness := (true, "f42a5c22634e5781a5dc6fadc8603e99b2fbe3f5675895c05463f01c4b71d57f"), looks := true }, kinds := [], alts := [], laidByText := true, laidKinds := [.data, .data, .data, .sentinel, .sentinel, .sentinel, .sentinel, .sentinel, .sentinel, .sentinel, .sentinel, .sentinel, .sentinel], laidTests := true, laidLooks := .later }
def VerifyWrittenCardSaid : Prop := Claim7.holds Tryz.pinned (.plain (OpenSpec.ofChange verifyWrittenSpec)) verifyWrittenCard

/-- THE SECOND FORM's CARD OF 'augurlaw03.PrintForms'. -/
def printFormsUptoCard : Claim7 := { stood := { row := printFormsUptoRow, standIns := [], harness := (true, "f42a5c22634e5781a5dc6fadc8603e99b2fbe3f5675895c05463f01c4b71d57f"), looks := true }, kinds := [], alts := [], laidByText := true, laidKinds := [.data, .data, .data, .sentinel, .sentinel, .sentinel, .sentinel, .sentinel, .sentinel], laidTests := true, laidLooks := .later }
def PrintFormsUptoCardSaid : Prop := Claim7.holds Tryz.pinned (.plain (OpenSpec.upto printFormsSpec)) printFormsUptoCard

/-- THE SECOND FORM's CARD OF 'augurlaw15.CodeTexts'. -/
def codeTextsUptoCard : Claim7 := { stood := { row := codeTextsUptoRow, standIns := [], harness := (true, "f42a5c22634e5781a5dc6fadc8603e99b2fbe3f5675895c05463f01c4b71d57f"), looks := true }, kinds := [], alts := [], laidByText := true, laidKinds := [.data, .data, .data, .sentinel, .sentinel, .sentinel, .sentinel, .sentinel, .sentinel, .sentinel], laidTests := true, laidLooks := .later }
def CodeTextsUptoCardSaid : Prop := Claim7.holds Tryz.pinned (.plain (OpenSpec.upto codeTextsSpec)) codeTextsUptoCard

/-- THE SECOND FORM's CARD OF 'augurlaw18.VerifyWritten'. -/
def verifyWrittenUptoCard : Claim7 := { stood := { row := verifyWrittenUptoRow, standIns := [], harness := (true, "f42a5c22634e5781a5dc6fadc8603e99b2fbe3f5675895c05463f01c4b71d57f"), looks := true }, kinds := [], alts := [], laidByText := true, laidKinds := [.data, .data, .data, .sentinel, .sentinel, .sentinel, .sentinel, .sentinel, .sentinel, .sentinel, .sentinel, .sentinel, .sentinel], laidTests := true, laidLooks := .later }
def VerifyWrittenUptoCardSaid : Prop := Claim7.holds Tryz.pinned (.plain (OpenSpec.upto verifyWrittenSpec)) verifyWrittenUptoCard
end Rows
end Go.Proofs.YtjbafnbkcjoohaaGreatDoor
