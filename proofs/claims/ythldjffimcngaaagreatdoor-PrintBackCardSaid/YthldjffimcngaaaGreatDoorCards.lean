/-
  DERIVED. GIVEN WITH THE SEED: THE CARDS: each row of YthldjffimcngaaaGreatDoorRows.lean that lists a variable, with what it lists TIED to the program's text (the seventh form; the later family's looks); each row that meets fmt, with fmt's text TOLD by the authors' own Lean function (tested against real Go, not proved from fmt's source: count such statements apart). THE CARD IS WHAT COUNTS. Prove the row's statement (the work); the ties are given (YthldjffimcngaaaGreatDoorTie.lean); close each card by the builder's one call (the guide's Derived/Test/ToyasCard.lean, 'card_holds'). Laid BY PROGRAM, IN A SANDBOX (cutbox-door.mjs). By AI agents, Wed Nov 11 2026. No macro, syntax, notation, axiom, sorry.
-/
import Derived.Test.YthldjffimcngaaaGreatDoorRows
import GoSem.ClaimSeven
namespace Go.Proofs.YthldjffimcngaaaGreatDoor
namespace Rows

/-- THE TIED CARD OF 'augurlaw03.PrintBack'. -/
def printBackCard : Claim7 := { stood := { row := printBackRow, standIns := [], harness := (true, "12d6f658cf1849a1ae4aa606537fdf043e7721c5dfb53d537066b9bfe752c033"), looks := true }, kinds := [], alts := [], laidByText := true, laidKinds := [.data, .data, .data, .sentinel, .sentinel, .sentinel, .sentinel, .sentinel, .sentinel], laidTests := true, laidLooks := .later }
def PrintBackCardSaid : Prop := Claim7.holds Tryz.pinned (.plain (OpenSpec.ofChange printBackSpec)) printBackCard

/-- THE TIED CARD OF 'augurlaw03.PrintItems'. -/
def printItemsCard : Claim7 := { stood := { row := printItemsRow, standIns := [], harness := (true, "12d6f658cf1849a1ae4aa606537fdf043e7721c5dfb53d537066b9bfe752c033"), looks := true }, kinds := [], alts := [], laidByText := true, laidKinds := [.data, .data, .data, .sentinel, .sentinel, .sentinel, .sentinel, .sentinel, .sentinel], laidTests := true, laidLooks := .later }
def PrintItemsCardSaid : Prop := Claim7.holds Tryz.pinned (.plain (OpenSpec.ofChange printItemsSpec)) printItemsCard

/-- THE TIED CARD OF 'augurlaw03.PrintTokens'. -/
def printTokensCard : Claim7 := { stood := { row := printTokensRow, standIns := [], harness := (true, "12d6f658cf1849a1ae4aa606537fdf043e7721c5dfb53d537066b9bfe752c033"), looks := true }, kinds := [], alts := [], laidByText := true, laidKinds := [.data, .data, .data, .sentinel, .sentinel, .sentinel, .sentinel, .sentinel, .sentinel], laidTests := true, laidLooks := .later }
def PrintTokensCardSaid : Prop := Claim7.holds Tryz.pinned (.plain (OpenSpec.ofChange printTokensSpec)) printTokensCard

/-- THE TIED CARD OF 'augurlaw03.PrintNests'. -/
def printNestsCard : Claim7 := { stood := { row := printNestsRow, standIns := [], harness := (true, "12d6f658cf1849a1ae4aa606537fdf043e7721c5dfb53d537066b9bfe752c033"), looks := true }, kinds := [], alts := [], laidByText := true, laidKinds := [.data, .data, .data, .sentinel, .sentinel, .sentinel, .sentinel, .sentinel, .sentinel], laidTests := true, laidLooks := .later }
def PrintNestsCardSaid : Prop := Claim7.holds Tryz.pinned (.plain (OpenSpec.ofChange printNestsSpec)) printNestsCard

/-- THE TIED CARD OF 'augurlaw03.PrintParts'. -/
def printPartsCard : Claim7 := { stood := { row := printPartsRow, standIns := [], harness := (true, "12d6f658cf1849a1ae4aa606537fdf043e7721c5dfb53d537066b9bfe752c033"), looks := true }, kinds := [], alts := [], laidByText := true, laidKinds := [.data, .data, .data, .sentinel, .sentinel, .sentinel, .sentinel, .sentinel, .sentinel], laidTests := true, laidLooks := .later }
def PrintPartsCardSaid : Prop := Claim7.holds Tryz.pinned (.plain (OpenSpec.ofChange printPartsSpec)) printPartsCard

/-- THE SECOND FORM's CARD OF 'augurlaw03.PrintBack'. -/
def printBackUptoCard : Claim7 := { stood := { row := printBackUptoRow, standIns := [], harness := (true, "12d6f658cf1849a1ae4aa606537fdf043e7721c5dfb53d537066b9bfe752c033"), looks := true }, kinds := [], alts := [], laidByText := true, laidKinds := [.data, .data, .data, .sentinel, .sentinel, .sentinel, .sentinel, .sentinel, .sentinel], laidTests := true, laidLooks := .later }
def PrintBackUptoCardSaid : Prop := Claim7.holds Tryz.pinned (.plain (OpenSpec.upto printBackSpec)) printBackUptoCard

/-- THE SECOND FORM's CARD OF 'augurlaw03.PrintItems'. -/
def printItemsUptoCard : Claim7 := { stood := { row := printItemsUptoRow, standIns := [], harness := (true, "12d6f658cf1849a1ae4aa606537fdf043e7721c5dfb53d537066b9bfe752c033"), looks := true }, kinds := [], alts := [], laidByText := true, laidKinds := [.data, .data, .data, .sentinel, .sentinel, .sentinel, .sentinel, .sentinel, .sentinel], laidTests := true, laidLooks := .later }
def PrintItemsUptoCardSaid : Prop := Claim7.holds Tryz.pinned (.plain (OpenSpec.upto printItemsSpec)) printItemsUptoCard

/-- THE SECOND FORM's CARD OF 'augurlaw03.PrintTokens'. -/
def printTokensUptoCard : Claim7 := { stood := { row := printTokensUptoRow, standIns := [], harness := (true, "12d6f658cf1849a1ae4aa606537fdf043e7721c5dfb53d537066b9bfe752c033"), looks := true }, kinds := [], alts := [], laidByText := true, laidKinds := [.data, .data, .data, .sentinel, .sentinel, .sentinel, .sentinel, .sentinel, .sentinel], laidTests := true, laidLooks := .later }
def PrintTokensUptoCardSaid : Prop := Claim7.holds Tryz.pinned (.plain (OpenSpec.upto printTokensSpec)) printTokensUptoCard

/-- THE SECOND FORM's CARD OF 'augurlaw03.PrintNests'. -/
def printNestsUptoCard : Claim7 := { stood := { row := printNestsUptoRow, standIns := [], harness := (true, "12d6f658cf1849a1ae4aa606537fdf043e7721c5dfb53d537066b9bfe752c033"), looks := true }, kinds := [], alts := [], laidByText := true, laidKinds := [.data, .data, .data, .sentinel, .sentinel, .sentinel, .sentinel, .sentinel, .sentinel], laidTests := true, laidLooks := .later }
def PrintNestsUptoCardSaid : Prop := Claim7.holds Tryz.pinned (.plain (OpenSpec.upto printNestsSpec)) printNestsUptoCard

/-- THE SECOND FORM's CARD OF 'augurlaw03.PrintParts'. -/
def printPartsUptoCard : Claim7 := { stood := { row := printPartsUptoRow, standIns := [], harness := (true, "12d6f658cf1849a1ae4aa606537fdf043e7721c5dfb53d537066b9bfe752c033"), looks := true }, kinds := [], alts := [], laidByText := true, laidKinds := [.data, .data, .data, .sentinel, .sentinel, .sentinel, .sentinel, .sentinel, .sentinel], laidTests := true, laidLooks := .later }
def PrintPartsUptoCardSaid : Prop := Claim7.holds Tryz.pinned (.plain (OpenSpec.upto printPartsSpec)) printPartsUptoCard
end Rows
end Go.Proofs.YthldjffimcngaaaGreatDoor
