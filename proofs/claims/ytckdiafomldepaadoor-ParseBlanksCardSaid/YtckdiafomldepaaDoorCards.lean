/-
  DERIVED. GIVEN WITH THE SEED: THE CARDS: each row of YtckdiafomldepaaDoorRows.lean that lists a variable, with what it lists TIED to the program's text (the seventh form; the later family's looks); each row that meets fmt, with fmt's text TOLD by the authors' own Lean function (tested against real Go, not proved from fmt's source: count such statements apart). THE CARD IS WHAT COUNTS. Prove the row's statement (the work); the ties are given (YtckdiafomldepaaDoorTie.lean); close each card by the builder's one call (the guide's Derived/Test/ToyasCard.lean, 'card_holds'). Laid BY PROGRAM, IN A SANDBOX (cutbox-door.mjs). By AI agents, Wed Nov 11 2026. No macro, syntax, notation, axiom, sorry.
-/
import Derived.Test.YtckdiafomldepaaDoorRows
import GoSem.ClaimSeven
namespace Go.Proofs.YtckdiafomldepaaDoor
namespace Rows

/-- THE TIED CARD OF 'augurlaw02.ParseBlanks'. -/
def parseBlanksCard : Claim7 := { stood := { row := parseBlanksRow, standIns := [], harness := (true, "b55fb91d1f9da61dab286d33fba71ebc252710ebb93ee8f923cc8f7dd1def61b"), looks := true }, kinds := [], alts := [], laidByText := true, laidKinds := [.data, .data, .data, .sentinel, .sentinel, .sentinel, .sentinel, .sentinel, .sentinel, .sentinel, .sentinel, .sentinel, .sentinel, .sentinel, .sentinel, .sentinel, .sentinel, .sentinel, .sentinel, .sentinel, .sentinel], laidTests := true, laidLooks := .later }
def ParseBlanksCardSaid : Prop := Claim7.holds Tryd.pinned (.plain (OpenSpec.ofChange parseBlanksSpec)) parseBlanksCard

/-- THE TIED CARD OF 'augurlaw02.ParseRows'. -/
def parseRowsCard : Claim7 := { stood := { row := parseRowsRow, standIns := [], harness := (true, "b55fb91d1f9da61dab286d33fba71ebc252710ebb93ee8f923cc8f7dd1def61b"), looks := true }, kinds := [], alts := [], laidByText := true, laidKinds := [.data, .data, .data, .sentinel, .sentinel, .sentinel, .sentinel, .sentinel, .sentinel], laidTests := true, laidLooks := .later }
def ParseRowsCardSaid : Prop := Claim7.holds Tryd.pinned (.plain (OpenSpec.ofChange parseRowsSpec)) parseRowsCard

/-- THE TIED CARD OF 'augurlaw02.ParseBrackets'. -/
def parseBracketsCard : Claim7 := { stood := { row := parseBracketsRow, standIns := [], harness := (true, "b55fb91d1f9da61dab286d33fba71ebc252710ebb93ee8f923cc8f7dd1def61b"), looks := true }, kinds := [], alts := [], laidByText := true, laidKinds := [.data, .data, .data, .sentinel, .sentinel, .sentinel, .sentinel, .sentinel, .sentinel], laidTests := true, laidLooks := .later }
def ParseBracketsCardSaid : Prop := Claim7.holds Tryd.pinned (.plain (OpenSpec.ofChange parseBracketsSpec)) parseBracketsCard

/-- THE TIED CARD OF 'augurlaw02.ParseRowsOf'. -/
def parseRowsOfCard : Claim7 := { stood := { row := parseRowsOfRow, standIns := [], harness := (true, "b55fb91d1f9da61dab286d33fba71ebc252710ebb93ee8f923cc8f7dd1def61b"), looks := true }, kinds := [], alts := [], laidByText := true, laidKinds := [.data, .data, .data, .sentinel, .sentinel, .sentinel, .sentinel, .sentinel, .sentinel], laidTests := true, laidLooks := .later }
def ParseRowsOfCardSaid : Prop := Claim7.holds Tryd.pinned (.plain (OpenSpec.ofChange parseRowsOfSpec)) parseRowsOfCard

/-- THE TIED CARD OF 'augurlaw02.ParseNamesOf'. -/
def parseNamesOfCard : Claim7 := { stood := { row := parseNamesOfRow, standIns := [], harness := (true, "b55fb91d1f9da61dab286d33fba71ebc252710ebb93ee8f923cc8f7dd1def61b"), looks := true }, kinds := [], alts := [], laidByText := true, laidKinds := [.data, .data, .data, .sentinel, .sentinel, .sentinel, .sentinel, .sentinel, .sentinel], laidTests := true, laidLooks := .later }
def ParseNamesOfCardSaid : Prop := Claim7.holds Tryd.pinned (.plain (OpenSpec.ofChange parseNamesOfSpec)) parseNamesOfCard

/-- THE TIED CARD OF 'augurlaw02.ParseDeep'. -/
def parseDeepCard : Claim7 := { stood := { row := parseDeepRow, standIns := [], harness := (true, "b55fb91d1f9da61dab286d33fba71ebc252710ebb93ee8f923cc8f7dd1def61b"), looks := true }, kinds := [], alts := [], laidByText := true, laidKinds := [.data, .data, .data, .sentinel, .sentinel, .sentinel, .sentinel, .sentinel, .sentinel], laidTests := true, laidLooks := .later }
def ParseDeepCardSaid : Prop := Claim7.holds Tryd.pinned (.plain (OpenSpec.ofChange parseDeepSpec)) parseDeepCard

/-- THE SECOND FORM's CARD OF 'augurlaw02.ParseBlanks'. -/
def parseBlanksUptoCard : Claim7 := { stood := { row := parseBlanksUptoRow, standIns := [], harness := (true, "b55fb91d1f9da61dab286d33fba71ebc252710ebb93ee8f923cc8f7dd1def61b"), looks := true }, kinds := [], alts := [], laidByText := true, laidKinds := [.data, .data, .data, .sentinel, .sentinel, .sentinel, .sentinel, .sentinel, .sentinel, .sentinel, .sentinel, .sentinel, .sentinel, .sentinel, .sentinel, .sentinel, .sentinel, .sentinel, .sentinel, .sentinel, .sentinel], laidTests := true, laidLooks := .later }
def ParseBlanksUptoCardSaid : Prop := Claim7.holds Tryd.pinned (.plain (OpenSpec.upto parseBlanksSpec)) parseBlanksUptoCard

/-- THE SECOND FORM's CARD OF 'augurlaw02.ParseRows'. -/
def parseRowsUptoCard : Claim7 := { stood := { row := parseRowsUptoRow, standIns := [], harness := (true, "b55fb91d1f9da61dab286d33fba71ebc252710ebb93ee8f923cc8f7dd1def61b"), looks := true }, kinds := [], alts := [], laidByText := true, laidKinds := [.data, .data, .data, .sentinel, .sentinel, .sentinel, .sentinel, .sentinel, .sentinel], laidTests := true, laidLooks := .later }
def ParseRowsUptoCardSaid : Prop := Claim7.holds Tryd.pinned (.plain (OpenSpec.upto parseRowsSpec)) parseRowsUptoCard

/-- THE SECOND FORM's CARD OF 'augurlaw02.ParseBrackets'. -/
def parseBracketsUptoCard : Claim7 := { stood := { row := parseBracketsUptoRow, standIns := [], harness := (true, "b55fb91d1f9da61dab286d33fba71ebc252710ebb93ee8f923cc8f7dd1def61b"), looks := true }, kinds := [], alts := [], laidByText := true, laidKinds := [.data, .data, .data, .sentinel, .sentinel, .sentinel, .sentinel, .sentinel, .sentinel], laidTests := true, laidLooks := .later }
def ParseBracketsUptoCardSaid : Prop := Claim7.holds Tryd.pinned (.plain (OpenSpec.upto parseBracketsSpec)) parseBracketsUptoCard

/-- THE SECOND FORM's CARD OF 'augurlaw02.ParseRowsOf'. -/
def parseRowsOfUptoCard : Claim7 := { stood := { row := parseRowsOfUptoRow, standIns := [], harness := (true, "b55fb91d1f9da61dab286d33fba71ebc252710ebb93ee8f923cc8f7dd1def61b"), looks := true }, kinds := [], alts := [], laidByText := true, laidKinds := [.data, .data, .data, .sentinel, .sentinel, .sentinel, .sentinel, .sentinel, .sentinel], laidTests := true, laidLooks := .later }
def ParseRowsOfUptoCardSaid : Prop := Claim7.holds Tryd.pinned (.plain (OpenSpec.upto parseRowsOfSpec)) parseRowsOfUptoCard

/-- THE SECOND FORM's CARD OF 'augurlaw02.ParseNamesOf'. -/
def parseNamesOfUptoCard : Claim7 := { stood := { row := parseNamesOfUptoRow, standIns := [], harness := (true, "b55fb91d1f9da61dab286d33fba71ebc252710ebb93ee8f923cc8f7dd1def61b"), looks := true }, kinds := [], alts := [], laidByText := true, laidKinds := [.data, .data, .data, .sentinel, .sentinel, .sentinel, .sentinel, .sentinel, .sentinel], laidTests := true, laidLooks := .later }
def ParseNamesOfUptoCardSaid : Prop := Claim7.holds Tryd.pinned (.plain (OpenSpec.upto parseNamesOfSpec)) parseNamesOfUptoCard

/-- THE SECOND FORM's CARD OF 'augurlaw02.ParseDeep'. -/
def parseDeepUptoCard : Claim7 := { stood := { row := parseDeepUptoRow, standIns := [], harness := (true, "b55fb91d1f9da61dab286d33fba71ebc252710ebb93ee8f923cc8f7dd1def61b"), looks := true }, kinds := [], alts := [], laidByText := true, laidKinds := [.data, .data, .data, .sentinel, .sentinel, .sentinel, .sentinel, .sentinel, .sentinel], laidTests := true, laidLooks := .later }
def ParseDeepUptoCardSaid : Prop := Claim7.holds Tryd.pinned (.plain (OpenSpec.upto parseDeepSpec)) parseDeepUptoCard
end Rows
end Go.Proofs.YtckdiafomldepaaDoor
