/-
  DERIVED. GIVEN WITH THE SEED: THE CARDS: each row of YtckdiafomldepaaGreatDoorRows.lean that lists a variable, with what it lists TIED to the program's text (the seventh form; the later family's looks); each row that meets fmt, with fmt's text TOLD by the authors' own Lean function (tested against real Go, not proved from fmt's source: count such statements apart). THE CARD IS WHAT COUNTS. Prove the row's statement (the work); the ties are given (YtckdiafomldepaaGreatDoorTie.lean); close each card by the builder's one call (the guide's Derived/Test/ToyasCard.lean, 'card_holds'). Laid BY PROGRAM, IN A SANDBOX (cutbox-door.mjs). By AI agents, Wed Nov 11 2026. No macro, syntax, notation, axiom, sorry.
-/
import Derived.Test.YtckdiafomldepaaGreatDoorRows
import GoSem.ClaimSeven
namespace Go.Proofs.YtckdiafomldepaaGreatDoor
namespace Rows

/-- THE TIED CARD OF 'augurlaw02.ParseSources'. -/
def parseSourcesCard : Claim7 := { stood := { row := parseSourcesRow, standIns := [], harness := (true, "2bf3e3ea9f80908d979d644c3c306ac75a20b33c978567832733a150ba3351e5"), looks := true }, kinds := [], alts := [], laidByText := true, laidKinds := [.data, .data, .data, .sentinel, .sentinel, .sentinel, .sentinel, .sentinel, .sentinel, .sentinel, .sentinel, .sentinel, .sentinel, .sentinel, .sentinel, .sentinel, .sentinel, .sentinel, .sentinel, .sentinel, .sentinel], laidTests := true, laidLooks := .later }
def ParseSourcesCardSaid : Prop := Claim7.holds Tryz.pinned (.plain (OpenSpec.ofChange parseSourcesSpec)) parseSourcesCard

/-- THE TIED CARD OF 'augurlaw02.ParseParts'. -/
def parsePartsCard : Claim7 := { stood := { row := parsePartsRow, standIns := [], harness := (true, "2bf3e3ea9f80908d979d644c3c306ac75a20b33c978567832733a150ba3351e5"), looks := true }, kinds := [], alts := [], laidByText := true, laidKinds := [.data, .data, .data, .sentinel, .sentinel, .sentinel, .sentinel, .sentinel, .sentinel, .sentinel, .sentinel, .sentinel, .sentinel, .sentinel, .sentinel, .sentinel, .sentinel, .sentinel, .sentinel, .sentinel, .sentinel], laidTests := true, laidLooks := .later }
def ParsePartsCardSaid : Prop := Claim7.holds Tryz.pinned (.plain (OpenSpec.ofChange parsePartsSpec)) parsePartsCard

/-- THE SECOND FORM's CARD OF 'augurlaw02.ParseSources'. -/
def parseSourcesUptoCard : Claim7 := { stood := { row := parseSourcesUptoRow, standIns := [], harness := (true, "2bf3e3ea9f80908d979d644c3c306ac75a20b33c978567832733a150ba3351e5"), looks := true }, kinds := [], alts := [], laidByText := true, laidKinds := [.data, .data, .data, .sentinel, .sentinel, .sentinel, .sentinel, .sentinel, .sentinel, .sentinel, .sentinel, .sentinel, .sentinel, .sentinel, .sentinel, .sentinel, .sentinel, .sentinel, .sentinel, .sentinel, .sentinel], laidTests := true, laidLooks := .later }
def ParseSourcesUptoCardSaid : Prop := Claim7.holds Tryz.pinned (.plain (OpenSpec.upto parseSourcesSpec)) parseSourcesUptoCard

/-- THE SECOND FORM's CARD OF 'augurlaw02.ParseParts'. -/
def parsePartsUptoCard : Claim7 := { stood := { row := parsePartsUptoRow, standIns := [], harness := (true, "2bf3e3ea9f80908d979d644c3c306ac75a20b33c978567832733a150ba3351e5"), looks := true }, kinds := [], alts := [], laidByText := true, laidKinds := [.data, .data, .data, .sentinel, .sentinel, .sentinel, .sentinel, .sentinel, .sentinel, .sentinel, .sentinel, .sentinel, .sentinel, .sentinel, .sentinel, .sentinel, .sentinel, .sentinel, .sentinel, .sentinel, .sentinel], laidTests := true, laidLooks := .later }
def ParsePartsUptoCardSaid : Prop := Claim7.holds Tryz.pinned (.plain (OpenSpec.upto parsePartsSpec)) parsePartsUptoCard
end Rows
end Go.Proofs.YtckdiafomldepaaGreatDoor
