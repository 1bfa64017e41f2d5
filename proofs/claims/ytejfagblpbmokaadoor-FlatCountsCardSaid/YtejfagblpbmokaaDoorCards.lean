/-
  DERIVED. GIVEN WITH THE SEED: THE CARDS: each row of YtejfagblpbmokaaDoorRows.lean that lists a variable, with what it lists TIED to the program's text (the seventh form; the later family's looks); each row that meets fmt, with fmt's text TOLD by the authors' own Lean function (tested against real Go, not proved from fmt's source: count such statements apart). THE CARD IS WHAT COUNTS. Prove the row's statement (the work); the ties are given (YtejfagblpbmokaaDoorTie.lean); close each card by the builder's one call (the guide's Derived/Test/ToyasCard.lean, 'card_holds'). Laid BY PROGRAM, IN A SANDBOX (cutbox-door.mjs). By AI agents, Wed Nov 11 2026. No macro, syntax, notation, axiom, sorry.
-/
import Derived.Test.YtejfagblpbmokaaDoorRows
import GoSem.ClaimSeven
namespace Go.Proofs.YtejfagblpbmokaaDoor
namespace Rows

/-- THE TIED CARD OF 'augurlaw05.FlatClauses'. -/
def flatClausesCard : Claim7 := { stood := { row := flatClausesRow, standIns := [], harness := (true, "ac0f8a329c01d22c7c7d38cd41fb31a34dafac430ceeb9a7faba49486155b927"), looks := true }, kinds := [], alts := [], laidByText := true, laidKinds := [.sentinel, .sentinel], laidTests := true, laidLooks := .later }
def FlatClausesCardSaid : Prop := Claim7.holds Tryd.pinned (.plain (OpenSpec.ofChange flatClausesSpec)) flatClausesCard

/-- THE TIED CARD OF 'augurlaw04.NamesResolve'. -/
def namesResolveCard : Claim7 := { stood := { row := namesResolveRow, standIns := [], harness := (true, "ac0f8a329c01d22c7c7d38cd41fb31a34dafac430ceeb9a7faba49486155b927"), looks := true }, kinds := [], alts := [], laidByText := true, laidKinds := [.sentinel], laidTests := true, laidLooks := .later }
def NamesResolveCardSaid : Prop := Claim7.holds Tryd.pinned (.plain (OpenSpec.ofChange namesResolveSpec)) namesResolveCard

/-- THE TIED CARD OF 'augurlaw04.NamesBuilt'. -/
def namesBuiltCard : Claim7 := { stood := { row := namesBuiltRow, standIns := [], harness := (true, "ac0f8a329c01d22c7c7d38cd41fb31a34dafac430ceeb9a7faba49486155b927"), looks := true }, kinds := [], alts := [], laidByText := true, laidKinds := [.sentinel], laidTests := true, laidLooks := .later }
def NamesBuiltCardSaid : Prop := Claim7.holds Tryd.pinned (.plain (OpenSpec.ofChange namesBuiltSpec)) namesBuiltCard

/-- THE TIED CARD OF 'augurlaw04.NamesOrder'. -/
def namesOrderCard : Claim7 := { stood := { row := namesOrderRow, standIns := [], harness := (true, "ac0f8a329c01d22c7c7d38cd41fb31a34dafac430ceeb9a7faba49486155b927"), looks := true }, kinds := [], alts := [], laidByText := true, laidKinds := [.sentinel, .sentinel, .sentinel, .sentinel, .sentinel, .sentinel, .sentinel, .sentinel, .sentinel, .sentinel, .sentinel, .sentinel, .sentinel, .sentinel, .sentinel, .sentinel], laidTests := true, laidLooks := .later }
def NamesOrderCardSaid : Prop := Claim7.holds Tryd.pinned (.plain (OpenSpec.ofChange namesOrderSpec)) namesOrderCard

/-- THE TIED CARD OF 'augurlaw04.NamesHeads'. -/
def namesHeadsCard : Claim7 := { stood := { row := namesHeadsRow, standIns := [], harness := (true, "ac0f8a329c01d22c7c7d38cd41fb31a34dafac430ceeb9a7faba49486155b927"), looks := true }, kinds := [], alts := [], laidByText := true, laidKinds := [.sentinel], laidTests := true, laidLooks := .later }
def NamesHeadsCardSaid : Prop := Claim7.holds Tryd.pinned (.plain (OpenSpec.ofChange namesHeadsSpec)) namesHeadsCard

/-- THE TIED CARD OF 'augurlaw05.FlatBodies'. -/
def flatBodiesCard : Claim7 := { stood := { row := flatBodiesRow, standIns := [], harness := (true, "ac0f8a329c01d22c7c7d38cd41fb31a34dafac430ceeb9a7faba49486155b927"), looks := true }, kinds := [], alts := [], laidByText := true, laidKinds := [.sentinel, .sentinel, .sentinel, .sentinel, .sentinel, .sentinel, .sentinel, .sentinel, .sentinel, .sentinel, .sentinel, .sentinel, .sentinel, .sentinel, .sentinel, .sentinel], laidTests := true, laidLooks := .later }
def FlatBodiesCardSaid : Prop := Claim7.holds Tryd.pinned (.plain (OpenSpec.ofChange flatBodiesSpec)) flatBodiesCard

/-- THE TIED CARD OF 'augurlaw04.NamesFinds'. -/
def namesFindsCard : Claim7 := { stood := { row := namesFindsRow, standIns := [], harness := (true, "ac0f8a329c01d22c7c7d38cd41fb31a34dafac430ceeb9a7faba49486155b927"), looks := true }, kinds := [], alts := [], laidByText := true, laidKinds := [.sentinel], laidTests := true, laidLooks := .later }
def NamesFindsCardSaid : Prop := Claim7.holds Tryd.pinned (.plain (OpenSpec.ofChange namesFindsSpec)) namesFindsCard

/-- THE TIED CARD OF 'augurlaw05.FlatCounts'. -/
def flatCountsCard : Claim7 := { stood := { row := flatCountsRow, standIns := [], harness := (true, "ac0f8a329c01d22c7c7d38cd41fb31a34dafac430ceeb9a7faba49486155b927"), looks := true }, kinds := [], alts := [], laidByText := true, laidKinds := [.sentinel, .sentinel], laidTests := true, laidLooks := .later }
def FlatCountsCardSaid : Prop := Claim7.holds Tryd.pinned (.plain (OpenSpec.ofChange flatCountsSpec)) flatCountsCard

/-- THE TIED CARD OF 'augurlaw05.FlatNumbers'. -/
def flatNumbersCard : Claim7 := { stood := { row := flatNumbersRow, standIns := [], harness := (true, "ac0f8a329c01d22c7c7d38cd41fb31a34dafac430ceeb9a7faba49486155b927"), looks := true }, kinds := [], alts := [], laidByText := true, laidKinds := [.sentinel, .sentinel], laidTests := true, laidLooks := .later }
def FlatNumbersCardSaid : Prop := Claim7.holds Tryd.pinned (.plain (OpenSpec.ofChange flatNumbersSpec)) flatNumbersCard

/-- THE TIED CARD OF 'augurlaw05.FlatVars'. -/
def flatVarsCard : Claim7 := { stood := { row := flatVarsRow, standIns := [], harness := (true, "ac0f8a329c01d22c7c7d38cd41fb31a34dafac430ceeb9a7faba49486155b927"), looks := true }, kinds := [], alts := [], laidByText := true, laidKinds := [.sentinel, .sentinel], laidTests := true, laidLooks := .later }
def FlatVarsCardSaid : Prop := Claim7.holds Tryd.pinned (.plain (OpenSpec.ofChange flatVarsSpec)) flatVarsCard

/-- THE SECOND FORM's CARD OF 'augurlaw05.FlatClauses'. -/
def flatClausesUptoCard : Claim7 := { stood := { row := flatClausesUptoRow, standIns := [], harness := (true, "ac0f8a329c01d22c7c7d38cd41fb31a34dafac430ceeb9a7faba49486155b927"), looks := true }, kinds := [], alts := [], laidByText := true, laidKinds := [.sentinel, .sentinel], laidTests := true, laidLooks := .later }
def FlatClausesUptoCardSaid : Prop := Claim7.holds Tryd.pinned (.plain (OpenSpec.upto flatClausesSpec)) flatClausesUptoCard

/-- THE SECOND FORM's CARD OF 'augurlaw04.NamesResolve'. -/
def namesResolveUptoCard : Claim7 := { stood := { row := namesResolveUptoRow, standIns := [], harness := (true, "ac0f8a329c01d22c7c7d38cd41fb31a34dafac430ceeb9a7faba49486155b927"), looks := true }, kinds := [], alts := [], laidByText := true, laidKinds := [.sentinel], laidTests := true, laidLooks := .later }
def NamesResolveUptoCardSaid : Prop := Claim7.holds Tryd.pinned (.plain (OpenSpec.upto namesResolveSpec)) namesResolveUptoCard

/-- THE SECOND FORM's CARD OF 'augurlaw04.NamesBuilt'. -/
def namesBuiltUptoCard : Claim7 := { stood := { row := namesBuiltUptoRow, standIns := [], harness := (true, "ac0f8a329c01d22c7c7d38cd41fb31a34dafac430ceeb9a7faba49486155b927"), looks := true }, kinds := [], alts := [], laidByText := true, laidKinds := [.sentinel], laidTests := true, laidLooks := .later }
def NamesBuiltUptoCardSaid : Prop := Claim7.holds Tryd.pinned (.plain (OpenSpec.upto namesBuiltSpec)) namesBuiltUptoCard

/-- THE SECOND FORM's CARD OF 'augurlaw04.NamesOrder'. -/
def namesOrderUptoCard : Claim7 := { stood := { row := namesOrderUptoRow, standIns := [], harness := (true, "ac0f8a329c01d22c7c7d38cd41fb31a34dafac430ceeb9a7faba49486155b927"), looks := true }, kinds := [], alts := [], laidByText := true, laidKinds := [.sentinel, .sentinel, .sentinel, .sentinel, .sentinel, .sentinel, .sentinel, .sentinel, .sentinel, .sentinel, .sentinel, .sentinel, .sentinel, .sentinel, .sentinel, .sentinel], laidTests := true, laidLooks := .later }
def NamesOrderUptoCardSaid : Prop := Claim7.holds Tryd.pinned (.plain (OpenSpec.upto namesOrderSpec)) namesOrderUptoCard

/-- THE SECOND FORM's CARD OF 'augurlaw04.NamesHeads'. -/
def namesHeadsUptoCard : Claim7 := { stood := { row := namesHeadsUptoRow, standIns := [], harness := (true, "ac0f8a329c01d22c7c7d38cd41fb31a34dafac430ceeb9a7faba49486155b927"), looks := true }, kinds := [], alts := [], laidByText := true, laidKinds := [.sentinel], laidTests := true, laidLooks := .later }
def NamesHeadsUptoCardSaid : Prop := Claim7.holds Tryd.pinned (.plain (OpenSpec.upto namesHeadsSpec)) namesHeadsUptoCard

/-- THE SECOND FORM's CARD OF 'augurlaw05.FlatBodies'. -/
def flatBodiesUptoCard : Claim7 := { stood := { row := flatBodiesUptoRow, standIns := [], harness := (true, "ac0f8a329c01d22c7c7d38cd41fb31a34dafac430ceeb9a7faba49486155b927"), looks := true }, kinds := [], alts := [], laidByText := true, laidKinds := [.sentinel, .sentinel, .sentinel, .sentinel, .sentinel, .sentinel, .sentinel, .sentinel, .sentinel, .sentinel, .sentinel, .sentinel, .sentinel, .sentinel, .sentinel, .sentinel], laidTests := true, laidLooks := .later }
def FlatBodiesUptoCardSaid : Prop := Claim7.holds Tryd.pinned (.plain (OpenSpec.upto flatBodiesSpec)) flatBodiesUptoCard

/-- THE SECOND FORM's CARD OF 'augurlaw04.NamesFinds'. -/
def namesFindsUptoCard : Claim7 := { stood := { row := namesFindsUptoRow, standIns := [], harness := (true, "ac0f8a329c01d22c7c7d38cd41fb31a34dafac430ceeb9a7faba49486155b927"), looks := true }, kinds := [], alts := [], laidByText := true, laidKinds := [.sentinel], laidTests := true, laidLooks := .later }
def NamesFindsUptoCardSaid : Prop := Claim7.holds Tryd.pinned (.plain (OpenSpec.upto namesFindsSpec)) namesFindsUptoCard

/-- THE SECOND FORM's CARD OF 'augurlaw05.FlatCounts'. -/
def flatCountsUptoCard : Claim7 := { stood := { row := flatCountsUptoRow, standIns := [], harness := (true, "ac0f8a329c01d22c7c7d38cd41fb31a34dafac430ceeb9a7faba49486155b927"), looks := true }, kinds := [], alts := [], laidByText := true, laidKinds := [.sentinel, .sentinel], laidTests := true, laidLooks := .later }
def FlatCountsUptoCardSaid : Prop := Claim7.holds Tryd.pinned (.plain (OpenSpec.upto flatCountsSpec)) flatCountsUptoCard

/-- THE SECOND FORM's CARD OF 'augurlaw05.FlatNumbers'. -/
def flatNumbersUptoCard : Claim7 := { stood := { row := flatNumbersUptoRow, standIns := [], harness := (true, "ac0f8a329c01d22c7c7d38cd41fb31a34dafac430ceeb9a7faba49486155b927"), looks := true }, kinds := [], alts := [], laidByText := true, laidKinds := [.sentinel, .sentinel], laidTests := true, laidLooks := .later }
def FlatNumbersUptoCardSaid : Prop := Claim7.holds Tryd.pinned (.plain (OpenSpec.upto flatNumbersSpec)) flatNumbersUptoCard

/-- THE SECOND FORM's CARD OF 'augurlaw05.FlatVars'. -/
def flatVarsUptoCard : Claim7 := { stood := { row := flatVarsUptoRow, standIns := [], harness := (true, "ac0f8a329c01d22c7c7d38cd41fb31a34dafac430ceeb9a7faba49486155b927"), looks := true }, kinds := [], alts := [], laidByText := true, laidKinds := [.sentinel, .sentinel], laidTests := true, laidLooks := .later }
def FlatVarsUptoCardSaid : Prop := Claim7.holds Tryd.pinned (.plain (OpenSpec.upto flatVarsSpec)) flatVarsUptoCard
end Rows
end Go.Proofs.YtejfagblpbmokaaDoor
