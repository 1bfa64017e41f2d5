/-
  DERIVED. GIVEN WITH THE SEED: THE CARDS: each row of YtilmlmncoghpfaaDoorRows.lean that lists a variable, with what it lists TIED to the program's text (the seventh form; the later family's looks); each row that meets fmt, with fmt's text TOLD by the authors' own Lean function (tested against real Go, not proved from fmt's source: count such statements apart). THE CARD IS WHAT COUNTS. Prove the row's statement (the work); the ties are given (YtilmlmncoghpfaaDoorTie.lean); close each card by the builder's one call (the guide's Derived/Test/ToyasCard.lean, 'card_holds'). Laid BY PROGRAM, IN A SANDBOX (cutbox-door.mjs). By AI agents, Wed Nov 11 2026. No macro, syntax, notation, axiom, sorry.
-/
import Derived.Test.YtilmlmncoghpfaaDoorRows
import GoSem.ClaimSeven
namespace Go.Proofs.YtilmlmncoghpfaaDoor
namespace Rows

/-- THE TIED CARD OF 'augurlaw16.LiveWays'. -/
def liveWaysCard : Claim7 := { stood := { row := liveWaysRow, standIns := [], harness := (true, "3d00f8af9d17db920a7537b5b09d82b900b8f3594a46bf0de6aba08e492247a1"), looks := true }, kinds := [], alts := [], laidByText := true, laidKinds := [.sentinel], laidTests := true, laidLooks := .later }
def LiveWaysCardSaid : Prop := Claim7.holds Tryd.pinned (.plain (OpenSpec.ofChange liveWaysSpec)) liveWaysCard

/-- THE TIED CARD OF 'augurlaw16.LiveHolds'. -/
def liveHoldsCard : Claim7 := { stood := { row := liveHoldsRow, standIns := [], harness := (true, "3d00f8af9d17db920a7537b5b09d82b900b8f3594a46bf0de6aba08e492247a1"), looks := true }, kinds := [], alts := [], laidByText := true, laidKinds := [.sentinel], laidTests := true, laidLooks := .later }
def LiveHoldsCardSaid : Prop := Claim7.holds Tryd.pinned (.plain (OpenSpec.ofChange liveHoldsSpec)) liveHoldsCard

/-- THE TIED CARD OF 'augurlaw16.LiveMore'. -/
def liveMoreCard : Claim7 := { stood := { row := liveMoreRow, standIns := [], harness := (true, "3d00f8af9d17db920a7537b5b09d82b900b8f3594a46bf0de6aba08e492247a1"), looks := true }, kinds := [], alts := [], laidByText := true, laidKinds := [.sentinel], laidTests := true, laidLooks := .later }
def LiveMoreCardSaid : Prop := Claim7.holds Tryd.pinned (.plain (OpenSpec.ofChange liveMoreSpec)) liveMoreCard

/-- THE SECOND FORM's CARD OF 'augurlaw16.LiveWays'. -/
def liveWaysUptoCard : Claim7 := { stood := { row := liveWaysUptoRow, standIns := [], harness := (true, "3d00f8af9d17db920a7537b5b09d82b900b8f3594a46bf0de6aba08e492247a1"), looks := true }, kinds := [], alts := [], laidByText := true, laidKinds := [.sentinel], laidTests := true, laidLooks := .later }
def LiveWaysUptoCardSaid : Prop := Claim7.holds Tryd.pinned (.plain (OpenSpec.upto liveWaysSpec)) liveWaysUptoCard

/-- THE SECOND FORM's CARD OF 'augurlaw16.LiveHolds'. -/
def liveHoldsUptoCard : Claim7 := { stood := { row := liveHoldsUptoRow, standIns := [], harness := (true, "3d00f8af9d17db920a7537b5b09d82b900b8f3594a46bf0de6aba08e492247a1"), looks := true }, kinds := [], alts := [], laidByText := true, laidKinds := [.sentinel], laidTests := true, laidLooks := .later }
def LiveHoldsUptoCardSaid : Prop := Claim7.holds Tryd.pinned (.plain (OpenSpec.upto liveHoldsSpec)) liveHoldsUptoCard

/-- THE SECOND FORM's CARD OF 'augurlaw16.LiveMore'. -/
def liveMoreUptoCard : Claim7 := { stood := { row := liveMoreUptoRow, standIns := [], harness := (true, "3d00f8af9d17db920a7537b5b09d82b900b8f3594a46bf0de6aba08e492247a1"), looks := true }, kinds := [], alts := [], laidByText := true, laidKinds := [.sentinel], laidTests := true, laidLooks := .later }
def LiveMoreUptoCardSaid : Prop := Claim7.holds Tryd.pinned (.plain (OpenSpec.upto liveMoreSpec)) liveMoreUptoCard
end Rows
end Go.Proofs.YtilmlmncoghpfaaDoor
