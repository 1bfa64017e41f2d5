/-
  DERIVED. GIVEN WITH THE SEED: THE PROGRAM's TIES (one call each: nine closed facts by the kernel) AND EACH ROW's TIE, after the 31st guide's Derived/Test/Toyas{Tie, Card}.lean. No idea stands in it: it is a product of the set-up. Laid BY PROGRAM, IN A SANDBOX (cutbox-door.mjs). By AI agents, Wed Nov 11 2026. No macro, syntax, notation, axiom, sorry.
-/
import Derived.Test.YtejfagblpbmokaaDoorRows
import Derived.LaidByTextLater
import Derived.SevenTiedAt
import Derived.LaidSub
import Derived.LaidOnce
namespace Go.Proofs.YtejfagblpbmokaaDoor
open Go
set_option maxRecDepth 100000
theorem seatTie1 : Tryd.prog.laidByTextLater [("augur/api.ErrText", Rows.laid_augur_api_ErrText), ("augur/api.ErrSyntax", Rows.laid_augur_api_ErrSyntax), ("augur/api.ErrNest", Rows.laid_augur_api_ErrNest), ("augur/api.ErrLarge", Rows.laid_augur_api_ErrLarge), ("augur/api.ErrNames", Rows.laid_augur_api_ErrNames), ("augur/api.ErrTypes", Rows.laid_augur_api_ErrTypes), ("augur/api.ErrModes", Rows.laid_augur_api_ErrModes), ("augur/api.ErrDet", Rows.laid_augur_api_ErrDet), ("augur/api.ErrNone", Rows.laid_augur_api_ErrNone), ("augur/api.ErrData", Rows.laid_augur_api_ErrData), ("augur/api.ErrBytes", Rows.laid_augur_api_ErrBytes), ("augur/api.ErrCode", Rows.laid_augur_api_ErrCode), ("augur/api.ErrFuel", Rows.laid_augur_api_ErrFuel), ("augur/api.ErrHeap", Rows.laid_augur_api_ErrHeap), ("augur/api.ErrFrames", Rows.laid_augur_api_ErrFrames), ("augur/api.ErrState", Rows.laid_augur_api_ErrState)] [.sentinel, .sentinel, .sentinel, .sentinel, .sentinel, .sentinel, .sentinel, .sentinel, .sentinel, .sentinel, .sentinel, .sentinel, .sentinel, .sentinel, .sentinel, .sentinel] true :=
  Program.laidByTextLater_by_one 313 8 2 (by kernel_rfl) (by kernel_rfl) (by kernel_rfl) (by kernel_rfl) (by kernel_rfl) (by kernel_rfl) (fun _ _ => by kernel_rfl)
theorem noOwnUnsafe : Tryd.pinned.checked.prog.headLifts.contains "ownunsafe" = false := by kernel_rfl
theorem tie : Tryd.prog.laidByTextLater [("augur/api.ErrLarge", Rows.laid_augur_api_ErrLarge), ("augur/api.ErrNone", Rows.laid_augur_api_ErrNone)] [.sentinel, .sentinel] true :=
  Program.laidByTextLater.sub seatTie1 ["augur/api.ErrLarge", "augur/api.ErrNone"] (by kernel_rfl) (by kernel_rfl)
theorem flatClauses_row_tie : Rows.flatClausesRow.laidByTextAt .later Tryd.pinned [.sentinel, .sentinel] true :=
  OpenClaim.laidByTextAt_later rfl rfl tie noOwnUnsafe
theorem flatCounts_row_tie : Rows.flatCountsRow.laidByTextAt .later Tryd.pinned [.sentinel, .sentinel] true :=
  OpenClaim.laidByTextAt_later rfl rfl tie noOwnUnsafe
theorem flatNumbers_row_tie : Rows.flatNumbersRow.laidByTextAt .later Tryd.pinned [.sentinel, .sentinel] true :=
  OpenClaim.laidByTextAt_later rfl rfl tie noOwnUnsafe
theorem flatVars_row_tie : Rows.flatVarsRow.laidByTextAt .later Tryd.pinned [.sentinel, .sentinel] true :=
  OpenClaim.laidByTextAt_later rfl rfl tie noOwnUnsafe
theorem tie2 : Tryd.prog.laidByTextLater [("augur/api.ErrNames", Rows.laid_augur_api_ErrNames)] [.sentinel] true :=
  Program.laidByTextLater.sub seatTie1 ["augur/api.ErrNames"] (by kernel_rfl) (by kernel_rfl)
theorem namesResolve_row_tie : Rows.namesResolveRow.laidByTextAt .later Tryd.pinned [.sentinel] true :=
  OpenClaim.laidByTextAt_later rfl rfl tie2 noOwnUnsafe
theorem namesBuilt_row_tie : Rows.namesBuiltRow.laidByTextAt .later Tryd.pinned [.sentinel] true :=
  OpenClaim.laidByTextAt_later rfl rfl tie2 noOwnUnsafe
theorem namesHeads_row_tie : Rows.namesHeadsRow.laidByTextAt .later Tryd.pinned [.sentinel] true :=
  OpenClaim.laidByTextAt_later rfl rfl tie2 noOwnUnsafe
theorem namesFinds_row_tie : Rows.namesFindsRow.laidByTextAt .later Tryd.pinned [.sentinel] true :=
  OpenClaim.laidByTextAt_later rfl rfl tie2 noOwnUnsafe
theorem tie3 : Tryd.prog.laidByTextLater [("augur/api.ErrText", Rows.laid_augur_api_ErrText), ("augur/api.ErrSyntax", Rows.laid_augur_api_ErrSyntax), ("augur/api.ErrNest", Rows.laid_augur_api_ErrNest), ("augur/api.ErrLarge", Rows.laid_augur_api_ErrLarge), ("augur/api.ErrNames", Rows.laid_augur_api_ErrNames), ("augur/api.ErrTypes", Rows.laid_augur_api_ErrTypes), ("augur/api.ErrModes", Rows.laid_augur_api_ErrModes), ("augur/api.ErrDet", Rows.laid_augur_api_ErrDet), ("augur/api.ErrNone", Rows.laid_augur_api_ErrNone), ("augur/api.ErrData", Rows.laid_augur_api_ErrData), ("augur/api.ErrBytes", Rows.laid_augur_api_ErrBytes), ("augur/api.ErrCode", Rows.laid_augur_api_ErrCode), ("augur/api.ErrFuel", Rows.laid_augur_api_ErrFuel), ("augur/api.ErrHeap", Rows.laid_augur_api_ErrHeap), ("augur/api.ErrFrames", Rows.laid_augur_api_ErrFrames), ("augur/api.ErrState", Rows.laid_augur_api_ErrState)] [.sentinel, .sentinel, .sentinel, .sentinel, .sentinel, .sentinel, .sentinel, .sentinel, .sentinel, .sentinel, .sentinel, .sentinel, .sentinel, .sentinel, .sentinel, .sentinel] true :=
  Program.laidByTextLater.sub seatTie1 ["augur/api.ErrText", "augur/api.ErrSyntax", "augur/api.ErrNest", "augur/api.ErrLarge", "augur/api.ErrNames", "augur/api.ErrTypes", "augur/api.ErrModes", "augur/api.ErrDet", "augur/api.ErrNone", "augur/api.ErrData", "augur/api.ErrBytes", "augur/api.ErrCode", "augur/api.ErrFuel", "augur/api.ErrHeap", "augur/api.ErrFrames", "augur/api.ErrState"] (by kernel_rfl) (by kernel_rfl)
theorem namesOrder_row_tie : Rows.namesOrderRow.laidByTextAt .later Tryd.pinned [.sentinel, .sentinel, .sentinel, .sentinel, .sentinel, .sentinel, .sentinel, .sentinel, .sentinel, .sentinel, .sentinel, .sentinel, .sentinel, .sentinel, .sentinel, .sentinel] true :=
  OpenClaim.laidByTextAt_later rfl rfl tie3 noOwnUnsafe
theorem flatBodies_row_tie : Rows.flatBodiesRow.laidByTextAt .later Tryd.pinned [.sentinel, .sentinel, .sentinel, .sentinel, .sentinel, .sentinel, .sentinel, .sentinel, .sentinel, .sentinel, .sentinel, .sentinel, .sentinel, .sentinel, .sentinel, .sentinel] true :=
  OpenClaim.laidByTextAt_later rfl rfl tie3 noOwnUnsafe
theorem flatClausesUpto_row_tie : Rows.flatClausesUptoRow.laidByTextAt .later Tryd.pinned [.sentinel, .sentinel] true :=
  OpenClaim.laidByTextAt_later rfl rfl tie noOwnUnsafe
theorem namesResolveUpto_row_tie : Rows.namesResolveUptoRow.laidByTextAt .later Tryd.pinned [.sentinel] true :=
  OpenClaim.laidByTextAt_later rfl rfl tie2 noOwnUnsafe
theorem namesBuiltUpto_row_tie : Rows.namesBuiltUptoRow.laidByTextAt .later Tryd.pinned [.sentinel] true :=
  OpenClaim.laidByTextAt_later rfl rfl tie2 noOwnUnsafe
theorem namesOrderUpto_row_tie : Rows.namesOrderUptoRow.laidByTextAt .later Tryd.pinned [.sentinel, .sentinel, .sentinel, .sentinel, .sentinel, .sentinel, .sentinel, .sentinel, .sentinel, .sentinel, .sentinel, .sentinel, .sentinel, .sentinel, .sentinel, .sentinel] true :=
  OpenClaim.laidByTextAt_later rfl rfl tie3 noOwnUnsafe
theorem namesHeadsUpto_row_tie : Rows.namesHeadsUptoRow.laidByTextAt .later Tryd.pinned [.sentinel] true :=
  OpenClaim.laidByTextAt_later rfl rfl tie2 noOwnUnsafe
theorem flatBodiesUpto_row_tie : Rows.flatBodiesUptoRow.laidByTextAt .later Tryd.pinned [.sentinel, .sentinel, .sentinel, .sentinel, .sentinel, .sentinel, .sentinel, .sentinel, .sentinel, .sentinel, .sentinel, .sentinel, .sentinel, .sentinel, .sentinel, .sentinel] true :=
  OpenClaim.laidByTextAt_later rfl rfl tie3 noOwnUnsafe
theorem namesFindsUpto_row_tie : Rows.namesFindsUptoRow.laidByTextAt .later Tryd.pinned [.sentinel] true :=
  OpenClaim.laidByTextAt_later rfl rfl tie2 noOwnUnsafe
theorem flatCountsUpto_row_tie : Rows.flatCountsUptoRow.laidByTextAt .later Tryd.pinned [.sentinel, .sentinel] true :=
  OpenClaim.laidByTextAt_later rfl rfl tie noOwnUnsafe
theorem flatNumbersUpto_row_tie : Rows.flatNumbersUptoRow.laidByTextAt .later Tryd.pinned [.sentinel, .sentinel] true :=
  OpenClaim.laidByTextAt_later rfl rfl tie noOwnUnsafe
theorem flatVarsUpto_row_tie : Rows.flatVarsUptoRow.laidByTextAt .later Tryd.pinned [.sentinel, .sentinel] true :=
  OpenClaim.laidByTextAt_later rfl rfl tie noOwnUnsafe
end Go.Proofs.YtejfagblpbmokaaDoor
