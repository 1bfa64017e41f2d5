/-
  DERIVED. GIVEN WITH THE SEED: THE PROGRAM's TIES (one call each: nine closed facts by the kernel) AND EACH ROW's TIE, after the 31st guide's Derived/Test/Toyas{Tie, Card}.lean. No idea stands in it: it is a product of the set-up. Laid BY PROGRAM, IN A SANDBOX (cutbox-door.mjs). By AI agents, Wed Nov 11 2026. No macro, syntax, notation, axiom, sorry.
-/
import Derived.Test.YtckdiafomldepaaDoorRows
import Derived.LaidByTextLater
import Derived.SevenTiedAt
import Derived.LaidSub
import Derived.LaidOnce
namespace Go.Proofs.YtckdiafomldepaaDoor
open Go
set_option maxRecDepth 100000
theorem seatTie1 : Tryd.prog.laidByTextLater [("math/bits.deBruijn32tab", Rows.laid_math_bits_deBruijn32tab), ("math/bits.deBruijn64tab", Rows.laid_math_bits_deBruijn64tab), ("internal/strconv.uint64pow10", Rows.laid_internal_strconv_uint64pow10), ("augur/api.ErrText", Rows.laid_augur_api_ErrText), ("augur/api.ErrSyntax", Rows.laid_augur_api_ErrSyntax), ("augur/api.ErrNest", Rows.laid_augur_api_ErrNest), ("augur/api.ErrLarge", Rows.laid_augur_api_ErrLarge), ("augur/api.ErrNames", Rows.laid_augur_api_ErrNames), ("augur/api.ErrTypes", Rows.laid_augur_api_ErrTypes), ("augur/api.ErrModes", Rows.laid_augur_api_ErrModes), ("augur/api.ErrDet", Rows.laid_augur_api_ErrDet), ("augur/api.ErrNone", Rows.laid_augur_api_ErrNone), ("augur/api.ErrData", Rows.laid_augur_api_ErrData), ("augur/api.ErrBytes", Rows.laid_augur_api_ErrBytes), ("augur/api.ErrCode", Rows.laid_augur_api_ErrCode), ("augur/api.ErrFuel", Rows.laid_augur_api_ErrFuel), ("augur/api.ErrHeap", Rows.laid_augur_api_ErrHeap), ("augur/api.ErrFrames", Rows.laid_augur_api_ErrFrames), ("augur/api.ErrState", Rows.laid_augur_api_ErrState), ("strconv.ErrRange", Rows.laid_strconv_ErrRange), ("strconv.ErrSyntax", Rows.laid_strconv_ErrSyntax)] [.data, .data, .data, .sentinel, .sentinel, .sentinel, .sentinel, .sentinel, .sentinel, .sentinel, .sentinel, .sentinel, .sentinel, .sentinel, .sentinel, .sentinel, .sentinel, .sentinel, .sentinel, .sentinel, .sentinel] true :=
  Program.laidByTextLater_by_one 366 8 65 (by kernel_rfl) (by kernel_rfl) (by kernel_rfl) (by kernel_rfl) (by kernel_rfl) (by kernel_rfl) (fun _ _ => by kernel_rfl)
theorem noOwnUnsafe : Tryd.pinned.checked.prog.headLifts.contains "ownunsafe" = false := by kernel_rfl
theorem tie : Tryd.prog.laidByTextLater [("math/bits.deBruijn32tab", Rows.laid_math_bits_deBruijn32tab), ("math/bits.deBruijn64tab", Rows.laid_math_bits_deBruijn64tab), ("internal/strconv.uint64pow10", Rows.laid_internal_strconv_uint64pow10), ("augur/api.ErrText", Rows.laid_augur_api_ErrText), ("augur/api.ErrSyntax", Rows.laid_augur_api_ErrSyntax), ("augur/api.ErrNest", Rows.laid_augur_api_ErrNest), ("augur/api.ErrLarge", Rows.laid_augur_api_ErrLarge), ("augur/api.ErrNames", Rows.laid_augur_api_ErrNames), ("augur/api.ErrTypes", Rows.laid_augur_api_ErrTypes), ("augur/api.ErrModes", Rows.laid_augur_api_ErrModes), ("augur/api.ErrDet", Rows.laid_augur_api_ErrDet), ("augur/api.ErrNone", Rows.laid_augur_api_ErrNone), ("augur/api.ErrData", Rows.laid_augur_api_ErrData), ("augur/api.ErrBytes", Rows.laid_augur_api_ErrBytes), ("augur/api.ErrCode", Rows.laid_augur_api_ErrCode), ("augur/api.ErrFuel", Rows.laid_augur_api_ErrFuel), ("augur/api.ErrHeap", Rows.laid_augur_api_ErrHeap), ("augur/api.ErrFrames", Rows.laid_augur_api_ErrFrames), ("augur/api.ErrState", Rows.laid_augur_api_ErrState), ("strconv.ErrRange", Rows.laid_strconv_ErrRange), ("strconv.ErrSyntax", Rows.laid_strconv_ErrSyntax)] [.data, .data, .data, .sentinel, .sentinel, .sentinel, .sentinel, .sentinel, .sentinel, .sentinel, .sentinel, .sentinel, .sentinel, .sentinel, .sentinel, .sentinel, .sentinel, .sentinel, .sentinel, .sentinel, .sentinel] true :=
  Program.laidByTextLater.sub seatTie1 ["math/bits.deBruijn32tab", "math/bits.deBruijn64tab", "internal/strconv.uint64pow10", "augur/api.ErrText", "augur/api.ErrSyntax", "augur/api.ErrNest", "augur/api.ErrLarge", "augur/api.ErrNames", "augur/api.ErrTypes", "augur/api.ErrModes", "augur/api.ErrDet", "augur/api.ErrNone", "augur/api.ErrData", "augur/api.ErrBytes", "augur/api.ErrCode", "augur/api.ErrFuel", "augur/api.ErrHeap", "augur/api.ErrFrames", "augur/api.ErrState", "strconv.ErrRange", "strconv.ErrSyntax"] (by kernel_rfl) (by kernel_rfl)
theorem parseBlanks_row_tie : Rows.parseBlanksRow.laidByTextAt .later Tryd.pinned [.data, .data, .data, .sentinel, .sentinel, .sentinel, .sentinel, .sentinel, .sentinel, .sentinel, .sentinel, .sentinel, .sentinel, .sentinel, .sentinel, .sentinel, .sentinel, .sentinel, .sentinel, .sentinel, .sentinel] true :=
  OpenClaim.laidByTextAt_later rfl rfl tie noOwnUnsafe
theorem tie2 : Tryd.prog.laidByTextLater [("math/bits.deBruijn32tab", Rows.laid_math_bits_deBruijn32tab), ("math/bits.deBruijn64tab", Rows.laid_math_bits_deBruijn64tab), ("internal/strconv.uint64pow10", Rows.laid_internal_strconv_uint64pow10), ("augur/api.ErrText", Rows.laid_augur_api_ErrText), ("augur/api.ErrSyntax", Rows.laid_augur_api_ErrSyntax), ("augur/api.ErrNest", Rows.laid_augur_api_ErrNest), ("augur/api.ErrLarge", Rows.laid_augur_api_ErrLarge), ("strconv.ErrRange", Rows.laid_strconv_ErrRange), ("strconv.ErrSyntax", Rows.laid_strconv_ErrSyntax)] [.data, .data, .data, .sentinel, .sentinel, .sentinel, .sentinel, .sentinel, .sentinel] true :=
  Program.laidByTextLater.sub seatTie1 ["math/bits.deBruijn32tab", "math/bits.deBruijn64tab", "internal/strconv.uint64pow10", "augur/api.ErrText", "augur/api.ErrSyntax", "augur/api.ErrNest", "augur/api.ErrLarge", "strconv.ErrRange", "strconv.ErrSyntax"] (by kernel_rfl) (by kernel_rfl)
theorem parseRows_row_tie : Rows.parseRowsRow.laidByTextAt .later Tryd.pinned [.data, .data, .data, .sentinel, .sentinel, .sentinel, .sentinel, .sentinel, .sentinel] true :=
  OpenClaim.laidByTextAt_later rfl rfl tie2 noOwnUnsafe
theorem parseBrackets_row_tie : Rows.parseBracketsRow.laidByTextAt .later Tryd.pinned [.data, .data, .data, .sentinel, .sentinel, .sentinel, .sentinel, .sentinel, .sentinel] true :=
  OpenClaim.laidByTextAt_later rfl rfl tie2 noOwnUnsafe
theorem parseRowsOf_row_tie : Rows.parseRowsOfRow.laidByTextAt .later Tryd.pinned [.data, .data, .data, .sentinel, .sentinel, .sentinel, .sentinel, .sentinel, .sentinel] true :=
  OpenClaim.laidByTextAt_later rfl rfl tie2 noOwnUnsafe
theorem parseNamesOf_row_tie : Rows.parseNamesOfRow.laidByTextAt .later Tryd.pinned [.data, .data, .data, .sentinel, .sentinel, .sentinel, .sentinel, .sentinel, .sentinel] true :=
  OpenClaim.laidByTextAt_later rfl rfl tie2 noOwnUnsafe
theorem parseDeep_row_tie : Rows.parseDeepRow.laidByTextAt .later Tryd.pinned [.data, .data, .data, .sentinel, .sentinel, .sentinel, .sentinel, .sentinel, .sentinel] true :=
  OpenClaim.laidByTextAt_later rfl rfl tie2 noOwnUnsafe
theorem parseBlanksUpto_row_tie : Rows.parseBlanksUptoRow.laidByTextAt .later Tryd.pinned [.data, .data, .data, .sentinel, .sentinel, .sentinel, .sentinel, .sentinel, .sentinel, .sentinel, .sentinel, .sentinel, .sentinel, .sentinel, .sentinel, .sentinel, .sentinel, .sentinel, .sentinel, .sentinel, .sentinel] true :=
  OpenClaim.laidByTextAt_later rfl rfl tie noOwnUnsafe
theorem parseRowsUpto_row_tie : Rows.parseRowsUptoRow.laidByTextAt .later Tryd.pinned [.data, .data, .data, .sentinel, .sentinel, .sentinel, .sentinel, .sentinel, .sentinel] true :=
  OpenClaim.laidByTextAt_later rfl rfl tie2 noOwnUnsafe
theorem parseBracketsUpto_row_tie : Rows.parseBracketsUptoRow.laidByTextAt .later Tryd.pinned [.data, .data, .data, .sentinel, .sentinel, .sentinel, .sentinel, .sentinel, .sentinel] true :=
  OpenClaim.laidByTextAt_later rfl rfl tie2 noOwnUnsafe
theorem parseRowsOfUpto_row_tie : Rows.parseRowsOfUptoRow.laidByTextAt .later Tryd.pinned [.data, .data, .data, .sentinel, .sentinel, .sentinel, .sentinel, .sentinel, .sentinel] true :=
  OpenClaim.laidByTextAt_later rfl rfl tie2 noOwnUnsafe
theorem parseNamesOfUpto_row_tie : Rows.parseNamesOfUptoRow.laidByTextAt .later Tryd.pinned [.data, .data, .data, .sentinel, .sentinel, .sentinel, .sentinel, .sentinel, .sentinel] true :=
  OpenClaim.laidByTextAt_later rfl rfl tie2 noOwnUnsafe
theorem parseDeepUpto_row_tie : Rows.parseDeepUptoRow.laidByTextAt .later Tryd.pinned [.data, .data, .data, .sentinel, .sentinel, .sentinel, .sentinel, .sentinel, .sentinel] true :=
  OpenClaim.laidByTextAt_later rfl rfl tie2 noOwnUnsafe
end Go.Proofs.YtckdiafomldepaaDoor
