/-
  DERIVED. GIVEN WITH THE SEED: THE PROGRAM's TIES (one call each: nine closed facts by the kernel) AND EACH ROW's TIE, after the 31st guide's Derived/Test/Toyas{Tie, Card}.lean. No idea stands in it: it is a product of the set-up. Laid BY PROGRAM, IN A SANDBOX (cutbox-door.mjs). By AI agents, Wed Nov 11 2026. No macro, syntax, notation, axiom, sorry.
-/
import Derived.Test.YtmbcbocnncfpbaaDoorRows
import Derived.LaidByTextLater
import Derived.SevenTiedAt
import Derived.LaidSub
import Derived.LaidOnce
namespace Go.Proofs.YtmbcbocnncfpbaaDoor
open Go
set_option maxRecDepth 100000
theorem seatTie1 : Tryd.prog.laidByTextLater [("lodge/api.ErrShape", Rows.laid_lodge_api_ErrShape), ("lodge/api.ErrRange", Rows.laid_lodge_api_ErrRange), ("lodge/api.ErrKind", Rows.laid_lodge_api_ErrKind), ("lodge/api.ErrMany", Rows.laid_lodge_api_ErrMany), ("lodge/api.ErrEnd", Rows.laid_lodge_api_ErrEnd), ("lodge/api.ErrRoom", Rows.laid_lodge_api_ErrRoom), ("lodge/api.ErrNone", Rows.laid_lodge_api_ErrNone), ("lodge/api.ErrAlias", Rows.laid_lodge_api_ErrAlias), ("lodge/api.ErrCost", Rows.laid_lodge_api_ErrCost), ("lodge/api.ErrJump", Rows.laid_lodge_api_ErrJump), ("lodge/api.ErrCycle", Rows.laid_lodge_api_ErrCycle), ("lodge/api.ErrFuel", Rows.laid_lodge_api_ErrFuel), ("lodge/api.ErrFull", Rows.laid_lodge_api_ErrFull), ("lodge/api.ErrQuota", Rows.laid_lodge_api_ErrQuota), ("lodge/api.ErrCap", Rows.laid_lodge_api_ErrCap), ("lodge/api.ErrStale", Rows.laid_lodge_api_ErrStale), ("lodge/api.ErrTag", Rows.laid_lodge_api_ErrTag), ("lodge/api.ErrOld", Rows.laid_lodge_api_ErrOld), ("lodge/api.ErrTenant", Rows.laid_lodge_api_ErrTenant), ("lodge/api.ErrWord", Rows.laid_lodge_api_ErrWord), ("lodge/api.ErrNumber", Rows.laid_lodge_api_ErrNumber)] [.sentinel, .sentinel, .sentinel, .sentinel, .sentinel, .sentinel, .sentinel, .sentinel, .sentinel, .sentinel, .sentinel, .sentinel, .sentinel, .sentinel, .sentinel, .sentinel, .sentinel, .sentinel, .sentinel, .sentinel, .sentinel] true :=
  Program.laidByTextLater_by_one 408 8 2 (by kernel_rfl) (by kernel_rfl) (by kernel_rfl) (by kernel_rfl) (by kernel_rfl) (by kernel_rfl) (fun _ _ => by kernel_rfl)
theorem noOwnUnsafe : Tryd.pinned.checked.prog.headLifts.contains "ownunsafe" = false := by kernel_rfl
theorem tie : Tryd.prog.laidByTextLater [("lodge/api.ErrShape", Rows.laid_lodge_api_ErrShape), ("lodge/api.ErrRange", Rows.laid_lodge_api_ErrRange), ("lodge/api.ErrKind", Rows.laid_lodge_api_ErrKind), ("lodge/api.ErrMany", Rows.laid_lodge_api_ErrMany), ("lodge/api.ErrEnd", Rows.laid_lodge_api_ErrEnd), ("lodge/api.ErrRoom", Rows.laid_lodge_api_ErrRoom), ("lodge/api.ErrNone", Rows.laid_lodge_api_ErrNone), ("lodge/api.ErrAlias", Rows.laid_lodge_api_ErrAlias), ("lodge/api.ErrCost", Rows.laid_lodge_api_ErrCost), ("lodge/api.ErrJump", Rows.laid_lodge_api_ErrJump), ("lodge/api.ErrCycle", Rows.laid_lodge_api_ErrCycle), ("lodge/api.ErrFuel", Rows.laid_lodge_api_ErrFuel), ("lodge/api.ErrFull", Rows.laid_lodge_api_ErrFull), ("lodge/api.ErrQuota", Rows.laid_lodge_api_ErrQuota), ("lodge/api.ErrCap", Rows.laid_lodge_api_ErrCap), ("lodge/api.ErrStale", Rows.laid_lodge_api_ErrStale), ("lodge/api.ErrTag", Rows.laid_lodge_api_ErrTag), ("lodge/api.ErrOld", Rows.laid_lodge_api_ErrOld), ("lodge/api.ErrTenant", Rows.laid_lodge_api_ErrTenant), ("lodge/api.ErrWord", Rows.laid_lodge_api_ErrWord), ("lodge/api.ErrNumber", Rows.laid_lodge_api_ErrNumber)] [.sentinel, .sentinel, .sentinel, .sentinel, .sentinel, .sentinel, .sentinel, .sentinel, .sentinel, .sentinel, .sentinel, .sentinel, .sentinel, .sentinel, .sentinel, .sentinel, .sentinel, .sentinel, .sentinel, .sentinel, .sentinel] true :=
  Program.laidByTextLater.sub seatTie1 ["lodge/api.ErrShape", "lodge/api.ErrRange", "lodge/api.ErrKind", "lodge/api.ErrMany", "lodge/api.ErrEnd", "lodge/api.ErrRoom", "lodge/api.ErrNone", "lodge/api.ErrAlias", "lodge/api.ErrCost", "lodge/api.ErrJump", "lodge/api.ErrCycle", "lodge/api.ErrFuel", "lodge/api.ErrFull", "lodge/api.ErrQuota", "lodge/api.ErrCap", "lodge/api.ErrStale", "lodge/api.ErrTag", "lodge/api.ErrOld", "lodge/api.ErrTenant", "lodge/api.ErrWord", "lodge/api.ErrNumber"] (by kernel_rfl) (by kernel_rfl)
theorem elemResults_row_tie : Rows.elemResultsRow.laidByTextAt .later Tryd.pinned [.sentinel, .sentinel, .sentinel, .sentinel, .sentinel, .sentinel, .sentinel, .sentinel, .sentinel, .sentinel, .sentinel, .sentinel, .sentinel, .sentinel, .sentinel, .sentinel, .sentinel, .sentinel, .sentinel, .sentinel, .sentinel] true :=
  OpenClaim.laidByTextAt_later rfl rfl tie noOwnUnsafe
theorem elemSays_row_tie : Rows.elemSaysRow.laidByTextAt .later Tryd.pinned [.sentinel, .sentinel, .sentinel, .sentinel, .sentinel, .sentinel, .sentinel, .sentinel, .sentinel, .sentinel, .sentinel, .sentinel, .sentinel, .sentinel, .sentinel, .sentinel, .sentinel, .sentinel, .sentinel, .sentinel, .sentinel] true :=
  OpenClaim.laidByTextAt_later rfl rfl tie noOwnUnsafe
theorem tie2 : Tryd.prog.laidByTextLater [("lodge/api.ErrShape", Rows.laid_lodge_api_ErrShape), ("lodge/api.ErrRange", Rows.laid_lodge_api_ErrRange), ("lodge/api.ErrKind", Rows.laid_lodge_api_ErrKind), ("lodge/api.ErrMany", Rows.laid_lodge_api_ErrMany)] [.sentinel, .sentinel, .sentinel, .sentinel] true :=
  Program.laidByTextLater.sub seatTie1 ["lodge/api.ErrShape", "lodge/api.ErrRange", "lodge/api.ErrKind", "lodge/api.ErrMany"] (by kernel_rfl) (by kernel_rfl)
theorem elemEdges_row_tie : Rows.elemEdgesRow.laidByTextAt .later Tryd.pinned [.sentinel, .sentinel, .sentinel, .sentinel] true :=
  OpenClaim.laidByTextAt_later rfl rfl tie2 noOwnUnsafe
theorem elemValues_row_tie : Rows.elemValuesRow.laidByTextAt .later Tryd.pinned [.sentinel, .sentinel, .sentinel, .sentinel] true :=
  OpenClaim.laidByTextAt_later rfl rfl tie2 noOwnUnsafe
theorem elemScales_row_tie : Rows.elemScalesRow.laidByTextAt .later Tryd.pinned [.sentinel, .sentinel, .sentinel, .sentinel] true :=
  OpenClaim.laidByTextAt_later rfl rfl tie2 noOwnUnsafe
theorem elemLaws_row_tie : Rows.elemLawsRow.laidByTextAt .later Tryd.pinned [.sentinel, .sentinel, .sentinel, .sentinel] true :=
  OpenClaim.laidByTextAt_later rfl rfl tie2 noOwnUnsafe
theorem elemResultsUpto_row_tie : Rows.elemResultsUptoRow.laidByTextAt .later Tryd.pinned [.sentinel, .sentinel, .sentinel, .sentinel, .sentinel, .sentinel, .sentinel, .sentinel, .sentinel, .sentinel, .sentinel, .sentinel, .sentinel, .sentinel, .sentinel, .sentinel, .sentinel, .sentinel, .sentinel, .sentinel, .sentinel] true :=
  OpenClaim.laidByTextAt_later rfl rfl tie noOwnUnsafe
theorem elemEdgesUpto_row_tie : Rows.elemEdgesUptoRow.laidByTextAt .later Tryd.pinned [.sentinel, .sentinel, .sentinel, .sentinel] true :=
  OpenClaim.laidByTextAt_later rfl rfl tie2 noOwnUnsafe
theorem elemSaysUpto_row_tie : Rows.elemSaysUptoRow.laidByTextAt .later Tryd.pinned [.sentinel, .sentinel, .sentinel, .sentinel, .sentinel, .sentinel, .sentinel, .sentinel, .sentinel, .sentinel, .sentinel, .sentinel, .sentinel, .sentinel, .sentinel, .sentinel, .sentinel, .sentinel, .sentinel, .sentinel, .sentinel] true :=
  OpenClaim.laidByTextAt_later rfl rfl tie noOwnUnsafe
theorem elemValuesUpto_row_tie : Rows.elemValuesUptoRow.laidByTextAt .later Tryd.pinned [.sentinel, .sentinel, .sentinel, .sentinel] true :=
  OpenClaim.laidByTextAt_later rfl rfl tie2 noOwnUnsafe
theorem elemScalesUpto_row_tie : Rows.elemScalesUptoRow.laidByTextAt .later Tryd.pinned [.sentinel, .sentinel, .sentinel, .sentinel] true :=
  OpenClaim.laidByTextAt_later rfl rfl tie2 noOwnUnsafe
theorem elemLawsUpto_row_tie : Rows.elemLawsUptoRow.laidByTextAt .later Tryd.pinned [.sentinel, .sentinel, .sentinel, .sentinel] true :=
  OpenClaim.laidByTextAt_later rfl rfl tie2 noOwnUnsafe
end Go.Proofs.YtmbcbocnncfpbaaDoor
