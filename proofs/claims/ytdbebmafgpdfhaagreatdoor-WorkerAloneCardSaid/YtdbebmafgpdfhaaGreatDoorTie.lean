/-
  DERIVED. GIVEN WITH THE SEED: THE PROGRAM's TIES (one call each: nine closed facts by the kernel) AND EACH ROW's TIE, after the 31st guide's Derived/Test/Toyas{Tie, Card}.lean. No idea stands in it: it is a product of the set-up. Laid BY PROGRAM, IN A SANDBOX (cutbox-door.mjs). By AI agents, Wed Nov 11 2026. No macro, syntax, notation, axiom, sorry.
-/
import Derived.Test.YtdbebmafgpdfhaaGreatDoorRows
import Derived.LaidByTextLater
import Derived.SevenTiedAt
import Derived.LaidSub
import Derived.LaidOnce
namespace Go.Proofs.YtdbebmafgpdfhaaGreatDoor
open Go
set_option maxRecDepth 100000
theorem seatTie1 : Tryz.prog.laidByTextLater [("smalto/border.names", Rows.laid_smalto_border_names), ("smalto/raw.kinds", Rows.laid_smalto_raw_kinds)] [.widerDeep, .data] true :=
  Program.laidByTextLater_by_one 22 8 7 (by kernel_rfl) (by kernel_rfl) (by kernel_rfl) (by kernel_rfl) (by kernel_rfl) (by kernel_rfl) (fun _ _ => by kernel_rfl)
theorem noOwnUnsafe : Tryz.pinned.checked.prog.headLifts.contains "ownunsafe" = false := by kernel_rfl
theorem tie : Tryz.prog.laidByTextLater [("smalto/border.names", Rows.laid_smalto_border_names), ("smalto/raw.kinds", Rows.laid_smalto_raw_kinds)] [.widerDeep, .data] true :=
  Program.laidByTextLater.sub seatTie1 ["smalto/border.names", "smalto/raw.kinds"] (by kernel_rfl) (by kernel_rfl)
theorem workerNone_row_tie : Rows.workerNoneRow.laidByTextAt .later Tryz.pinned [.widerDeep, .data] true :=
  OpenClaim.laidByTextAt_later rfl rfl tie noOwnUnsafe
theorem workerPlays_row_tie : Rows.workerPlaysRow.laidByTextAt .later Tryz.pinned [.widerDeep, .data] true :=
  OpenClaim.laidByTextAt_later rfl rfl tie noOwnUnsafe
theorem workerScratch_row_tie : Rows.workerScratchRow.laidByTextAt .later Tryz.pinned [.widerDeep, .data] true :=
  OpenClaim.laidByTextAt_later rfl rfl tie noOwnUnsafe
theorem workerAlone_row_tie : Rows.workerAloneRow.laidByTextAt .later Tryz.pinned [.widerDeep, .data] true :=
  OpenClaim.laidByTextAt_later rfl rfl tie noOwnUnsafe
theorem workerNoneUpto_row_tie : Rows.workerNoneUptoRow.laidByTextAt .later Tryz.pinned [.widerDeep, .data] true :=
  OpenClaim.laidByTextAt_later rfl rfl tie noOwnUnsafe
theorem workerPlaysUpto_row_tie : Rows.workerPlaysUptoRow.laidByTextAt .later Tryz.pinned [.widerDeep, .data] true :=
  OpenClaim.laidByTextAt_later rfl rfl tie noOwnUnsafe
theorem workerScratchUpto_row_tie : Rows.workerScratchUptoRow.laidByTextAt .later Tryz.pinned [.widerDeep, .data] true :=
  OpenClaim.laidByTextAt_later rfl rfl tie noOwnUnsafe
theorem workerAloneUpto_row_tie : Rows.workerAloneUptoRow.laidByTextAt .later Tryz.pinned [.widerDeep, .data] true :=
  OpenClaim.laidByTextAt_later rfl rfl tie noOwnUnsafe
end Go.Proofs.YtdbebmafgpdfhaaGreatDoor
