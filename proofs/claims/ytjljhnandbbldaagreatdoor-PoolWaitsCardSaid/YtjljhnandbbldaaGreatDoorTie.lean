/-
  DERIVED. GIVEN WITH THE SEED: THE PROGRAM's TIES (one call each: nine closed facts by the kernel) AND EACH ROW's TIE, after the 31st guide's Derived/Test/Toyas{Tie, Card}.lean. No idea stands in it: it is a product of the set-up. Laid BY PROGRAM, IN A SANDBOX (cutbox-door.mjs). By AI agents, Wed Nov 11 2026. No macro, syntax, notation, axiom, sorry.
-/
import Derived.Test.YtjljhnandbbldaaGreatDoorRows
import Derived.LaidByTextLater
import Derived.SevenTiedAt
import Derived.LaidSub
import Derived.LaidOnce
namespace Go.Proofs.YtjljhnandbbldaaGreatDoor
open Go
set_option maxRecDepth 100000
theorem seatTie1 : Tryz.prog.laidByTextLater [("smalto/border.names", Rows.laid_smalto_border_names), ("smalto/raw.kinds", Rows.laid_smalto_raw_kinds)] [.widerDeep, .data] true :=
  Program.laidByTextLater_by_one 22 8 7 (by kernel_rfl) (by kernel_rfl) (by kernel_rfl) (by kernel_rfl) (by kernel_rfl) (by kernel_rfl) (fun _ _ => by kernel_rfl)
theorem noOwnUnsafe : Tryz.pinned.checked.prog.headLifts.contains "ownunsafe" = false := by kernel_rfl
theorem tie : Tryz.prog.laidByTextLater [("smalto/border.names", Rows.laid_smalto_border_names), ("smalto/raw.kinds", Rows.laid_smalto_raw_kinds)] [.widerDeep, .data] true :=
  Program.laidByTextLater.sub seatTie1 ["smalto/border.names", "smalto/raw.kinds"] (by kernel_rfl) (by kernel_rfl)
theorem poolWaits_row_tie : Rows.poolWaitsRow.laidByTextAt .later Tryz.pinned [.widerDeep, .data] true :=
  OpenClaim.laidByTextAt_later rfl rfl tie noOwnUnsafe
theorem poolScratch_row_tie : Rows.poolScratchRow.laidByTextAt .later Tryz.pinned [.widerDeep, .data] true :=
  OpenClaim.laidByTextAt_later rfl rfl tie noOwnUnsafe
theorem poolPlays_row_tie : Rows.poolPlaysRow.laidByTextAt .later Tryz.pinned [.widerDeep, .data] true :=
  OpenClaim.laidByTextAt_later rfl rfl tie noOwnUnsafe
theorem poolRaces_row_tie : Rows.poolRacesRow.laidByTextAt .later Tryz.pinned [.widerDeep, .data] true :=
  OpenClaim.laidByTextAt_later rfl rfl tie noOwnUnsafe
theorem poolWaitsUpto_row_tie : Rows.poolWaitsUptoRow.laidByTextAt .later Tryz.pinned [.widerDeep, .data] true :=
  OpenClaim.laidByTextAt_later rfl rfl tie noOwnUnsafe
theorem poolScratchUpto_row_tie : Rows.poolScratchUptoRow.laidByTextAt .later Tryz.pinned [.widerDeep, .data] true :=
  OpenClaim.laidByTextAt_later rfl rfl tie noOwnUnsafe
theorem poolPlaysUpto_row_tie : Rows.poolPlaysUptoRow.laidByTextAt .later Tryz.pinned [.widerDeep, .data] true :=
  OpenClaim.laidByTextAt_later rfl rfl tie noOwnUnsafe
theorem poolRacesUpto_row_tie : Rows.poolRacesUptoRow.laidByTextAt .later Tryz.pinned [.widerDeep, .data] true :=
  OpenClaim.laidByTextAt_later rfl rfl tie noOwnUnsafe
end Go.Proofs.YtjljhnandbbldaaGreatDoor
