/-
  DERIVED. GIVEN WITH THE SEED: THE CARDS: each row of YtcoimlclclnlkaaGreatDoorRows.lean that lists a variable, with what it lists TIED to the program's text (the seventh form; the later family's looks); each row that meets fmt, with fmt's text TOLD by the authors' own Lean function (tested against real Go, not proved from fmt's source: count such statements apart). THE CARD IS WHAT COUNTS. Prove the row's statement (the work); the ties are given (YtcoimlclclnlkaaGreatDoorTie.lean); close each card by the builder's one call (the guide's Derived/Test/ToyasCard.lean, 'card_holds'). Laid BY PROGRAM, IN A SANDBOX (cutbox-door.mjs). By AI agents, Wed Nov 11 2026. No macro, syntax, notation, axiom, sorry.
-/
import Derived.Test.YtcoimlclclnlkaaGreatDoorRows
import GoSem.ClaimSeven
namespace Go.Proofs.YtcoimlclclnlkaaGreatDoor
namespace Rows

/-- THE TIED CARD OF 'smaltolaw21.WorkerPlays'. -/
def workerPlaysCard : Claim7 := { stood := { row := workerPlaysRow, standIns := [], harness := (true, "0a2a619520c13a5d64d2660552a36c45b564f9a4d1243be4a122a38e2a614256"), looks := false }, kinds := [], alts := [], laidByText := true, laidKinds := [.widerDeep, .data], laidTests := true, laidLooks := .later }
def WorkerPlaysCardSaid : Prop := Claim7.holds Tryz.pinned (.plain (OpenSpec.ofChange workerPlaysSpec)) workerPlaysCard

/-- THE TIED CARD OF 'smaltolaw22.PoolReturns'. -/
def poolReturnsCard : Claim7 := { stood := { row := poolReturnsRow, standIns := [], harness := (true, "0a2a619520c13a5d64d2660552a36c45b564f9a4d1243be4a122a38e2a614256"), looks := false }, kinds := [], alts := [], laidByText := true, laidKinds := [.widerDeep, .data], laidTests := true, laidLooks := .later }
def PoolReturnsCardSaid : Prop := Claim7.holds Tryz.pinned (.plain (OpenSpec.ofChange poolReturnsSpec)) poolReturnsCard

/-- THE TIED CARD OF 'smaltolaw22.PoolNew'. -/
def poolNewCard : Claim7 := { stood := { row := poolNewRow, standIns := [], harness := (true, "0a2a619520c13a5d64d2660552a36c45b564f9a4d1243be4a122a38e2a614256"), looks := false }, kinds := [], alts := [], laidByText := true, laidKinds := [.widerDeep, .data], laidTests := true, laidLooks := .later }
def PoolNewCardSaid : Prop := Claim7.holds Tryz.pinned (.plain (OpenSpec.ofChange poolNewSpec)) poolNewCard

/-- THE TIED CARD OF 'smaltolaw22.PoolWaits'. -/
def poolWaitsCard : Claim7 := { stood := { row := poolWaitsRow, standIns := [], harness := (true, "0a2a619520c13a5d64d2660552a36c45b564f9a4d1243be4a122a38e2a614256"), looks := false }, kinds := [], alts := [], laidByText := true, laidKinds := [.widerDeep, .data], laidTests := true, laidLooks := .later }
def PoolWaitsCardSaid : Prop := Claim7.holds Tryz.pinned (.plain (OpenSpec.ofChange poolWaitsSpec)) poolWaitsCard

/-- THE TIED CARD OF 'smaltolaw22.PoolScratch'. -/
def poolScratchCard : Claim7 := { stood := { row := poolScratchRow, standIns := [], harness := (true, "0a2a619520c13a5d64d2660552a36c45b564f9a4d1243be4a122a38e2a614256"), looks := false }, kinds := [], alts := [], laidByText := true, laidKinds := [.widerDeep, .data], laidTests := true, laidLooks := .later }
def PoolScratchCardSaid : Prop := Claim7.holds Tryz.pinned (.plain (OpenSpec.ofChange poolScratchSpec)) poolScratchCard

/-- THE TIED CARD OF 'smaltolaw22.PoolPlays'. -/
def poolPlaysCard : Claim7 := { stood := { row := poolPlaysRow, standIns := [], harness := (true, "0a2a619520c13a5d64d2660552a36c45b564f9a4d1243be4a122a38e2a614256"), looks := false }, kinds := [], alts := [], laidByText := true, laidKinds := [.widerDeep, .data], laidTests := true, laidLooks := .later }
def PoolPlaysCardSaid : Prop := Claim7.holds Tryz.pinned (.plain (OpenSpec.ofChange poolPlaysSpec)) poolPlaysCard

/-- THE TIED CARD OF 'smaltolaw22.PoolRaces'. -/
def poolRacesCard : Claim7 := { stood := { row := poolRacesRow, standIns := [], harness := (true, "0a2a619520c13a5d64d2660552a36c45b564f9a4d1243be4a122a38e2a614256"), looks := false }, kinds := [], alts := [], laidByText := true, laidKinds := [.widerDeep, .data], laidTests := true, laidLooks := .later }
def PoolRacesCardSaid : Prop := Claim7.holds Tryz.pinned (.plain (OpenSpec.ofChange poolRacesSpec)) poolRacesCard

/-- THE SECOND FORM's CARD OF 'smaltolaw21.WorkerPlays'. -/
def workerPlaysUptoCard : Claim7 := { stood := { row := workerPlaysUptoRow, standIns := [], harness := (true, "0a2a619520c13a5d64d2660552a36c45b564f9a4d1243be4a122a38e2a614256"), looks := false }, kinds := [], alts := [], laidByText := true, laidKinds := [.widerDeep, .data], laidTests := true, laidLooks := .later }
def WorkerPlaysUptoCardSaid : Prop := Claim7.holds Tryz.pinned (.plain (OpenSpec.upto workerPlaysSpec)) workerPlaysUptoCard

/-- THE SECOND FORM's CARD OF 'smaltolaw22.PoolReturns'. -/
def poolReturnsUptoCard : Claim7 := { stood := { row := poolReturnsUptoRow, standIns := [], harness := (true, "0a2a619520c13a5d64d2660552a36c45b564f9a4d1243be4a122a38e2a614256"), looks := false }, kinds := [], alts := [], laidByText := true, laidKinds := [.widerDeep, .data], laidTests := true, laidLooks := .later }
def PoolReturnsUptoCardSaid : Prop := Claim7.holds Tryz.pinned (.plain (OpenSpec.upto poolReturnsSpec)) poolReturnsUptoCard

/-- THE SECOND FORM's CARD OF 'smaltolaw22.PoolNew'. -/
def poolNewUptoCard : Claim7 := { stood := { row := poolNewUptoRow, standIns := [], harness := (true, "0a2a619520c13a5d64d2660552a36c45b564f9a4d1243be4a122a38e2a614256"), looks := false }, kinds := [], alts := [], laidByText := true, laidKinds := [.widerDeep, .data], laidTests := true, laidLooks := .later }
def PoolNewUptoCardSaid : Prop := Claim7.holds Tryz.pinned (.plain (OpenSpec.upto poolNewSpec)) poolNewUptoCard

/-- THE SECOND FORM's CARD OF 'smaltolaw22.PoolWaits'. -/
def poolWaitsUptoCard : Claim7 := { stood := { row := poolWaitsUptoRow, standIns := [], harness := (true, "0a2a619520c13a5d64d2660552a36c45b564f9a4d1243be4a122a38e2a614256"), looks := false }, kinds := [], alts := [], laidByText := true, laidKinds := [.widerDeep, .data], laidTests := true, laidLooks := .later }
def PoolWaitsUptoCardSaid : Prop := Claim7.holds Tryz.pinned (.plain (OpenSpec.upto poolWaitsSpec)) poolWaitsUptoCard

/-- THE SECOND FORM's CARD OF 'smaltolaw22.PoolScratch'. -/
def poolScratchUptoCard : Claim7 := { stood := { row := poolScratchUptoRow, standIns := [], harness := (true, "0a2a619520c13a5d64d2660552a36c45b564f9a4d1243be4a122a38e2a614256"), looks := false }, kinds := [], alts := [], laidByText := true, laidKinds := [.widerDeep, .data], laidTests := true, laidLooks := .later }
def PoolScratchUptoCardSaid : Prop := Claim7.holds Tryz.pinned (.plain (OpenSpec.upto poolScratchSpec)) poolScratchUptoCard

/-- THE SECOND FORM's CARD OF 'smaltolaw22.PoolPlays'. -/
def poolPlaysUptoCard : Claim7 := { stood := { row := poolPlaysUptoRow, standIns := [], harness := (true, "0a2a619520c13a5d64d2660552a36c45b564f9a4d1243be4a122a38e2a614256"), looks := false }, kinds := [], alts := [], laidByText := true, laidKinds := [.widerDeep, .data], laidTests := true, laidLooks := .later }
def PoolPlaysUptoCardSaid : Prop := Claim7.holds Tryz.pinned (.plain (OpenSpec.upto poolPlaysSpec)) poolPlaysUptoCard

/-- THE SECOND FORM's CARD OF 'smaltolaw22.PoolRaces'. -/
def poolRacesUptoCard : Claim7 := { stood := { row := poolRacesUptoRow, standIns := [], harness := (true, "0a2a619520c13a5d64d2660552a36c45b564f9a4d1243be4a122a38e2a614256"), looks := false }, kinds := [], alts := [], laidByText := true, laidKinds := [.widerDeep, .data], laidTests := true, laidLooks := .later }
def PoolRacesUptoCardSaid : Prop := Claim7.holds Tryz.pinned (.plain (OpenSpec.upto poolRacesSpec)) poolRacesUptoCard
end Rows
end Go.Proofs.YtcoimlclclnlkaaGreatDoor
