/-
  DERIVED. GIVEN WITH THE SEED: THE CARDS: each row of YtjljhnandbbldaaGreatDoorRows.lean that lists a variable, with what it lists TIED to the program's text (the seventh form; the later family's looks); each row that meets fmt, with fmt's text TOLD by the authors' own Lean function (tested against real Go, not proved from fmt's source: count such statements apart). THE CARD IS WHAT COUNTS. Prove the row's statement (the work); the ties are given (YtjljhnandbbldaaGreatDoorTie.lean); close each card by the builder's one call (the guide's Derived/Test/ToyasCard.lean, 'card_holds'). Laid BY PROGRAM, IN A SANDBOX (cutbox-door.mjs). By AI agents, Wed Nov 11 2026. No macro, syntax, notation, axiom, sorry.
-/
import Derived.Test.YtjljhnandbbldaaGreatDoorRows
import GoSem.ClaimSeven
namespace Go.Proofs.YtjljhnandbbldaaGreatDoor
namespace Rows

/-- THE TIED CARD OF 'smaltolaw22.PoolWaits'. -/
def poolWaitsCard : Claim7 := { stood := { row := poolWaitsRow, standIns := [], harness := (true, "40ee7874c560b843afe383334f75b6c51eb71c83532f5d812120555f9498be95"), looks := false }, kinds := [], alts := [], laidByText := true, laidKinds := [.widerDeep, .data], laidTests := true, laidLooks := .later }
def PoolWaitsCardSaid : Prop := Claim7.holds Tryz.pinned (.plain (OpenSpec.ofChange poolWaitsSpec)) poolWaitsCard

/-- THE TIED CARD OF 'smaltolaw22.PoolScratch'. -/
def poolScratchCard : Claim7 := { stood := { row := poolScratchRow, standIns := [], harness := (true, "40ee7874c560b843afe383334f75b6c51eb71c83532f5d812120555f9498be95"), looks := false }, kinds := [], alts := [], laidByText := true, laidKinds := [.widerDeep, .data], laidTests := true, laidLooks := .later }
def PoolScratchCardSaid : Prop := Claim7.holds Tryz.pinned (.plain (OpenSpec.ofChange poolScratchSpec)) poolScratchCard

/-- THE TIED CARD OF 'smaltolaw22.PoolPlays'. -/
def poolPlaysCard : Claim7 := { stood := { row := poolPlaysRow, standIns := [], harness := (true, "40ee7874c560b843afe383334f75b6c51eb71c83532f5d812120555f9498be95"), looks := false }, kinds := [], alts := [], laidByText := true, laidKinds := [.widerDeep, .data], laidTests := true, laidLooks := .later }
def PoolPlaysCardSaid : Prop := Claim7.holds Tryz.pinned (.plain (OpenSpec.ofChange poolPlaysSpec)) poolPlaysCard

/-- THE TIED CARD OF 'smaltolaw22.PoolRaces'. -/
def poolRacesCard : Claim7 := { stood := { row := poolRacesRow, standIns := [], harness := (true, "40ee7874c560b843afe383334f75b6c51eb71c83532f5d812120555f9498be95"), looks := false }, kinds := [], alts := [], laidByText := true, laidKinds := [.widerDeep, .data], laidTests := true, laidLooks := .later }
def PoolRacesCardSaid : Prop := Claim7.holds Tryz.pinned (.plain (OpenSpec.ofChange poolRacesSpec)) poolRacesCard

/-- THE SECOND FORM's CARD OF 'smaltolaw22.PoolWaits'. -/
def poolWaitsUptoCard : Claim7 := { stood := { row := poolWaitsUptoRow, standIns := [], harness := (true, "40ee7874c560b843afe383334f75b6c51eb71c83532f5d812120555f9498be95"), looks := false }, kinds := [], alts := [], laidByText := true, laidKinds := [.widerDeep, .data], laidTests := true, laidLooks := .later }
def PoolWaitsUptoCardSaid : Prop := Claim7.holds Tryz.pinned (.plain (OpenSpec.upto poolWaitsSpec)) poolWaitsUptoCard

/-- THE SECOND FORM's CARD OF 'smaltolaw22.PoolScratch'. -/
def poolScratchUptoCard : Claim7 := { stood := { row := poolScratchUptoRow, standIns := [], harness := (true, "40ee7874c560b843afe383334f75b6c51eb71c83532f5d812120555f9498be95"), looks := false }, kinds := [], alts := [], laidByText := true, laidKinds := [.widerDeep, .data], laidTests := true, laidLooks := .later }
def PoolScratchUptoCardSaid : Prop := Claim7.holds Tryz.pinned (.plain (OpenSpec.upto poolScratchSpec)) poolScratchUptoCard

/-- THE SECOND FORM's CARD OF 'smaltolaw22.PoolPlays'. -/
def poolPlaysUptoCard : Claim7 := { stood := { row := poolPlaysUptoRow, standIns := [], harness := (true, "40ee7874c560b843afe383334f75b6c51eb71c83532f5d812120555f9498be95"), looks := false }, kinds := [], alts := [], laidByText := true, laidKinds := [.widerDeep, .data], laidTests := true, laidLooks := .later }
def PoolPlaysUptoCardSaid : Prop := Claim7.holds Tryz.pinned (.plain (OpenSpec.upto poolPlaysSpec)) poolPlaysUptoCard

/-- THE SECOND FORM's CARD OF 'smaltolaw22.PoolRaces'. -/
def poolRacesUptoCard : Claim7 := { stood := { row := poolRacesUptoRow, standIns := [], harness := (true, "40ee7874c560b843afe383334f75b6c51eb71c83532f5d812120555f9498be95"), looks := false }, kinds := [], alts := [], laidByText := true, laidKinds := [.widerDeep, .data], laidTests := true, laidLooks := .later }
def PoolRacesUptoCardSaid : Prop := Claim7.holds Tryz.pinned (.plain (OpenSpec.upto poolRacesSpec)) poolRacesUptoCard
end Rows
end Go.Proofs.YtjljhnandbbldaaGreatDoor
