/-
  DERIVED. GIVEN WITH THE SEED: THE CARDS: each row of YtdbebmafgpdfhaaGreatDoorRows.lean that lists a variable, with what it lists TIED to the program's text (the seventh form; the later family's looks); each row that meets fmt, with fmt's text TOLD by the authors' own Lean function (tested against real Go, not proved from fmt's source: count such statements apart). THE CARD IS WHAT COUNTS. Prove the row's statement (the work); the ties are given (YtdbebmafgpdfhaaGreatDoorTie.lean); close each card by the builder's one call (the guide's Derived/Test/ToyasCard.lean, 'card_holds'). Laid BY PROGRAM, IN A SANDBOX (cutbox-door.mjs). By AI agents, Wed Nov 11 2026. No macro, syntax, notation, axiom, sorry.
-/
import Derived.Test.YtdbebmafgpdfhaaGreatDoorRows
import GoSem.ClaimSeven
namespace Go.Proofs.YtdbebmafgpdfhaaGreatDoor
namespace Rows

/-- THE TIED CARD OF 'smaltolaw21.WorkerNone'. -/
def workerNoneCard : Claim7 := { stood := { row := workerNoneRow, standIns := [], harness := (true, "743f9d45cc6a0b1575798f026a8f96daa71876b0b2b860f443a09b310279c2ef"), looks := false }, kinds := [], alts := [], laidByText := true, laidKinds := [.widerDeep, .data], laidTests := true, laidLooks := .later }
def WorkerNoneCardSaid : Prop := Claim7.holds Tryz.pinned (.plain (OpenSpec.ofChange workerNoneSpec)) workerNoneCard

/-- THE TIED CARD OF 'smaltolaw21.WorkerPlays'. -/
def workerPlaysCard : Claim7 := { stood := { row := workerPlaysRow, standIns := [], harness := (true, "743f9d45cc6a0b1575798f026a8f96daa71876b0b2b860f443a09b310279c2ef"), looks := false }, kinds := [], alts := [], laidByText := true, laidKinds := [.widerDeep, .data], laidTests := true, laidLooks := .later }
def WorkerPlaysCardSaid : Prop := Claim7.holds Tryz.pinned (.plain (OpenSpec.ofChange workerPlaysSpec)) workerPlaysCard

/-- THE TIED CARD OF 'smaltolaw21.WorkerScratch'. -/
def workerScratchCard : Claim7 := { stood := { row := workerScratchRow, standIns := [], harness := (true, "743f9d45cc6a0b1575798f026a8f96daa71876b0b2b860f443a09b310279c2ef"), looks := false }, kinds := [], alts := [], laidByText := true, laidKinds := [.widerDeep, .data], laidTests := true, laidLooks := .later }
def WorkerScratchCardSaid : Prop := Claim7.holds Tryz.pinned (.plain (OpenSpec.ofChange workerScratchSpec)) workerScratchCard

/-- THE TIED CARD OF 'smaltolaw21.WorkerAlone'. -/
def workerAloneCard : Claim7 := { stood := { row := workerAloneRow, standIns := [], harness := (true, "743f9d45cc6a0b1575798f026a8f96daa71876b0b2b860f443a09b310279c2ef"), looks := false }, kinds := [], alts := [], laidByText := true, laidKinds := [.widerDeep, .data], laidTests := true, laidLooks := .later }
def WorkerAloneCardSaid : Prop := Claim7.holds Tryz.pinned (.plain (OpenSpec.ofChange workerAloneSpec)) workerAloneCard

/-- THE SECOND FORM's CARD OF 'smaltolaw21.WorkerNone'. -/
def workerNoneUptoCard : Claim7 := { stood := { row := workerNoneUptoRow, standIns := [], harness := (true, "743f9d45cc6a0b1575798f026a8f96daa71876b0b2b860f443a09b310279c2ef"), looks := false }, kinds := [], alts := [], laidByText := true, laidKinds := [.widerDeep, .data], laidTests := true, laidLooks := .later }
def WorkerNoneUptoCardSaid : Prop := Claim7.holds Tryz.pinned (.plain (OpenSpec.upto workerNoneSpec)) workerNoneUptoCard

/-- THE SECOND FORM's CARD OF 'smaltolaw21.WorkerPlays'. -/
def workerPlaysUptoCard : Claim7 := { stood := { row := workerPlaysUptoRow, standIns := [], harness := (true, "743f9d45cc6a0b1575798f026a8f96daa71876b0b2b860f443a09b310279c2ef"), looks := false }, kinds := [], alts := [], laidByText := true, laidKinds := [.widerDeep, .data], laidTests := true, laidLooks := .later }
def WorkerPlaysUptoCardSaid : Prop := Claim7.holds Tryz.pinned (.plain (OpenSpec.upto workerPlaysSpec)) workerPlaysUptoCard

/-- THE SECOND FORM's CARD OF 'smaltolaw21.WorkerScratch'. -/
def workerScratchUptoCard : Claim7 := { stood := { row := workerScratchUptoRow, standIns := [], harness := (true, "743f9d45cc6a0b1575798f026a8f96daa71876b0b2b860f443a09b310279c2ef"), looks := false }, kinds := [], alts := [], laidByText := true, laidKinds := [.widerDeep, .data], laidTests := true, laidLooks := .later }
def WorkerScratchUptoCardSaid : Prop := Claim7.holds Tryz.pinned (.plain (OpenSpec.upto workerScratchSpec)) workerScratchUptoCard

/-- THE SECOND FORM's CARD OF 'smaltolaw21.WorkerAlone'. -/
def workerAloneUptoCard : Claim7 := { stood := { row := workerAloneUptoRow, standIns := [], harness := (true, "743f9d45cc6a0b1575798f026a8f96daa71876b0b2b860f443a09b310279c2ef"), looks := false }, kinds := [], alts := [], laidByText := true, laidKinds := [.widerDeep, .data], laidTests := true, laidLooks := .later }
def WorkerAloneUptoCardSaid : Prop := Claim7.holds Tryz.pinned (.plain (OpenSpec.upto workerAloneSpec)) workerAloneUptoCard
end Rows
end Go.Proofs.YtdbebmafgpdfhaaGreatDoor
