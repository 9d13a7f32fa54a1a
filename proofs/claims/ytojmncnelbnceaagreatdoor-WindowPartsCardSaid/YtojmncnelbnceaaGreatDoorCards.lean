/-
  DERIVED. GIVEN WITH THE SEED: THE CARDS: each row of YtojmncnelbnceaaGreatDoorRows.lean that lists a variable, with what it lists TIED to the program's text (the seventh form; the later family's looks); each row that meets fmt, with fmt's text TOLD by the authors' own Lean function (tested against real Go, not proved from fmt's source: count such statements apart). THE CARD IS WHAT COUNTS. Prove the row's statement (the work); the ties are given (YtojmncnelbnceaaGreatDoorTie.lean); close each card by the builder's one call (the guide's Derived/Test/ToyasCard.lean, 'card_holds'). Laid BY PROGRAM, IN A SANDBOX (cutbox-door.mjs). By AI agents, Wed Nov 11 2026. No macro, syntax, notation, axiom, sorry.
-/
import Derived.Test.YtojmncnelbnceaaGreatDoorRows
import GoSem.ClaimSeven
namespace Go.Proofs.YtojmncnelbnceaaGreatDoor
namespace Rows

/-- THE TIED CARD OF 'smaltolaw17.WindowOnce'. -/
def windowOnceCard : Claim7 := { stood := { row := windowOnceRow, standIns := [], harness := (true, "68e29bbb27b3d1b07877560fbb17c6b132563f2a5a844eb1dac3dc2c9d124989"), looks := false }, kinds := [], alts := [], laidByText := true, laidKinds := [.widerDeep, .data], laidTests := true, laidLooks := .later }
def WindowOnceCardSaid : Prop := Claim7.holds Tryz.pinned (.plain (OpenSpec.ofChange windowOnceSpec)) windowOnceCard

/-- THE TIED CARD OF 'smaltolaw17.WindowNew'. -/
def windowNewCard : Claim7 := { stood := { row := windowNewRow, standIns := [], harness := (true, "68e29bbb27b3d1b07877560fbb17c6b132563f2a5a844eb1dac3dc2c9d124989"), looks := false }, kinds := [], alts := [], laidByText := true, laidKinds := [.widerDeep, .data], laidTests := true, laidLooks := .later }
def WindowNewCardSaid : Prop := Claim7.holds Tryz.pinned (.plain (OpenSpec.ofChange windowNewSpec)) windowNewCard

/-- THE TIED CARD OF 'smaltolaw17.WindowWrites'. -/
def windowWritesCard : Claim7 := { stood := { row := windowWritesRow, standIns := [], harness := (true, "68e29bbb27b3d1b07877560fbb17c6b132563f2a5a844eb1dac3dc2c9d124989"), looks := false }, kinds := [], alts := [], laidByText := true, laidKinds := [.widerDeep, .data], laidTests := true, laidLooks := .later }
def WindowWritesCardSaid : Prop := Claim7.holds Tryz.pinned (.plain (OpenSpec.ofChange windowWritesSpec)) windowWritesCard

/-- THE TIED CARD OF 'smaltolaw17.WindowParts'. -/
def windowPartsCard : Claim7 := { stood := { row := windowPartsRow, standIns := [], harness := (true, "68e29bbb27b3d1b07877560fbb17c6b132563f2a5a844eb1dac3dc2c9d124989"), looks := false }, kinds := [], alts := [], laidByText := true, laidKinds := [.widerDeep, .data], laidTests := true, laidLooks := .later }
def WindowPartsCardSaid : Prop := Claim7.holds Tryz.pinned (.plain (OpenSpec.ofChange windowPartsSpec)) windowPartsCard

/-- THE TIED CARD OF 'smaltolaw17.WindowSteps'. -/
def windowStepsCard : Claim7 := { stood := { row := windowStepsRow, standIns := [], harness := (true, "68e29bbb27b3d1b07877560fbb17c6b132563f2a5a844eb1dac3dc2c9d124989"), looks := false }, kinds := [], alts := [], laidByText := true, laidKinds := [.widerDeep, .data], laidTests := true, laidLooks := .later }
def WindowStepsCardSaid : Prop := Claim7.holds Tryz.pinned (.plain (OpenSpec.ofChange windowStepsSpec)) windowStepsCard

/-- THE SECOND FORM's CARD OF 'smaltolaw17.WindowOnce'. -/
def windowOnceUptoCard : Claim7 := { stood := { row := windowOnceUptoRow, standIns := [], harness := (true, "68e29bbb27b3d1b07877560fbb17c6b132563f2a5a844eb1dac3dc2c9d124989"), looks := false }, kinds := [], alts := [], laidByText := true, laidKinds := [.widerDeep, .data], laidTests := true, laidLooks := .later }
def WindowOnceUptoCardSaid : Prop := Claim7.holds Tryz.pinned (.plain (OpenSpec.upto windowOnceSpec)) windowOnceUptoCard

/-- THE SECOND FORM's CARD OF 'smaltolaw17.WindowNew'. -/
def windowNewUptoCard : Claim7 := { stood := { row := windowNewUptoRow, standIns := [], harness := (true, "68e29bbb27b3d1b07877560fbb17c6b132563f2a5a844eb1dac3dc2c9d124989"), looks := false }, kinds := [], alts := [], laidByText := true, laidKinds := [.widerDeep, .data], laidTests := true, laidLooks := .later }
def WindowNewUptoCardSaid : Prop := Claim7.holds Tryz.pinned (.plain (OpenSpec.upto windowNewSpec)) windowNewUptoCard

/-- THE SECOND FORM's CARD OF 'smaltolaw17.WindowWrites'. -/
def windowWritesUptoCard : Claim7 := { stood := { row := windowWritesUptoRow, standIns := [], harness := (true, "68e29bbb27b3d1b07877560fbb17c6b132563f2a5a844eb1dac3dc2c9d124989"), looks := false }, kinds := [], alts := [], laidByText := true, laidKinds := [.widerDeep, .data], laidTests := true, laidLooks := .later }
def WindowWritesUptoCardSaid : Prop := Claim7.holds Tryz.pinned (.plain (OpenSpec.upto windowWritesSpec)) windowWritesUptoCard

/-- THE SECOND FORM's CARD OF 'smaltolaw17.WindowParts'. -/
def windowPartsUptoCard : Claim7 := { stood := { row := windowPartsUptoRow, standIns := [], harness := (true, "68e29bbb27b3d1b07877560fbb17c6b132563f2a5a844eb1dac3dc2c9d124989"), looks := false }, kinds := [], alts := [], laidByText := true, laidKinds := [.widerDeep, .data], laidTests := true, laidLooks := .later }
def WindowPartsUptoCardSaid : Prop := Claim7.holds Tryz.pinned (.plain (OpenSpec.upto windowPartsSpec)) windowPartsUptoCard

/-- THE SECOND FORM's CARD OF 'smaltolaw17.WindowSteps'. -/
def windowStepsUptoCard : Claim7 := { stood := { row := windowStepsUptoRow, standIns := [], harness := (true, "68e29bbb27b3d1b07877560fbb17c6b132563f2a5a844eb1dac3dc2c9d124989"), looks := false }, kinds := [], alts := [], laidByText := true, laidKinds := [.widerDeep, .data], laidTests := true, laidLooks := .later }
def WindowStepsUptoCardSaid : Prop := Claim7.holds Tryz.pinned (.plain (OpenSpec.upto windowStepsSpec)) windowStepsUptoCard
end Rows
end Go.Proofs.YtojmncnelbnceaaGreatDoor
