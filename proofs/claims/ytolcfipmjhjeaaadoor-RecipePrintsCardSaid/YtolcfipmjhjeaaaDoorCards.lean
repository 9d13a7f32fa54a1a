/-
  DERIVED. GIVEN WITH THE SEED: THE CARDS: each row of YtolcfipmjhjeaaaDoorRows.lean that lists a variable, with what it lists TIED to the program's text (the seventh form; the later family's looks); each row that meets fmt, with fmt's text TOLD by the authors' own Lean function (tested against real Go, not proved from fmt's source: count such statements apart). THE CARD IS WHAT COUNTS. Prove the row's statement (the work); the ties are given (YtolcfipmjhjeaaaDoorTie.lean); close each card by the builder's one call (the guide's Derived/Test/ToyasCard.lean, 'card_holds'). Laid BY PROGRAM, IN A SANDBOX (cutbox-door.mjs). By AI agents, Wed Nov 11 2026. No macro, syntax, notation, axiom, sorry.
-/
import Derived.Test.YtolcfipmjhjeaaaDoorRows
import GoSem.ClaimSeven
namespace Go.Proofs.YtolcfipmjhjeaaaDoor
namespace Rows

/-- THE TIED CARD OF 'smaltolaw13.RecipeParses'. -/
def recipeParsesCard : Claim7 := { stood := { row := recipeParsesRow, standIns := [], harness := (true, "52973d543ea31dfffea19cb867a7d36dae158064467c4bfeb4ae5c5e0bcde1f1"), looks := true }, kinds := [], alts := [], laidByText := true, laidKinds := [.data, .data, .data, .data, .widerDeep, .data, .sentinel, .sentinel, .pinned], laidTests := true, laidLooks := .later }
def RecipeParsesCardSaid : Prop := Claim7.holds Tryd.pinned (.plain (OpenSpec.ofChange recipeParsesSpec)) recipeParsesCard

/-- THE TIED CARD OF 'smaltolaw13.RecipePrints'. -/
def recipePrintsCard : Claim7 := { stood := { row := recipePrintsRow, standIns := [], harness := (true, "52973d543ea31dfffea19cb867a7d36dae158064467c4bfeb4ae5c5e0bcde1f1"), looks := true }, kinds := [], alts := [], laidByText := true, laidKinds := [.data, .data, .data, .data, .widerDeep, .data, .sentinel, .sentinel, .pinned], laidTests := true, laidLooks := .later }
def RecipePrintsCardSaid : Prop := Claim7.holds Tryd.pinned (.plain (OpenSpec.ofChange recipePrintsSpec)) recipePrintsCard

/-- THE SECOND FORM's CARD OF 'smaltolaw13.RecipeParses'. -/
def recipeParsesUptoCard : Claim7 := { stood := { row := recipeParsesUptoRow, standIns := [], harness := (true, "52973d543ea31dfffea19cb867a7d36dae158064467c4bfeb4ae5c5e0bcde1f1"), looks := true }, kinds := [], alts := [], laidByText := true, laidKinds := [.data, .data, .data, .data, .widerDeep, .data, .sentinel, .sentinel, .pinned], laidTests := true, laidLooks := .later }
def RecipeParsesUptoCardSaid : Prop := Claim7.holds Tryd.pinned (.plain (OpenSpec.upto recipeParsesSpec)) recipeParsesUptoCard

/-- THE SECOND FORM's CARD OF 'smaltolaw13.RecipePrints'. -/
def recipePrintsUptoCard : Claim7 := { stood := { row := recipePrintsUptoRow, standIns := [], harness := (true, "52973d543ea31dfffea19cb867a7d36dae158064467c4bfeb4ae5c5e0bcde1f1"), looks := true }, kinds := [], alts := [], laidByText := true, laidKinds := [.data, .data, .data, .data, .widerDeep, .data, .sentinel, .sentinel, .pinned], laidTests := true, laidLooks := .later }
def RecipePrintsUptoCardSaid : Prop := Claim7.holds Tryd.pinned (.plain (OpenSpec.upto recipePrintsSpec)) recipePrintsUptoCard
end Rows
end Go.Proofs.YtolcfipmjhjeaaaDoor
