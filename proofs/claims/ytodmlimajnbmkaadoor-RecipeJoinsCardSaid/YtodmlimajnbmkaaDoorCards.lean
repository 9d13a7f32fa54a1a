/-
  DERIVED. GIVEN WITH THE SEED: THE CARDS: each row of YtodmlimajnbmkaaDoorRows.lean that lists a variable, with what it lists TIED to the program's text (the seventh form; the later family's looks); each row that meets fmt, with fmt's text TOLD by the authors' own Lean function (tested against real Go, not proved from fmt's source: count such statements apart). THE CARD IS WHAT COUNTS. Prove the row's statement (the work); the ties are given (YtodmlimajnbmkaaDoorTie.lean); close each card by the builder's one call (the guide's Derived/Test/ToyasCard.lean, 'card_holds'). Laid BY PROGRAM, IN A SANDBOX (cutbox-door.mjs). By AI agents, Wed Nov 11 2026. No macro, syntax, notation, axiom, sorry.
-/
import Derived.Test.YtodmlimajnbmkaaDoorRows
import GoSem.ClaimSeven
namespace Go.Proofs.YtodmlimajnbmkaaDoor
namespace Rows

/-- THE TIED CARD OF 'smaltolaw13.RecipeSigns'. -/
def recipeSignsCard : Claim7 := { stood := { row := recipeSignsRow, standIns := [], harness := (true, "5d68761b6376da9862a75e97a0c74c63e1e1f5f1009983dcf31a27386006c5e0"), looks := true }, kinds := [], alts := [], laidByText := true, laidKinds := [.data, .data, .data, .widerDeep, .data], laidTests := true, laidLooks := .later }
def RecipeSignsCardSaid : Prop := Claim7.holds Tryd.pinned (.plain (OpenSpec.ofChange recipeSignsSpec)) recipeSignsCard

/-- THE TIED CARD OF 'smaltolaw13.RecipeJoins'. -/
def recipeJoinsCard : Claim7 := { stood := { row := recipeJoinsRow, standIns := [], harness := (true, "5d68761b6376da9862a75e97a0c74c63e1e1f5f1009983dcf31a27386006c5e0"), looks := true }, kinds := [], alts := [], laidByText := true, laidKinds := [.data, .data, .data, .widerDeep, .data], laidTests := true, laidLooks := .later }
def RecipeJoinsCardSaid : Prop := Claim7.holds Tryd.pinned (.plain (OpenSpec.ofChange recipeJoinsSpec)) recipeJoinsCard

/-- THE TIED CARD OF 'smaltolaw13.RecipeParses'. -/
def recipeParsesCard : Claim7 := { stood := { row := recipeParsesRow, standIns := [], harness := (true, "5d68761b6376da9862a75e97a0c74c63e1e1f5f1009983dcf31a27386006c5e0"), looks := true }, kinds := [], alts := [], laidByText := true, laidKinds := [.data, .data, .data, .data, .widerDeep, .data, .sentinel, .sentinel, .pinned], laidTests := true, laidLooks := .later }
def RecipeParsesCardSaid : Prop := Claim7.holds Tryd.pinned (.plain (OpenSpec.ofChange recipeParsesSpec)) recipeParsesCard

/-- THE TIED CARD OF 'smaltolaw13.RecipePrints'. -/
def recipePrintsCard : Claim7 := { stood := { row := recipePrintsRow, standIns := [], harness := (true, "5d68761b6376da9862a75e97a0c74c63e1e1f5f1009983dcf31a27386006c5e0"), looks := true }, kinds := [], alts := [], laidByText := true, laidKinds := [.data, .data, .data, .data, .widerDeep, .data, .sentinel, .sentinel, .pinned], laidTests := true, laidLooks := .later }
def RecipePrintsCardSaid : Prop := Claim7.holds Tryd.pinned (.plain (OpenSpec.ofChange recipePrintsSpec)) recipePrintsCard

/-- THE SECOND FORM's CARD OF 'smaltolaw13.RecipeSigns'. -/
def recipeSignsUptoCard : Claim7 := { stood := { row := recipeSignsUptoRow, standIns := [], harness := (true, "5d68761b6376da9862a75e97a0c74c63e1e1f5f1009983dcf31a27386006c5e0"), looks := true }, kinds := [], alts := [], laidByText := true, laidKinds := [.data, .data, .data, .widerDeep, .data], laidTests := true, laidLooks := .later }
def RecipeSignsUptoCardSaid : Prop := Claim7.holds Tryd.pinned (.plain (OpenSpec.upto recipeSignsSpec)) recipeSignsUptoCard

/-- THE SECOND FORM's CARD OF 'smaltolaw13.RecipeJoins'. -/
def recipeJoinsUptoCard : Claim7 := { stood := { row := recipeJoinsUptoRow, standIns := [], harness := (true, "5d68761b6376da9862a75e97a0c74c63e1e1f5f1009983dcf31a27386006c5e0"), looks := true }, kinds := [], alts := [], laidByText := true, laidKinds := [.data, .data, .data, .widerDeep, .data], laidTests := true, laidLooks := .later }
def RecipeJoinsUptoCardSaid : Prop := Claim7.holds Tryd.pinned (.plain (OpenSpec.upto recipeJoinsSpec)) recipeJoinsUptoCard

/-- THE SECOND FORM's CARD OF 'smaltolaw13.RecipeParses'. -/
def recipeParsesUptoCard : Claim7 := { stood := { row := recipeParsesUptoRow, standIns := [], harness := (true, "5d68761b6376da9862a75e97a0c74c63e1e1f5f1009983dcf31a27386006c5e0"), looks := true }, kinds := [], alts := [], laidByText := true, laidKinds := [.data, .data, .data, .data, .widerDeep, .data, .sentinel, .sentinel, .pinned], laidTests := true, laidLooks := .later }
def RecipeParsesUptoCardSaid : Prop := Claim7.holds Tryd.pinned (.plain (OpenSpec.upto recipeParsesSpec)) recipeParsesUptoCard

/-- THE SECOND FORM's CARD OF 'smaltolaw13.RecipePrints'. -/
def recipePrintsUptoCard : Claim7 := { stood := { row := recipePrintsUptoRow, standIns := [], harness := (true, "5d68761b6376da9862a75e97a0c74c63e1e1f5f1009983dcf31a27386006c5e0"), looks := true }, kinds := [], alts := [], laidByText := true, laidKinds := [.data, .data, .data, .data, .widerDeep, .data, .sentinel, .sentinel, .pinned], laidTests := true, laidLooks := .later }
def RecipePrintsUptoCardSaid : Prop := Claim7.holds Tryd.pinned (.plain (OpenSpec.upto recipePrintsSpec)) recipePrintsUptoCard
end Rows
end Go.Proofs.YtodmlimajnbmkaaDoor
