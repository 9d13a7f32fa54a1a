/-
  DERIVED. GIVEN WITH THE SEED: THE CARDS: each row of YtefdokfnnokagaaGreatDoorRows.lean that lists a variable, with what it lists TIED to the program's text (the seventh form; the later family's looks); each row that meets fmt, with fmt's text TOLD by the authors' own Lean function (tested against real Go, not proved from fmt's source: count such statements apart). THE CARD IS WHAT COUNTS. Prove the row's statement (the work); the ties are given (YtefdokfnnokagaaGreatDoorTie.lean); close each card by the builder's one call (the guide's Derived/Test/ToyasCard.lean, 'card_holds'). Laid BY PROGRAM, IN A SANDBOX (cutbox-door.mjs). By AI agents, Wed Nov 11 2026. No macro, syntax, notation, axiom, sorry.
-/
import Derived.Test.YtefdokfnnokagaaGreatDoorRows
import GoSem.ClaimSeven
namespace Go.Proofs.YtefdokfnnokagaaGreatDoor
namespace Rows

/-- THE TIED CARD OF 'smaltolaw13.RecipeCleans'. -/
def recipeCleansCard : Claim7 := { stood := { row := recipeCleansRow, standIns := [], harness := (true, "6ab62efc6e3cd54b504996a0bfba106f1ce3cfd464c1561073c4b0280162357b"), looks := false }, kinds := [], alts := [], laidByText := true, laidKinds := [.data, .data, .data, .widerDeep, .data], laidTests := true, laidLooks := .later }
def RecipeCleansCardSaid : Prop := Claim7.holds Tryz.pinned (.plain (OpenSpec.ofChange recipeCleansSpec)) recipeCleansCard

/-- THE SECOND FORM's CARD OF 'smaltolaw13.RecipeCleans'. -/
def recipeCleansUptoCard : Claim7 := { stood := { row := recipeCleansUptoRow, standIns := [], harness := (true, "6ab62efc6e3cd54b504996a0bfba106f1ce3cfd464c1561073c4b0280162357b"), looks := false }, kinds := [], alts := [], laidByText := true, laidKinds := [.data, .data, .data, .widerDeep, .data], laidTests := true, laidLooks := .later }
def RecipeCleansUptoCardSaid : Prop := Claim7.holds Tryz.pinned (.plain (OpenSpec.upto recipeCleansSpec)) recipeCleansUptoCard
end Rows
end Go.Proofs.YtefdokfnnokagaaGreatDoor
