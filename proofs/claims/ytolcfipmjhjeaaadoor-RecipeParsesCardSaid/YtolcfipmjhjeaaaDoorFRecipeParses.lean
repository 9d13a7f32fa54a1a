/- The closed facts of the row of RecipeParses (asked of the kernel, the great ones one by one). Conditions: none. -/
import Derived.Test.YtolcfipmjhjeaaaDoorRows
import Derived.JoinedOf
namespace Go.Proofs.YtolcfipmjhjeaaaDoor
open Go
set_option maxRecDepth 100000
theorem recipeParses_kA : (Rows.recipeParsesRow.inPlace == Tryd.pinned.checked.prog.inPlace 3) = true := by kernel_rfl
theorem recipeParses_kB : (Rows.recipeParsesRow.unfollowed == Tryd.pinned.checked.prog.unfollowed 3) = true := by kernel_rfl
theorem recipeParses_kC : (Rows.recipeParsesRow.recurses == Tryd.pinned.checked.prog.recurses 3) = true := by kernel_rfl
theorem recipeParses_kD : (Rows.recipeParsesRow.named == Tryd.pinned.checked.prog.varsNamed 3) = true := by kernel_rfl
theorem recipeParses_closed : joinedFacts Tryd.pinned.checked.prog 3 Tryd.f3 Rows.recipeParsesSpec Rows.recipeParsesRow = true := by
  simp only [joinedFacts, recipeParses_kA, recipeParses_kB, recipeParses_kC, recipeParses_kD, Bool.and_true]
  kernel_rfl
end Go.Proofs.YtolcfipmjhjeaaaDoor
