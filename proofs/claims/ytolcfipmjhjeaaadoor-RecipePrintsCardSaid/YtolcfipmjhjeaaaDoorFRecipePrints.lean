/- The closed facts of the row of RecipePrints (asked of the kernel, the great ones one by one). Conditions: none. -/
import Derived.Test.YtolcfipmjhjeaaaDoorRows
import Derived.JoinedOf
namespace Go.Proofs.YtolcfipmjhjeaaaDoor
open Go
set_option maxRecDepth 100000
theorem recipePrints_kA : (Rows.recipePrintsRow.inPlace == Tryd.pinned.checked.prog.inPlace 4) = true := by kernel_rfl
theorem recipePrints_kB : (Rows.recipePrintsRow.unfollowed == Tryd.pinned.checked.prog.unfollowed 4) = true := by kernel_rfl
theorem recipePrints_kC : (Rows.recipePrintsRow.recurses == Tryd.pinned.checked.prog.recurses 4) = true := by kernel_rfl
theorem recipePrints_kD : (Rows.recipePrintsRow.named == Tryd.pinned.checked.prog.varsNamed 4) = true := by kernel_rfl
theorem recipePrints_closed : joinedFacts Tryd.pinned.checked.prog 4 Tryd.f4 Rows.recipePrintsSpec Rows.recipePrintsRow = true := by
  simp only [joinedFacts, recipePrints_kA, recipePrints_kB, recipePrints_kC, recipePrints_kD, Bool.and_true]
  kernel_rfl
end Go.Proofs.YtolcfipmjhjeaaaDoor
