/- The closed facts of the row of PoolWaits (asked of the kernel, the great ones one by one). Conditions: none. -/
import Derived.Test.YtjljhnandbbldaaGreatDoorRows
import Derived.JoinedOf
namespace Go.Proofs.YtjljhnandbbldaaGreatDoor
open Go
set_option maxRecDepth 100000
theorem poolWaits_kA : (Rows.poolWaitsRow.inPlace == Tryz.pinned.checked.prog.inPlace 3) = true := by kernel_rfl
theorem poolWaits_kB : (Rows.poolWaitsRow.unfollowed == Tryz.pinned.checked.prog.unfollowed 3) = true := by kernel_rfl
theorem poolWaits_kC : (Rows.poolWaitsRow.recurses == Tryz.pinned.checked.prog.recurses 3) = true := by kernel_rfl
theorem poolWaits_kD : (Rows.poolWaitsRow.named == Tryz.pinned.checked.prog.varsNamed 3) = true := by kernel_rfl
theorem poolWaits_closed : joinedFacts Tryz.pinned.checked.prog 3 Tryz.f3 Rows.poolWaitsSpec Rows.poolWaitsRow = true := by
  simp only [joinedFacts, poolWaits_kA, poolWaits_kB, poolWaits_kC, poolWaits_kD, Bool.and_true]
  kernel_rfl
end Go.Proofs.YtjljhnandbbldaaGreatDoor
