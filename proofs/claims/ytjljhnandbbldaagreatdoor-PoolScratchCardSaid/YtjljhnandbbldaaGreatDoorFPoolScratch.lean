/- The closed facts of the row of PoolScratch (asked of the kernel, the great ones one by one). Conditions: none. -/
import Derived.Test.YtjljhnandbbldaaGreatDoorRows
import Derived.JoinedOf
namespace Go.Proofs.YtjljhnandbbldaaGreatDoor
open Go
set_option maxRecDepth 100000
theorem poolScratch_kA : (Rows.poolScratchRow.inPlace == Tryz.pinned.checked.prog.inPlace 4) = true := by kernel_rfl
theorem poolScratch_kB : (Rows.poolScratchRow.unfollowed == Tryz.pinned.checked.prog.unfollowed 4) = true := by kernel_rfl
theorem poolScratch_kC : (Rows.poolScratchRow.recurses == Tryz.pinned.checked.prog.recurses 4) = true := by kernel_rfl
theorem poolScratch_kD : (Rows.poolScratchRow.named == Tryz.pinned.checked.prog.varsNamed 4) = true := by kernel_rfl
theorem poolScratch_closed : joinedFacts Tryz.pinned.checked.prog 4 Tryz.f4 Rows.poolScratchSpec Rows.poolScratchRow = true := by
  simp only [joinedFacts, poolScratch_kA, poolScratch_kB, poolScratch_kC, poolScratch_kD, Bool.and_true]
  kernel_rfl
end Go.Proofs.YtjljhnandbbldaaGreatDoor
