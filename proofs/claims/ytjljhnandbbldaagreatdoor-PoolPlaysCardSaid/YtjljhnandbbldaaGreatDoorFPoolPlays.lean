/- The closed facts of the row of PoolPlays (asked of the kernel, the great ones one by one). Conditions: none. -/
import Derived.Test.YtjljhnandbbldaaGreatDoorRows
import Derived.JoinedOf
namespace Go.Proofs.YtjljhnandbbldaaGreatDoor
open Go
set_option maxRecDepth 100000
theorem poolPlays_kA : (Rows.poolPlaysRow.inPlace == Tryz.pinned.checked.prog.inPlace 5) = true := by kernel_rfl
theorem poolPlays_kB : (Rows.poolPlaysRow.unfollowed == Tryz.pinned.checked.prog.unfollowed 5) = true := by kernel_rfl
theorem poolPlays_kC : (Rows.poolPlaysRow.recurses == Tryz.pinned.checked.prog.recurses 5) = true := by kernel_rfl
theorem poolPlays_kD : (Rows.poolPlaysRow.named == Tryz.pinned.checked.prog.varsNamed 5) = true := by kernel_rfl
theorem poolPlays_closed : joinedFacts Tryz.pinned.checked.prog 5 Tryz.f5 Rows.poolPlaysSpec Rows.poolPlaysRow = true := by
  simp only [joinedFacts, poolPlays_kA, poolPlays_kB, poolPlays_kC, poolPlays_kD, Bool.and_true]
  kernel_rfl
end Go.Proofs.YtjljhnandbbldaaGreatDoor
