/- The closed facts of the row of WorkerPlays (asked of the kernel, the great ones one by one). Conditions: none. -/
import Derived.Test.YtcoimlclclnlkaaGreatDoorRows
import Derived.JoinedOf
namespace Go.Proofs.YtcoimlclclnlkaaGreatDoor
open Go
set_option maxRecDepth 100000
theorem workerPlays_kA : (Rows.workerPlaysRow.inPlace == Tryz.pinned.checked.prog.inPlace 3) = true := by kernel_rfl
theorem workerPlays_kB : (Rows.workerPlaysRow.unfollowed == Tryz.pinned.checked.prog.unfollowed 3) = true := by kernel_rfl
theorem workerPlays_kC : (Rows.workerPlaysRow.recurses == Tryz.pinned.checked.prog.recurses 3) = true := by kernel_rfl
theorem workerPlays_kD : (Rows.workerPlaysRow.named == Tryz.pinned.checked.prog.varsNamed 3) = true := by kernel_rfl
theorem workerPlays_closed : joinedFacts Tryz.pinned.checked.prog 3 Tryz.f3 Rows.workerPlaysSpec Rows.workerPlaysRow = true := by
  simp only [joinedFacts, workerPlays_kA, workerPlays_kB, workerPlays_kC, workerPlays_kD, Bool.and_true]
  kernel_rfl
end Go.Proofs.YtcoimlclclnlkaaGreatDoor
