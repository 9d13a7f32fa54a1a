/- The closed facts of the row of PoolReturns (asked of the kernel, the great ones one by one). Conditions: none. -/
import Derived.Test.YtcoimlclclnlkaaGreatDoorRows
import Derived.JoinedOf
namespace Go.Proofs.YtcoimlclclnlkaaGreatDoor
open Go
set_option maxRecDepth 100000
theorem poolReturns_kA : (Rows.poolReturnsRow.inPlace == Tryz.pinned.checked.prog.inPlace 4) = true := by kernel_rfl
theorem poolReturns_kB : (Rows.poolReturnsRow.unfollowed == Tryz.pinned.checked.prog.unfollowed 4) = true := by kernel_rfl
theorem poolReturns_kC : (Rows.poolReturnsRow.recurses == Tryz.pinned.checked.prog.recurses 4) = true := by kernel_rfl
theorem poolReturns_kD : (Rows.poolReturnsRow.named == Tryz.pinned.checked.prog.varsNamed 4) = true := by kernel_rfl
theorem poolReturns_closed : joinedFacts Tryz.pinned.checked.prog 4 Tryz.f4 Rows.poolReturnsSpec Rows.poolReturnsRow = true := by
  simp only [joinedFacts, poolReturns_kA, poolReturns_kB, poolReturns_kC, poolReturns_kD, Bool.and_true]
  kernel_rfl
end Go.Proofs.YtcoimlclclnlkaaGreatDoor
