/- The closed facts of the row of PoolNew (asked of the kernel, the great ones one by one). Conditions: none. -/
import Derived.Test.YtcoimlclclnlkaaGreatDoorRows
import Derived.JoinedOf
namespace Go.Proofs.YtcoimlclclnlkaaGreatDoor
open Go
set_option maxRecDepth 100000
theorem poolNew_kA : (Rows.poolNewRow.inPlace == Tryz.pinned.checked.prog.inPlace 5) = true := by kernel_rfl
theorem poolNew_kB : (Rows.poolNewRow.unfollowed == Tryz.pinned.checked.prog.unfollowed 5) = true := by kernel_rfl
theorem poolNew_kC : (Rows.poolNewRow.recurses == Tryz.pinned.checked.prog.recurses 5) = true := by kernel_rfl
theorem poolNew_kD : (Rows.poolNewRow.named == Tryz.pinned.checked.prog.varsNamed 5) = true := by kernel_rfl
theorem poolNew_closed : joinedFacts Tryz.pinned.checked.prog 5 Tryz.f5 Rows.poolNewSpec Rows.poolNewRow = true := by
  simp only [joinedFacts, poolNew_kA, poolNew_kB, poolNew_kC, poolNew_kD, Bool.and_true]
  kernel_rfl
end Go.Proofs.YtcoimlclclnlkaaGreatDoor
