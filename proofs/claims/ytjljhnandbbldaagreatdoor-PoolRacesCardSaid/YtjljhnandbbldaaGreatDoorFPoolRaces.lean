/- The closed facts of the row of PoolRaces (asked of the kernel, the great ones one by one). Conditions: none. -/
import Derived.Test.YtjljhnandbbldaaGreatDoorRows
import Derived.JoinedOf
namespace Go.Proofs.YtjljhnandbbldaaGreatDoor
open Go
set_option maxRecDepth 100000
theorem poolRaces_kA : (Rows.poolRacesRow.inPlace == Tryz.pinned.checked.prog.inPlace 6) = true := by kernel_rfl
theorem poolRaces_kB : (Rows.poolRacesRow.unfollowed == Tryz.pinned.checked.prog.unfollowed 6) = true := by kernel_rfl
theorem poolRaces_kC : (Rows.poolRacesRow.recurses == Tryz.pinned.checked.prog.recurses 6) = true := by kernel_rfl
theorem poolRaces_kD : (Rows.poolRacesRow.named == Tryz.pinned.checked.prog.varsNamed 6) = true := by kernel_rfl
theorem poolRaces_closed : joinedFacts Tryz.pinned.checked.prog 6 Tryz.f6 Rows.poolRacesSpec Rows.poolRacesRow = true := by
  simp only [joinedFacts, poolRaces_kA, poolRaces_kB, poolRaces_kC, poolRaces_kD, Bool.and_true]
  kernel_rfl
end Go.Proofs.YtjljhnandbbldaaGreatDoor
