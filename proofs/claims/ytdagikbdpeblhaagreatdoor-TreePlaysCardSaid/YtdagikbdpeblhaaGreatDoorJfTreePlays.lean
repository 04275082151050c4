/- The closed facts of the row of 'TreePlays'. -/
import Derived.Test.YtdagikbdpeblhaaGreatDoorRows
import Derived.JoinedOf
import Derived.RowKit
namespace Go.Proofs.YtdagikbdpeblhaaGreatDoor
open Go.RowKit
theorem treePlays_j1 : (Rows.treePlaysRow.inPlace == Tryz.prog.inPlace 3) = true := by kernel_rfl
theorem treePlays_j2 : (Rows.treePlaysRow.unfollowed == Tryz.prog.unfollowed 3) = true := by kernel_rfl
theorem treePlays_j3 : (Rows.treePlaysRow.recurses == Tryz.prog.recurses 3) = true := by kernel_rfl
theorem treePlays_j4 : (Rows.treePlaysRow.named == Tryz.prog.varsNamed 3) = true := by kernel_rfl
theorem treePlays_jf : joinedFacts Tryz.prog 3 Tryz.f3 Rows.treePlaysSpec Rows.treePlaysRow = true := by
  unfold joinedFacts
  rw [treePlays_j1, treePlays_j2, treePlays_j3, treePlays_j4]
  kernel_rfl
end Go.Proofs.YtdagikbdpeblhaaGreatDoor
