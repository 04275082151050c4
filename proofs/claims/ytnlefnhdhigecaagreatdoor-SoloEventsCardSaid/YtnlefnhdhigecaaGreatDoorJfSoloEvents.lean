/- The closed facts of the row of 'SoloEvents'. -/
import Derived.Test.YtnlefnhdhigecaaGreatDoorRows
import Derived.JoinedOf
import Derived.RowKit
namespace Go.Proofs.YtnlefnhdhigecaaGreatDoor
open Go.RowKit
theorem soloEvents_j1 : (Rows.soloEventsRow.inPlace == Tryz.prog.inPlace 5) = true := by kernel_rfl
theorem soloEvents_j2 : (Rows.soloEventsRow.unfollowed == Tryz.prog.unfollowed 5) = true := by kernel_rfl
theorem soloEvents_j3 : (Rows.soloEventsRow.recurses == Tryz.prog.recurses 5) = true := by kernel_rfl
theorem soloEvents_j4 : (Rows.soloEventsRow.named == Tryz.prog.varsNamed 5) = true := by kernel_rfl
theorem soloEvents_jf : joinedFacts Tryz.prog 5 Tryz.f5 Rows.soloEventsSpec Rows.soloEventsRow = true := by
  unfold joinedFacts
  rw [soloEvents_j1, soloEvents_j2, soloEvents_j3, soloEvents_j4]
  kernel_rfl
end Go.Proofs.YtnlefnhdhigecaaGreatDoor
