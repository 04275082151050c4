/- The closed facts of the row of 'SoloReads'. -/
import Derived.Test.YtnlefnhdhigecaaGreatDoorRows
import Derived.JoinedOf
import Derived.RowKit
namespace Go.Proofs.YtnlefnhdhigecaaGreatDoor
open Go.RowKit
theorem soloReads_j1 : (Rows.soloReadsRow.inPlace == Tryz.prog.inPlace 7) = true := by kernel_rfl
theorem soloReads_j2 : (Rows.soloReadsRow.unfollowed == Tryz.prog.unfollowed 7) = true := by kernel_rfl
theorem soloReads_j3 : (Rows.soloReadsRow.recurses == Tryz.prog.recurses 7) = true := by kernel_rfl
theorem soloReads_j4 : (Rows.soloReadsRow.named == Tryz.prog.varsNamed 7) = true := by kernel_rfl
theorem soloReads_jf : joinedFacts Tryz.prog 7 Tryz.f7 Rows.soloReadsSpec Rows.soloReadsRow = true := by
  unfold joinedFacts
  rw [soloReads_j1, soloReads_j2, soloReads_j3, soloReads_j4]
  kernel_rfl
end Go.Proofs.YtnlefnhdhigecaaGreatDoor
