/- The closed facts of the row of 'SoloAgain'. -/
import Derived.Test.YtnlefnhdhigecaaGreatDoorRows
import Derived.JoinedOf
import Derived.RowKit
namespace Go.Proofs.YtnlefnhdhigecaaGreatDoor
open Go.RowKit
theorem soloAgain_j1 : (Rows.soloAgainRow.inPlace == Tryz.prog.inPlace 6) = true := by kernel_rfl
theorem soloAgain_j2 : (Rows.soloAgainRow.unfollowed == Tryz.prog.unfollowed 6) = true := by kernel_rfl
theorem soloAgain_j3 : (Rows.soloAgainRow.recurses == Tryz.prog.recurses 6) = true := by kernel_rfl
theorem soloAgain_j4 : (Rows.soloAgainRow.named == Tryz.prog.varsNamed 6) = true := by kernel_rfl
theorem soloAgain_jf : joinedFacts Tryz.prog 6 Tryz.f6 Rows.soloAgainSpec Rows.soloAgainRow = true := by
  unfold joinedFacts
  rw [soloAgain_j1, soloAgain_j2, soloAgain_j3, soloAgain_j4]
  kernel_rfl
end Go.Proofs.YtnlefnhdhigecaaGreatDoor
