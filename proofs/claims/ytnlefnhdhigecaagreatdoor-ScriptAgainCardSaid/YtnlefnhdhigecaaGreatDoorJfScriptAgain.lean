/- The closed facts of the row of 'ScriptAgain'. -/
import Derived.Test.YtnlefnhdhigecaaGreatDoorRows
import Derived.JoinedOf
import Derived.RowKit
namespace Go.Proofs.YtnlefnhdhigecaaGreatDoor
open Go.RowKit
theorem scriptAgain_j1 : (Rows.scriptAgainRow.inPlace == Tryz.prog.inPlace 12) = true := by kernel_rfl
theorem scriptAgain_j2 : (Rows.scriptAgainRow.unfollowed == Tryz.prog.unfollowed 12) = true := by kernel_rfl
theorem scriptAgain_j3 : (Rows.scriptAgainRow.recurses == Tryz.prog.recurses 12) = true := by kernel_rfl
theorem scriptAgain_j4 : (Rows.scriptAgainRow.named == Tryz.prog.varsNamed 12) = true := by kernel_rfl
theorem scriptAgain_jf : joinedFacts Tryz.prog 12 Tryz.f12 Rows.scriptAgainSpec Rows.scriptAgainRow = true := by
  unfold joinedFacts
  rw [scriptAgain_j1, scriptAgain_j2, scriptAgain_j3, scriptAgain_j4]
  kernel_rfl
end Go.Proofs.YtnlefnhdhigecaaGreatDoor
