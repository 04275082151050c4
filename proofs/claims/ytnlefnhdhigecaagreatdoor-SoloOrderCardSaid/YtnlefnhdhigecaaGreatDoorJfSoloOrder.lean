/- The closed facts of the row of 'SoloOrder'. -/
import Derived.Test.YtnlefnhdhigecaaGreatDoorRows
import Derived.JoinedOf
import Derived.RowKit
namespace Go.Proofs.YtnlefnhdhigecaaGreatDoor
open Go.RowKit
theorem soloOrder_j1 : (Rows.soloOrderRow.inPlace == Tryz.prog.inPlace 4) = true := by kernel_rfl
theorem soloOrder_j2 : (Rows.soloOrderRow.unfollowed == Tryz.prog.unfollowed 4) = true := by kernel_rfl
theorem soloOrder_j3 : (Rows.soloOrderRow.recurses == Tryz.prog.recurses 4) = true := by kernel_rfl
theorem soloOrder_j4 : (Rows.soloOrderRow.named == Tryz.prog.varsNamed 4) = true := by kernel_rfl
theorem soloOrder_jf : joinedFacts Tryz.prog 4 Tryz.f4 Rows.soloOrderSpec Rows.soloOrderRow = true := by
  unfold joinedFacts
  rw [soloOrder_j1, soloOrder_j2, soloOrder_j3, soloOrder_j4]
  kernel_rfl
end Go.Proofs.YtnlefnhdhigecaaGreatDoor
