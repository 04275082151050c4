/- The closed facts of the row of 'SoloGone'. -/
import Derived.Test.YtnkhmkcpdgmjmaaGreatDoorRows
import Derived.JoinedOf
import Derived.RowKit
namespace Go.Proofs.YtnkhmkcpdgmjmaaGreatDoor
open Go.RowKit
theorem soloGone_j1 : (Rows.soloGoneRow.inPlace == Tryz.prog.inPlace 4) = true := by kernel_rfl
theorem soloGone_j2 : (Rows.soloGoneRow.unfollowed == Tryz.prog.unfollowed 4) = true := by kernel_rfl
theorem soloGone_j3 : (Rows.soloGoneRow.recurses == Tryz.prog.recurses 4) = true := by kernel_rfl
theorem soloGone_j4 : (Rows.soloGoneRow.named == Tryz.prog.varsNamed 4) = true := by kernel_rfl
theorem soloGone_jf : joinedFacts Tryz.prog 4 Tryz.f4 Rows.soloGoneSpec Rows.soloGoneRow = true := by
  unfold joinedFacts
  rw [soloGone_j1, soloGone_j2, soloGone_j3, soloGone_j4]
  kernel_rfl
end Go.Proofs.YtnkhmkcpdgmjmaaGreatDoor
