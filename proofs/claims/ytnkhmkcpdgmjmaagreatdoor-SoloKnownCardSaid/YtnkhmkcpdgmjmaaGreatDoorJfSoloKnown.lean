/- The closed facts of the row of 'SoloKnown'. -/
import Derived.Test.YtnkhmkcpdgmjmaaGreatDoorRows
import Derived.JoinedOf
import Derived.RowKit
namespace Go.Proofs.YtnkhmkcpdgmjmaaGreatDoor
open Go.RowKit
theorem soloKnown_j1 : (Rows.soloKnownRow.inPlace == Tryz.prog.inPlace 5) = true := by kernel_rfl
theorem soloKnown_j2 : (Rows.soloKnownRow.unfollowed == Tryz.prog.unfollowed 5) = true := by kernel_rfl
theorem soloKnown_j3 : (Rows.soloKnownRow.recurses == Tryz.prog.recurses 5) = true := by kernel_rfl
theorem soloKnown_j4 : (Rows.soloKnownRow.named == Tryz.prog.varsNamed 5) = true := by kernel_rfl
theorem soloKnown_jf : joinedFacts Tryz.prog 5 Tryz.f5 Rows.soloKnownSpec Rows.soloKnownRow = true := by
  unfold joinedFacts
  rw [soloKnown_j1, soloKnown_j2, soloKnown_j3, soloKnown_j4]
  kernel_rfl
end Go.Proofs.YtnkhmkcpdgmjmaaGreatDoor
