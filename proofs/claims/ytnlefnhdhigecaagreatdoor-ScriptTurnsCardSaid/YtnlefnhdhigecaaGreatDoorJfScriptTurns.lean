/- The closed facts of the row of 'ScriptTurns'. -/
import Derived.Test.YtnlefnhdhigecaaGreatDoorRows
import Derived.JoinedOf
import Derived.RowKit
namespace Go.Proofs.YtnlefnhdhigecaaGreatDoor
open Go.RowKit
theorem scriptTurns_j1 : (Rows.scriptTurnsRow.inPlace == Tryz.prog.inPlace 11) = true := by kernel_rfl
theorem scriptTurns_j2 : (Rows.scriptTurnsRow.unfollowed == Tryz.prog.unfollowed 11) = true := by kernel_rfl
theorem scriptTurns_j3 : (Rows.scriptTurnsRow.recurses == Tryz.prog.recurses 11) = true := by kernel_rfl
theorem scriptTurns_j4 : (Rows.scriptTurnsRow.named == Tryz.prog.varsNamed 11) = true := by kernel_rfl
theorem scriptTurns_jf : joinedFacts Tryz.prog 11 Tryz.f11 Rows.scriptTurnsSpec Rows.scriptTurnsRow = true := by
  unfold joinedFacts
  rw [scriptTurns_j1, scriptTurns_j2, scriptTurns_j3, scriptTurns_j4]
  kernel_rfl
end Go.Proofs.YtnlefnhdhigecaaGreatDoor
