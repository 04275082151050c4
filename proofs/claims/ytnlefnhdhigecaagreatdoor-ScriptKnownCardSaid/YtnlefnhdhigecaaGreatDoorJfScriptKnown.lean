/- The closed facts of the row of 'ScriptKnown'. -/
import Derived.Test.YtnlefnhdhigecaaGreatDoorRows
import Derived.JoinedOf
import Derived.RowKit
namespace Go.Proofs.YtnlefnhdhigecaaGreatDoor
open Go.RowKit
theorem scriptKnown_j1 : (Rows.scriptKnownRow.inPlace == Tryz.prog.inPlace 9) = true := by kernel_rfl
theorem scriptKnown_j2 : (Rows.scriptKnownRow.unfollowed == Tryz.prog.unfollowed 9) = true := by kernel_rfl
theorem scriptKnown_j3 : (Rows.scriptKnownRow.recurses == Tryz.prog.recurses 9) = true := by kernel_rfl
theorem scriptKnown_j4 : (Rows.scriptKnownRow.named == Tryz.prog.varsNamed 9) = true := by kernel_rfl
theorem scriptKnown_jf : joinedFacts Tryz.prog 9 Tryz.f9 Rows.scriptKnownSpec Rows.scriptKnownRow = true := by
  unfold joinedFacts
  rw [scriptKnown_j1, scriptKnown_j2, scriptKnown_j3, scriptKnown_j4]
  kernel_rfl
end Go.Proofs.YtnlefnhdhigecaaGreatDoor
