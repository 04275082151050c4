/- The closed facts of the row of 'ScriptForms'. -/
import Derived.Test.YtnlefnhdhigecaaGreatDoorRows
import Derived.JoinedOf
import Derived.RowKit
namespace Go.Proofs.YtnlefnhdhigecaaGreatDoor
open Go.RowKit
theorem scriptForms_j1 : (Rows.scriptFormsRow.inPlace == Tryz.prog.inPlace 10) = true := by kernel_rfl
theorem scriptForms_j2 : (Rows.scriptFormsRow.unfollowed == Tryz.prog.unfollowed 10) = true := by kernel_rfl
theorem scriptForms_j3 : (Rows.scriptFormsRow.recurses == Tryz.prog.recurses 10) = true := by kernel_rfl
theorem scriptForms_j4 : (Rows.scriptFormsRow.named == Tryz.prog.varsNamed 10) = true := by kernel_rfl
theorem scriptForms_jf : joinedFacts Tryz.prog 10 Tryz.f10 Rows.scriptFormsSpec Rows.scriptFormsRow = true := by
  unfold joinedFacts
  rw [scriptForms_j1, scriptForms_j2, scriptForms_j3, scriptForms_j4]
  kernel_rfl
end Go.Proofs.YtnlefnhdhigecaaGreatDoor
