/- Walks of package aviaryref1: Parts, Good, Top, Parent. -/
import Derived.Test.YtkpcmbgnaenbhaaDoorAvWRefB
namespace Go.Proofs.YtkpcmbgnaenbhaaDoor
set_option maxRecDepth 100000
open Go.RowKit Av

theorem parts_no (p : Bs) (h : goodL p = false) : partsL p = [] := by simp [partsL, h]
theorem parts_cut (t : Bs) (h : t.length < 200) : partsL (47 :: t) = if (cut t).length ≤ 8 then (if (cut t).all nameL then cut t else []) else [] := by
  unfold partsL
  rw [good_cons t h]
  by_cases h8 : (cut t).length ≤ 8
  · by_cases ha : (cut t).all nameL = true
    · simp [h8, ha]
    · have : (cut t).all nameL = false := by simpa using ha
      simp [h8, this]
  · simp [h8]

end Go.Proofs.YtkpcmbgnaenbhaaDoor
