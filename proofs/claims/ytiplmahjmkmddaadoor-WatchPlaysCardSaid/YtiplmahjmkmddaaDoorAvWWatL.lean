/- Walks: watches: Len. -/
import Derived.Test.YtiplmahjmkmddaaDoorAvWWatG
namespace Go.Proofs.YtiplmahjmkmddaaDoor
set_option maxRecDepth 100000
open Go.RowKit Av

set_option maxHeartbeats 800000 in
theorem watLen_any (b : Nat) (ro : Option Nat) (room : Nat) (l : List Wt) (w : World) (h : WL w b ro room l) : Calls Tryd.prog 10 #[.pointer (some ⟨b, 0, none⟩)] w fun e w' => e = .returned (.int .i64 l.length) ∧ w = w' := by
  obtain ⟨a, c, hb, _⟩ := h.open
  have c1 := hb.cell 1 _ rfl
  clear h hb
  go_enter Tryd.func10, Tryd.ntmps10
  go_wp2_with (fail)
  go_ret
  go_light
  exact ⟨rfl, rfl⟩
end Go.Proofs.YtiplmahjmkmddaaDoor
