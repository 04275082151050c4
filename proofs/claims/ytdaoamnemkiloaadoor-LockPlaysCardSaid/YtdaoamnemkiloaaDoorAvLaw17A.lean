/- Walk of package aviarylaw17: awake. -/
import Derived.Test.YtdaoamnemkiloaaDoorAvWLockC
namespace Go.Proofs.YtdaoamnemkiloaaDoor
set_option maxRecDepth 100000
open Go.RowKit Av

def sAB : ByteArray := ⟨#[47, 97, 47, 98]⟩
def sA : ByteArray := ⟨#[47, 97]⟩
theorem wr1 : wrongL [] 1 [sAB] = none := by decide +kernel
theorem tk1 : takeL [] 1 [sAB] = [(sAB, 1)] := by decide +kernel
theorem bl1 : blocksL [(sAB, 1)] 2 sA = true := by decide +kernel
theorem bl2 : blocksL [(sAB, 1)] 1 sA = false := by decide +kernel

/-- One string laid as a slice of its own. -/
theorem strs_one (w : World) (s : ByteArray) : Strs (w.alloc (.cells #[.string s] 9)) (.slice (some ⟨w.heap.size, 0, none⟩) 1 1) [s] :=
  Strs.of_block (xs := [s]) (heap_alloc_new w _) (by simp [maxLen]) (by simp)

set_option maxHeartbeats 400000 in
theorem awake_any (w : World) (hG : GL w) : Calls Tryd.prog 8 #[] w fun e w' => e = .returned (.bool true) ∧ Ext w w' := by
  go_enter Tryd.func8, Tryd.ntmps8
  go_wp2_with (fail)
  refine (lockNew_any w).mono ?_
  rintro e w1 ⟨b, m, rfl, h1, hb, hm, hx1⟩
  go_wp2_with (fail)
  have hlt := h1.lt
  have ht := take_any b m [] 1 _ [sAB] _ (h1.ext ((Kp.refl (fun _ => False) w1).alloc _)) ((hG.ext hx1).ext ((Kp.refl (fun _ => False) w1).alloc _)) (strs_one w1 sAB) (by simp [sAB, maxLen]; decide) (by
    intro _ x hx; simp [Value.ownBlock] at hx; omega)
  rw [wr1, tk1] at ht
  refine ht.mono ?_
  rintro e w2 ⟨rfl, h2, hk2⟩
  have hkx : Ext w w2 := ((hx1.alloc _).next hk2 (fun i hi e => by subst e; omega))
  have hb1 := blocks_any b m _ 2 sA w2 h2 (hG.ext hkx) (by decide)
  rw [bl1] at hb1
  go_wp2_with (fail)
  refine hb1.mono ?_
  rintro e w3 ⟨rfl, hx3⟩
  have hb2 := blocks_any b m _ 1 sA w3 (h2.ext hx3) ((hG.ext hkx).ext hx3) (by decide)
  rw [bl2] at hb2
  go_wp2_with (fail)
  refine hb2.mono ?_
  rintro e w4 ⟨rfl, hx4⟩
  have hl := lockLen_any b m _ w4 ((h2.ext hx3).ext hx4)
  go_wp2_with (fail)
  refine hl.mono ?_
  rintro e w5 ⟨rfl, rfl⟩
  go_wp2_with (fail)
  go_ret
  exact ⟨rfl, (hkx.ext hx3).ext hx4⟩
end Go.Proofs.YtdaoamnemkiloaaDoor
