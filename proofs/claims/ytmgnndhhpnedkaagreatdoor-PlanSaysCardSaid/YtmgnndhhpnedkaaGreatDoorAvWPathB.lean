/- Walks of package path: Parts, Parent. -/
import Derived.Test.YtmgnndhhpnedkaaGreatDoorAvWPath
import Derived.Test.YtmgnndhhpnedkaaGreatDoorAvLock
namespace Go.Proofs.YtmgnndhhpnedkaaGreatDoor
set_option maxRecDepth 100000
open Go.RowKit Av

/-- A slice of the pieces, of its own. -/
def PartsPost (w : World) (l : List Bs) (e : Ending) (w' : World) : Prop :=
  ∃ (v : Value) (ps : List ByteArray), e = .returned v ∧ ps.map (·.data.toList) = l ∧ Strs w' v ps ∧ Ext w w'

theorem extract_tail (p : ByteArray) (t : Bs) (h : p.data.toList = 47 :: t) : (p.extract 1 p.size).data.toList = t := by
  rw [Lib.extract_data, h, Lib.size_eq, h]; simp

set_option maxHeartbeats 400000 in
theorem Parts_any (p : ByteArray) (w : World) (hG : GL w) (hp : p.size ≤ maxLen) :
    Calls Tryz.prog 54 #[.string p] w fun e w' => PartsPost w (partsL p.data.toList) e w' := by
  have HGd := Lib.hid (Good_any p w hG hp)
  unfold maxLen at hp
  by_cases hg : goodL p.data.toList = true
  · obtain ⟨t, ht, h1, h2, h3, h4⟩ := good_head _ hg
    have h200 : p.size ≤ 200 := by rw [Lib.size_eq, ht]; simp; omega
    have h0 : 1 ≤ p.size := by rw [Lib.size_eq, ht]; simp
    have HX := Lib.hid (extract_tail p t ht)
    have H4 := Lib.hid h4
    have hsz : (p.extract 1 p.size).size < 4294967281 := by rw [Lib.size_eq, HX.out]; omega
    have HZ := Lib.hid hsz
    have HG := Lib.hid hg
    clear hg ht h1 h2 h3 h4 hsz
    go_enter Tryz.func54, Tryz.ntmps54
    go_wp2_with (fail)
    refine HGd.out.mono ?_
    rintro e w' ⟨rfl, hx⟩
    rw [HG.out]
    go_wp2_with (fail)
    refine (Split_any _ _ (hG.ext hx) HZ.out).mono ?_
    rintro e w1 ⟨b, ps, hps, rfl, hn, hb, hc, hx1⟩
    go_wp2_with (fail)
    go_ret
    go_light
    exact ⟨.slice (some ⟨b, 0, none⟩) ps.length ps.length, ps, rfl, by rw [hps, HX.out, H4.out], Strs.of_cells hn (Nat.le_refl _) hb (fun i hi => by rw [Nat.zero_add]; exact hc i hi), hx.ext hx1⟩
  · have HG : Hid (goodL p.data.toList = false) := by show goodL p.data.toList = false; simpa using hg
    clear hg
    go_enter Tryz.func54, Tryz.ntmps54
    go_wp2_with (fail)
    refine HGd.out.mono ?_
    rintro e w' ⟨rfl, hx⟩
    rw [HG.out]
    go_wp2_with (fail)
    go_ret
    exact ⟨.slice none 0 0, [], rfl, by simp [partsL, HG.out], Strs.nil _, hx⟩

theorem parent_none (p : Bs) (h : (partsL p).length < 2) : parentL p = none := by simp [parentL, h]
theorem parent_some (p : Bs) (h : 2 ≤ (partsL p).length) : parentL p = some (ofL (partsL p).dropLast) := by
  unfold parentL; rw [if_neg (by omega)]

end Go.Proofs.YtmgnndhhpnedkaaGreatDoor
