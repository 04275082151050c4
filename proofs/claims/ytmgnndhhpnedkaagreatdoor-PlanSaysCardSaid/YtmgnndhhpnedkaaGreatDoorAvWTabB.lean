/- Walks of the law's helper: table. -/
import Derived.Test.YtmgnndhhpnedkaaGreatDoorAvWTab
namespace Go.Proofs.YtmgnndhhpnedkaaGreatDoor
set_option maxRecDepth 100000
open Go.RowKit Av

/-- Numbers that can be read. -/
def IntsR (w : World) (v : Value) (l : List Int) : Prop := Sl w 1 v l.length (l.map (Value.int .i64)) ∧ Shp v
theorem IntsR.ext {w w' : World} {v : Value} {l : List Int} (h : IntsR w v l) (k : Ext w w') : IntsR w' v l := ⟨Sl.ext h.1 k, h.2⟩
theorem IntsR.open {w : World} {v : Value} {l : List Int} (h : IntsR w v l) : ∃ a c, v = .slice a l.length c ∧ l.length ≤ c ∧ l.length ≤ maxLen ∧ (0 < l.length → ∃ b off, a = some ⟨b, off, none⟩ ∧ b < w.heap.size ∧ ∀ i (hi : i < l.length), w.cell? ⟨b, off + i, none⟩ = some (.int .i64 l[i])) := by
  obtain ⟨a, c, rfl, hcc, h1, h2, h3⟩ := Sl.open h.1
  refine ⟨a, c, rfl, hcc, h1, fun hn => ?_⟩
  obtain ⟨b, off, rfl, hb, hc⟩ := h3 hn
  exact ⟨b, off, rfl, hb, fun i hi => hc i _ (by rw [List.getElem?_map, List.getElem?_eq_getElem hi]; rfl)⟩
def TbRel (w : World) (b m rb sh : Nat) (l : List Int) (i : Value) (W : World) : Prop :=
  ∃ k : Nat, k ≤ min l.length 5 ∧ i = .int .i64 k ∧ TabAt W b m sh (mvTo sh l k) ∧ (∃ lv, RTab W rb sh lv (mvTo sh l k) ∧ ∀ i, lv.ownBlock = some i → i ≠ b ∧ i ≠ m) ∧ Ext w W
def TablePost (w : World) (sh : Nat) (mv : Moved) (e : Ending) (w' : World) : Prop :=
  ∃ b m rb lv, e = .returned (.tuple #[.pointer (some ⟨b, 0, none⟩), .pointer (some ⟨rb, 0, none⟩)]) ∧ TabAt w' b m sh mv ∧ RTab w' rb sh lv mv ∧ Ext w w' ∧ rb ≠ b ∧ rb ≠ m ∧ (∀ i, lv.ownBlock = some i → i ≠ b ∧ i ≠ m) ∧ w.heap.size ≤ b ∧ w.heap.size ≤ m ∧ w.heap.size ≤ rb
abbrev nmsC : Array Value := #[.string ⟨#[97]⟩, .string ⟨#[98]⟩, .string ⟨#[99]⟩, .string ⟨#[100]⟩, .string ⟨#[101]⟩]
theorem nms_cell {w : World} {g : Nat} {T : TypeId} (h : Blk w g nmsC T) {k : Nat} (hk : k < 5) : w.cell? ⟨g, k, none⟩ = some (.string (nmB k)) := by
  have hk' : k = 0 ∨ k = 1 ∨ k = 2 ∨ k = 3 ∨ k = 4 := by omega
  rcases hk' with rfl | rfl | rfl | rfl | rfl
  · exact h.cell 0 _ rfl
  · exact h.cell 1 _ rfl
  · exact h.cell 2 _ rfl
  · exact h.cell 3 _ rfl
  · exact h.cell 4 _ rfl
set_option maxHeartbeats 3200000 in
theorem table_any (sh : Nat) (v : Value) (l : List Int) (w : World) (h1 : 1 ≤ sh) (h4 : sh ≤ 4) (hG : GL w) (hv : IntsR w v l) :
    Calls Tryz.prog 7 #[.int .i64 sh, v] w fun e w' => TablePost w sh (mvTo sh l (min l.length 5)) e w' := by
  have HN := Lib.hid (rouNew_any sh w h1 h4)
  have HG := Lib.hid hG
  obtain ⟨a, c, rfl, hcc, hm, hop⟩ := hv.open
  have HO := Lib.hid hop
  unfold maxLen at hm
  clear hv hop hG
  go_enter Tryz.func7, Tryz.ntmps7
  go_wp2_with (fail)
  refine HN.out.mono ?_
  rintro e w1 ⟨rfl, ht, hx1⟩
  have HT := Lib.hid ht
  have HX1 := Lib.hid hx1
  clear ht hx1 HN
  go_wp2_with (fail)
  refine (refNewTable_any sh w1).mono ?_
  rintro e w2 ⟨rfl, hr, hx2⟩
  have HR := Lib.hid hr
  have HX2 := Lib.hid hx2
  have z1 := HT.out.lt
  have HZ : Hid (w.heap.size + 1 < w1.heap.size) := z1.1
  clear hr hx2 z1
  go_wp2_with (fail)
  go_loopw [9] (fun i W => TbRel w (w.heap.size + 1) w.heap.size w1.heap.size sh l i W) (fun i _ => l.length - (intOf i).toNat)
  case atStart => exact ⟨0, Nat.zero_le _, rfl, HT.out.ext HX2.out, ⟨_, HR.out, fun i hi => by simp [Value.ownBlock] at hi⟩, HX1.out.ext HX2.out⟩
  case round =>
    obtain ⟨k, hk, rfl, hta, ⟨lv, hrt, hlv⟩, hxr⟩ := hrel
    clear HT HR
    have HT := Lib.hid hta
    have HR := Lib.hid hrt
    have HLV := Lib.hid hlv
    have HXR := Lib.hid hxr
    clear hta hrt hlv hxr
    have hk1 : k ≤ l.length := by omega
    have hk5 : k ≤ 5 := by omega
    by_cases hc : k < l.length
    · by_cases hc5 : k < 5
      · obtain ⟨g, off, rfl, hg, hcl⟩ := HO.out (by omega)
        have hcell := hcl k hc
        have k1 : (k : Int) < l.length := by omega
        have k2 : (k : Int) < 5 := by omega
        have hgd : l.getD k 0 = l[k] := by simp [List.getD, List.getElem?_eq_getElem hc]
        obtain ⟨s, hs⟩ : ∃ s, l[k] = s := ⟨_, rfl⟩
        rw [hs] at hcell hgd
        obtain ⟨WA, hWA⟩ : ∃ WA, wr.alloc (.cells nmsC 9) = WA := ⟨_, rfl⟩
        have hxA : Ext wr WA := by rw [← hWA]; exact (Kp.refl _ _).alloc _
        have hbA : Blk WA wr.heap.size nmsC 9 := by rw [← hWA]; exact heap_alloc_new wr _
        have hnm := nms_cell hbA hc5
        have hm1 := HXR.out.ext hxA
        have c1 := hm1.cell hcell (fun f => f)
        have HCM := Lib.hid (rouMove_any (w.heap.size + 1) w.heap.size sh (mvTo sh l k) (nmB k) s WA (HT.out.ext hxA) (HG.out.ext hm1) (by show 1 + 1 ≤ _; unfold maxLen; omega))
        rw [moveT_add sh l k hc5 s] at HCM
        have HNX : Hid (mvTo sh l (k + 1) = addM sh (mvTo sh l k) (nmB k) s) := by show _ = _; rw [mvTo, hgd]
        have HXA := Lib.hid hm1
        have HRA := Lib.hid (HR.out.ext hxA)
        have HC := Lib.hid hcell
        have HNM : Hid (nameR (nmB k).data.toList = true ∧ ∀ e ∈ mvTo sh l k, Op.bytesLess e.1.toList (nmB k).toList = true) := ⟨(nmB_top k hc5).2.2, fun e he => by obtain ⟨j, hj, e1⟩ := mvTo_mem sh l k e he; rw [e1]; exact (nmB_lt k hc5 j hj).1⟩
        have HLN : Hid ((mvTo sh l k).length < 50) := by show _ < _; have := mvTo_len sh l k; omega
        generalize hnb : nmB k = nb at *
        clear hcell hxA hbA hm1 hcl hgd hs HR
        go_wp2_with (fail)
        refine HCM.out.mono ?_
        rintro e w3 ⟨rfl, ht3, hk3⟩
        have hx3 : Ext w w3 := HXA.out.next hk3 (fun i hi e => by omega)
        have c2 := hx3.cell HC.out (fun f => f)
        have hr3 := HRA.out.kp hk3 (fun e => by have := HZ.out; omega) (fun i hi e => by have := HLV.out i hi; omega)
        have HCR := Lib.hid (refMove_any w1.heap.size sh lv (mvTo sh l k) nb s w3 hr3 (by rw [← hnb]; show 1 ≤ _; unfold maxLen; omega) HNM.out.1 HLN.out HNM.out.2)
        have HT3 := Lib.hid ht3
        have HX3 := Lib.hid hx3
        clear hk3 hx3 hr3 ht3 HCM hnm c1
        go_wp2_with (fail)
        refine HCR.out.mono ?_
        rintro e w4 ⟨⟨v4, rfl⟩, ⟨lv4, hr4, ho4⟩, hk4⟩
        have HR4 := Lib.hid hr4
        have hx4 : Ext w w4 := HX3.out.next hk4 (fun i hi e => by have := HZ.out; omega)
        have HX4 := Lib.hid hx4
        have HT4 := Lib.hid (HT3.out.kp hk4 (fun e => by have := HZ.out; omega) (fun e => by have := HZ.out; omega))
        have HLV4 : Hid (∀ i, lv4.ownBlock = some i → i ≠ w.heap.size + 1 ∧ i ≠ w.heap.size) := by
          intro i hi
          rcases ho4 i hi with h | h
          · exact HLV.out i h
          · have := HT3.out.lt; omega
        clear hr4 ho4 hk4 hx4 HCR
        go_wp2_with (fail)
        go_light
        exact ⟨⟨k + 1, by omega, by go_num, by rw [HNX.out]; exact HT4.out, ⟨lv4, by rw [HNX.out]; exact HR4.out, HLV4.out⟩, HX4.out⟩, by simp [intOf]; omega⟩
      · have hke : k = min l.length 5 := by omega
        have k1 : (k : Int) < l.length := by omega
        have k2 : ¬ (k : Int) < 5 := by omega
        have HE := Lib.hid hke
        clear hke hcc hm hk hk1 hk5
        go_wp2_with (fail)
        go_ret2
        go_light
        rw [← HE.out]
        exact ⟨_, _, _, lv, rfl, HT.out, HR.out, HXR.out, by have := HZ.out; omega, by have := HZ.out; omega, HLV.out, by omega, Nat.le_refl _, by have := HZ.out; omega⟩
    · have hke : k = min l.length 5 := by omega
      have k1 : ¬ (k : Int) < l.length := by omega
      have HE := Lib.hid hke
      clear hke hcc hm hk hk1 hk5
      go_wp2_with (fail)
      go_ret2
      go_light
      rw [← HE.out]
      exact ⟨_, _, _, lv, rfl, HT.out, HR.out, HXR.out, by have := HZ.out; omega, by have := HZ.out; omega, HLV.out, by omega, Nat.le_refl _, by have := HZ.out; omega⟩
end Go.Proofs.YtmgnndhhpnedkaaGreatDoor
