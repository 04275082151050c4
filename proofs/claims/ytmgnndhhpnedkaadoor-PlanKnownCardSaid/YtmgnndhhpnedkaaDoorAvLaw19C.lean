/- Walks of package aviarylaw19: PlanKnown. -/
import Derived.Test.YtmgnndhhpnedkaaDoorAvWhole
namespace Go.Proofs.YtmgnndhhpnedkaaDoor
set_option maxRecDepth 100000
open Go.RowKit Av

def knwX : List OpV := [⟨1, ⟨#[47, 98]⟩, ⟨#[]⟩, 0, 0⟩, ⟨1, ⟨#[47, 97]⟩, ⟨#[]⟩, 0, 0⟩, ⟨1, ⟨#[47, 98, 47, 120]⟩, ⟨#[]⟩, 0, 0⟩]
theorem knw_bad : mayR 1 1 [] = 1 := by decide +kernel
theorem knw_may : mayR 1 1 knwX = 0 := by decide +kernel
theorem knw_shards : shardsOf (fT 2 (mvTo 2 [0, 1] 2) knwX) 3 2 = [0, 1] := by decide +kernel
theorem knw_places : placesOf (fT 2 (mvTo 2 [0, 1] 2) knwX) 3 2 = [[1], [0, 2]] := by decide +kernel
theorem knw_v1 : verdict [[1], [0, 2]] [⟨0, 0⟩] = (1, -1) := by decide +kernel
theorem knw_v2 : verdict [[1], [0, 2]] [⟨0, -1⟩, ⟨0, -1⟩] = (0, -1) := by decide +kernel
theorem knw_v3 : verdict [[1], [0, 2]] [⟨4, 0⟩, ⟨12, 1⟩] = (12, 2) := by decide +kernel
theorem knw_v4 : verdict [[1], [0, 2]] [⟨4, 0⟩, ⟨5, 0⟩] = (5, 0) := by decide +kernel
theorem knw_v5 : verdict [[1], [0, 2]] [⟨4, 0⟩, ⟨11, -1⟩] = (11, -1) := by decide +kernel
def rsN (c : UInt8) : ResV := ⟨0, ⟨#[c]⟩, ⟨#[]⟩, 0, 0, 0, 0, 0, 0, 0⟩
theorem knw_misfit : ¬ fitsR [[1], [0, 2]] [[], []] := by intro h; have := h.2 0 (by decide); simp at this
theorem knw_fit : fitsR [[1], [0, 2]] [[rsN 120], [rsN 121, rsN 122]] := ⟨rfl, by intro i hi; have : i = 0 ∨ i = 1 := by (simp at hi; omega)
                                                                                  rcases this with rfl | rfl <;> rfl⟩
theorem knw_put : putTo 3 [[1], [0, 2]] [[rsN 120], [rsN 121, rsN 122]] 2 = [rsN 121, rsN 120, rsN 122] := rfl
theorem knw_row : rowOf [0, 1] [[1], [0, 2]] 5 = [] := by decide +kernel
theorem rows_two {w : World} {g : Nat} {v1 v2 : Value} {r1 r2 : List ResV} (hb : w.heap[g]? = some (.cells #[v1, v2] rsT (0, 0))) (h1 : ResAt w v1 r1) (h2 : ResAt w v2 r2) : RowsS w (.slice (some ⟨g, 0, none⟩) 2 2) [v1, v2] [r1, r2] := by
  refine ⟨rfl, ⟨Sl.of_block hb rfl (by decide) (Nat.le_refl _), Shp.some⟩, fun j j1 j2 => ?_⟩
  have hj : j = 0 ∨ j = 1 := by simp at j1; omega
  rcases hj with rfl | rfl
  · exact h1
  · exact h2
theorem PlanR.nil (w : World) : PlanR w (.slice none 0 0) (.slice none 0 0) (.slice none 0 0) [] [] [] :=
  ⟨OpsAt.nil w, NatsR.nil w, [], ⟨rfl, ⟨Sl.nil w 1, .inl rfl⟩, fun _ h1 => absurd h1 (Nat.not_lt_zero _)⟩⟩
set_option maxHeartbeats 6400000 in
theorem planKnown_any (w : World) (hG : GT w) : Calls Tryd.prog 4 #[] w fun e w' => e = .returned (.bool true) ∧ Ext w w' := by
  have HG := Lib.hid hG
  clear hG
  go_enter Tryd.func4, Tryd.ntmps4
  go_wp2_with (fail)
  refine (awake_any w HG.out).mono ?_
  rintro e w1 ⟨rfl, hx1⟩
  obtain ⟨w2, hW2⟩ : ∃ w2, w1.alloc (.cells #[.int .i64 0, .int .i64 1] inT) = w2 := ⟨_, rfl⟩
  have hx2 : Ext w1 w2 := by rw [← hW2]; exact (Kp.refl _ _).alloc _
  have hi : IntsR w2 (.slice (some ⟨w1.heap.size, 0, none⟩) 2 2) [0, 1] := by
    rw [← hW2]
    exact ⟨Sl.of_block (heap_alloc_new w1 _) rfl (by decide) (Nat.le_refl _), Shp.some⟩
  have HX2 := Lib.hid (hx1.ext hx2)
  have HCT := Lib.hid (table_any 2 _ [0, 1] w2 (by decide) (by decide) (HG.out.ext HX2.out).gl hi)
  clear hx1 hx2 hi
  go_wp2_with (fail)
  refine HCT.out.mono ?_
  rintro e w3 ⟨b, m, rb, lv, rfl, ht, hr, hx3, _, _, _, _, _, _⟩
  have HT := Lib.hid ht
  have HX3 := Lib.hid (HX2.out.ext hx3)
  clear ht hr hx3 HCT hW2
  have HCB := Lib.hid (makeBad_any b 1 1 (.slice none 0 0) [] w3 (HG.out.ext HX3.out) (OpsAt.nil _) (by intro o ho; cases ho) (by rw [knw_bad]; decide))
  rw [knw_bad] at HCB
  go_wp2_with (fail)
  refine HCB.out.mono ?_
  rintro e w4 ⟨rfl, hx4⟩
  have HX4 := Lib.hid (HX3.out.ext hx4)
  have HT4 := Lib.hid (HT.out.ext hx4)
  clear hx4 HCB
  obtain ⟨w5, hW5⟩ : ∃ w5, w4.alloc (.cells #[.int .i64 0, .int .i64 0, .slice none 0 0, .slice none 0 0, .slice none 0 0] plT) = w5 := ⟨_, rfl⟩
  have hx5 : Ext w4 w5 := by rw [← hW5]; exact (Kp.refl _ _).alloc _
  have HX5 := Lib.hid (HX4.out.ext hx5)
  have HT5 := Lib.hid (HT4.out.ext hx5)
  have HW5 := Lib.hid hW5
  clear hx5 hW5
  go_upto_region 5 with (fail)
  rw [HW5.out]
  obtain ⟨w6, hW6⟩ : ∃ w6, w5.alloc (.cells #[.int .i64 1, .string ⟨#[47, 98]⟩, .string ⟨#[]⟩, .int .i64 0, .int .i64 0, .int .i64 1, .string ⟨#[47, 97]⟩, .string ⟨#[]⟩, .int .i64 0, .int .i64 0, .int .i64 1, .string ⟨#[47, 98, 47, 120]⟩, .string ⟨#[]⟩, .int .i64 0, .int .i64 0] opT) = w6 := ⟨_, rfl⟩
  have hx6 : Ext w5 w6 := by rw [← hW6]; exact (Kp.refl _ _).alloc _
  have ho6 : OpsAt w6 (.slice (some ⟨w5.heap.size, 0, none⟩) 3 3) knwX := by
    rw [← hW6]
    exact ⟨Sl.of_block (heap_alloc_new w5 _) rfl (by decide) (Nat.le_refl _), Shp.some⟩
  have HX6 := Lib.hid (HX5.out.ext hx6)
  have HCM := Lib.hid (make_any b m 2 (mvTo 2 [0, 1] 2) 1 1 _ knwX w6 (HT5.out.ext hx6) (HG.out.ext HX6.out) ho6 (by intro o ho; simp only [knwX, List.mem_cons, List.not_mem_nil, or_false] at ho; rcases ho with rfl | rfl | rfl <;> decide) knw_may)
  clear hx6 ho6
  go_wp2_with (fail)
  refine HCM.out.mono ?_
  rintro e w7 ⟨⟨ov, sv, plv, rfl, hp⟩, hx7⟩
  have hp : PlanR w7 ov sv plv knwX [0, 1] [[1], [0, 2]] := by rw [← knw_shards, ← knw_places]; exact hp
  obtain ⟨⟨a1, c1, rfl⟩, ⟨a2, c2, rfl⟩, a3, c3, rfl⟩ := hp.open
  obtain ⟨w8, hW8⟩ : ∃ w8, w7.alloc (.cells #[.int .i64 1, .int .i64 1, .slice a1 knwX.length c1, .slice a2 2 c2, .slice a3 2 c3] plT) = w8 := ⟨_, rfl⟩
  have hx8 : Ext w7 w8 := by rw [← hW8]; exact (Kp.refl _ _).alloc _
  have hb8 : Blk w8 w7.heap.size #[.int .i64 1, .int .i64 1, .slice a1 knwX.length c1, .slice a2 2 c2, .slice a3 2 c3] plT := by rw [← hW8]; exact heap_alloc_new w7 _
  have HX8 := Lib.hid ((HX6.out.ext hx7).ext hx8)
  have HP := Lib.hid (hp.ext hx8)
  have HB := Lib.hid hb8
  have HX_8 : Hid (Ext w8 w8) := Kp.refl _ _
  have HW8 := Lib.hid hW8
  clear hp hx7 hx8 hb8 hW8 hW6 HCM
  go_upto_region 6 with (fail)
  rw [HW8.out]
  obtain ⟨w9, hW9⟩ : ∃ w9, w8.alloc (.cells #[.int .i64 0, .int .i64 0] voT) = w9 := ⟨_, rfl⟩
  have hxa : Ext w8 w9 := by rw [← hW9]; exact (Kp.refl _ _).alloc _
  have hv : VotesAt w9 (.slice (some ⟨w8.heap.size, 0, none⟩) 1 1) [⟨0, 0⟩] := by
    rw [← hW9]
    exact ⟨Sl.of_block (heap_alloc_new w8 _) rfl (by decide) (Nat.le_refl _), Shp.some⟩
  have HCV := Lib.hid (verdict_any 1 1 _ _ _ _ knwX _ _ _ w9 (HP.out.ext (HX_8.out.ext hxa)) rfl hv)
  rw [knw_v1] at HCV
  have HX_9 := Lib.hid (HX_8.out.ext hxa)
  have hb := HB.out.kp HX_8.out (fun f => f)
  have q0 := hb.cell 0 _ rfl
  have q1 := hb.cell 1 _ rfl
  have q2 := hb.cell 2 _ rfl
  have q3 := hb.cell 3 _ rfl
  have q4 := hb.cell 4 _ rfl
  clear hxa hv hb
  go_wp2_with (fail)
  refine HCV.out.mono ?_
  rintro e w10 ⟨rfl, hxb⟩
  have HX_10 := Lib.hid (HX_9.out.ext hxb)
  clear hxb HCV q0 q1 q2 q3 q4 hW9
  obtain ⟨w11, hW11⟩ : ∃ w11, w10.alloc (.cells #[.int .i64 0, .int .i64 (-1), .int .i64 0, .int .i64 (-1)] voT) = w11 := ⟨_, rfl⟩
  have hxa : Ext w10 w11 := by rw [← hW11]; exact (Kp.refl _ _).alloc _
  have hv : VotesAt w11 (.slice (some ⟨w10.heap.size, 0, none⟩) 2 2) [⟨0, -1⟩, ⟨0, -1⟩] := by
    rw [← hW11]
    exact ⟨Sl.of_block (heap_alloc_new w10 _) rfl (by decide) (Nat.le_refl _), Shp.some⟩
  have HCV := Lib.hid (verdict_any 1 1 _ _ _ _ knwX _ _ _ w11 (HP.out.ext (HX_10.out.ext hxa)) rfl hv)
  rw [knw_v2] at HCV
  have HX_11 := Lib.hid (HX_10.out.ext hxa)
  have hb := HB.out.kp HX_10.out (fun f => f)
  have q0 := hb.cell 0 _ rfl
  have q1 := hb.cell 1 _ rfl
  have q2 := hb.cell 2 _ rfl
  have q3 := hb.cell 3 _ rfl
  have q4 := hb.cell 4 _ rfl
  clear hxa hv hb
  go_wp2_with (fail)
  refine HCV.out.mono ?_
  rintro e w12 ⟨rfl, hxb⟩
  have HX_12 := Lib.hid (HX_11.out.ext hxb)
  clear hxb HCV q0 q1 q2 q3 q4 hW11
  obtain ⟨w13, hW13⟩ : ∃ w13, w12.alloc (.cells #[.int .i64 4, .int .i64 0, .int .i64 12, .int .i64 1] voT) = w13 := ⟨_, rfl⟩
  have hxa : Ext w12 w13 := by rw [← hW13]; exact (Kp.refl _ _).alloc _
  have hv : VotesAt w13 (.slice (some ⟨w12.heap.size, 0, none⟩) 2 2) [⟨4, 0⟩, ⟨12, 1⟩] := by
    rw [← hW13]
    exact ⟨Sl.of_block (heap_alloc_new w12 _) rfl (by decide) (Nat.le_refl _), Shp.some⟩
  have HCV := Lib.hid (verdict_any 1 1 _ _ _ _ knwX _ _ _ w13 (HP.out.ext (HX_12.out.ext hxa)) rfl hv)
  rw [knw_v3] at HCV
  have HX_13 := Lib.hid (HX_12.out.ext hxa)
  have hb := HB.out.kp HX_12.out (fun f => f)
  have q0 := hb.cell 0 _ rfl
  have q1 := hb.cell 1 _ rfl
  have q2 := hb.cell 2 _ rfl
  have q3 := hb.cell 3 _ rfl
  have q4 := hb.cell 4 _ rfl
  clear hxa hv hb
  go_wp2_with (fail)
  refine HCV.out.mono ?_
  rintro e w14 ⟨rfl, hxb⟩
  have HX_14 := Lib.hid (HX_13.out.ext hxb)
  clear hxb HCV q0 q1 q2 q3 q4 hW13
  obtain ⟨w15, hW15⟩ : ∃ w15, w14.alloc (.cells #[.int .i64 4, .int .i64 0, .int .i64 5, .int .i64 0] voT) = w15 := ⟨_, rfl⟩
  have hxa : Ext w14 w15 := by rw [← hW15]; exact (Kp.refl _ _).alloc _
  have hv : VotesAt w15 (.slice (some ⟨w14.heap.size, 0, none⟩) 2 2) [⟨4, 0⟩, ⟨5, 0⟩] := by
    rw [← hW15]
    exact ⟨Sl.of_block (heap_alloc_new w14 _) rfl (by decide) (Nat.le_refl _), Shp.some⟩
  have HCV := Lib.hid (verdict_any 1 1 _ _ _ _ knwX _ _ _ w15 (HP.out.ext (HX_14.out.ext hxa)) rfl hv)
  rw [knw_v4] at HCV
  have HX_15 := Lib.hid (HX_14.out.ext hxa)
  have hb := HB.out.kp HX_14.out (fun f => f)
  have q0 := hb.cell 0 _ rfl
  have q1 := hb.cell 1 _ rfl
  have q2 := hb.cell 2 _ rfl
  have q3 := hb.cell 3 _ rfl
  have q4 := hb.cell 4 _ rfl
  clear hxa hv hb
  go_wp2_with (fail)
  refine HCV.out.mono ?_
  rintro e w16 ⟨rfl, hxb⟩
  have HX_16 := Lib.hid (HX_15.out.ext hxb)
  clear hxb HCV q0 q1 q2 q3 q4 hW15
  obtain ⟨w17, hW17⟩ : ∃ w17, w16.alloc (.cells #[.int .i64 4, .int .i64 0, .int .i64 11, .int .i64 (-1)] voT) = w17 := ⟨_, rfl⟩
  have hxa : Ext w16 w17 := by rw [← hW17]; exact (Kp.refl _ _).alloc _
  have hv : VotesAt w17 (.slice (some ⟨w16.heap.size, 0, none⟩) 2 2) [⟨4, 0⟩, ⟨11, -1⟩] := by
    rw [← hW17]
    exact ⟨Sl.of_block (heap_alloc_new w16 _) rfl (by decide) (Nat.le_refl _), Shp.some⟩
  have HCV := Lib.hid (verdict_any 1 1 _ _ _ _ knwX _ _ _ w17 (HP.out.ext (HX_16.out.ext hxa)) rfl hv)
  rw [knw_v5] at HCV
  have HX_17 := Lib.hid (HX_16.out.ext hxa)
  have hb := HB.out.kp HX_16.out (fun f => f)
  have q0 := hb.cell 0 _ rfl
  have q1 := hb.cell 1 _ rfl
  have q2 := hb.cell 2 _ rfl
  have q3 := hb.cell 3 _ rfl
  have q4 := hb.cell 4 _ rfl
  clear hxa hv hb
  go_wp2_with (fail)
  refine HCV.out.mono ?_
  rintro e w18 ⟨rfl, hxb⟩
  have HX_18 := Lib.hid (HX_17.out.ext hxb)
  clear hxb HCV q0 q1 q2 q3 q4 hW17
  obtain ⟨w19, hW19⟩ : ∃ w19, w18.alloc (.cells #[.slice none 0 0, .slice none 0 0] rsT) = w19 := ⟨_, rfl⟩
  have hxa : Ext w18 w19 := by rw [← hW19]; exact (Kp.refl _ _).alloc _
  have hr : RowsS w19 (.slice (some ⟨w18.heap.size, 0, none⟩) 2 2) [.slice none 0 0, .slice none 0 0] [[], []] := by
    refine rows_two ?_ (ResAt.nil _) (ResAt.nil _)
    rw [← hW19]; exact heap_alloc_new w18 _
  have HCR := Lib.hid (planResults_any 1 1 _ _ _ _ knwX _ _ _ _ w19 (HP.out.ext (HX_18.out.ext hxa)) rfl (by decide) (by decide) hr)
  have HX_19 := Lib.hid (HX_18.out.ext hxa)
  have hb := HB.out.kp HX_18.out (fun f => f)
  have q0 := hb.cell 0 _ rfl
  have q1 := hb.cell 1 _ rfl
  have q2 := hb.cell 2 _ rfl
  have q3 := hb.cell 3 _ rfl
  have q4 := hb.cell 4 _ rfl
  clear hxa hr hb
  go_wp2_with (fail)
  refine HCR.out.mono ?_
  rintro e w20 ⟨hpost, hxb⟩
  rcases hpost with ⟨hf, _⟩ | ⟨_, rfl⟩
  · exact absurd hf knw_misfit
  have HX_20 := Lib.hid (HX_19.out.ext hxb)
  clear hxb HCR q0 q1 q2 q3 q4 hW19
  obtain ⟨w21, hW21⟩ : ∃ w21, w20.alloc (.cells #[.int .i64 0, .string ⟨#[120]⟩, .string ⟨#[]⟩, .slice none 0 0, .int .i64 0, .int .i64 0, .int .i64 0, .int .i64 0, .int .i64 0, .int .i64 0, .int .i64 0] reT) = w21 := ⟨_, rfl⟩
  have hx21 : Ext w20 w21 := by rw [← hW21]; exact (Kp.refl _ _).alloc _
  have hr1 : ResAt w21 (.slice (some ⟨w20.heap.size, 0, none⟩) 1 1) [rsN 120] := by
    rw [← hW21]
    exact ⟨Sl.of_block (heap_alloc_new w20 _) rfl (by decide) (Nat.le_refl _), Shp.some⟩
  obtain ⟨w22, hW22⟩ : ∃ w22, w21.alloc (.cells #[.int .i64 0, .string ⟨#[121]⟩, .string ⟨#[]⟩, .slice none 0 0, .int .i64 0, .int .i64 0, .int .i64 0, .int .i64 0, .int .i64 0, .int .i64 0, .int .i64 0, .int .i64 0, .string ⟨#[122]⟩, .string ⟨#[]⟩, .slice none 0 0, .int .i64 0, .int .i64 0, .int .i64 0, .int .i64 0, .int .i64 0, .int .i64 0, .int .i64 0] reT) = w22 := ⟨_, rfl⟩
  have hx22 : Ext w21 w22 := by rw [← hW22]; exact (Kp.refl _ _).alloc _
  have hr2 : ResAt w22 (.slice (some ⟨w21.heap.size, 0, none⟩) 2 2) [rsN 121, rsN 122] := by
    rw [← hW22]
    exact ⟨Sl.of_block (heap_alloc_new w21 _) rfl (by decide) (Nat.le_refl _), Shp.some⟩
  obtain ⟨w23, hW23⟩ : ∃ w23, w22.alloc (.cells #[.slice (some ⟨w20.heap.size, 0, none⟩) 1 1, .slice (some ⟨w21.heap.size, 0, none⟩) 2 2] rsT) = w23 := ⟨_, rfl⟩
  have hx23 : Ext w22 w23 := by rw [← hW23]; exact (Kp.refl _ _).alloc _
  have hr : RowsS w23 (.slice (some ⟨w22.heap.size, 0, none⟩) 2 2) [.slice (some ⟨w20.heap.size, 0, none⟩) 1 1, .slice (some ⟨w21.heap.size, 0, none⟩) 2 2] [[rsN 120], [rsN 121, rsN 122]] := by
    refine rows_two ?_ ((hr1.ext hx22).ext hx23) (hr2.ext hx23)
    rw [← hW23]; exact heap_alloc_new w22 _
  have hx23' := (hx21.ext hx22).ext hx23
  have HCR := Lib.hid (planResults_any 1 1 _ _ _ _ knwX _ _ _ _ w23 (HP.out.ext (HX_20.out.ext hx23')) rfl (by decide) (by decide) hr)
  have HX_23 := Lib.hid (HX_20.out.ext hx23')
  have hb := HB.out.kp HX_20.out (fun f => f)
  have q0 := hb.cell 0 _ rfl
  have q1 := hb.cell 1 _ rfl
  have q2 := hb.cell 2 _ rfl
  have q3 := hb.cell 3 _ rfl
  have q4 := hb.cell 4 _ rfl
  clear hx21 hx22 hx23 hr1 hr2 hr hx23' hb
  go_wp2_with (fail)
  refine HCR.out.mono ?_
  rintro e w24 ⟨hpost, hxb⟩
  rcases hpost with ⟨_, v, rfl, hv⟩ | ⟨hf, _⟩
  rotate_left
  · exact absurd knw_fit hf
  have hv : ResAt w24 v [rsN 121, rsN 120, rsN 122] := hv
  obtain ⟨za, zc, rfl, _, _, hzo⟩ := hv.open
  obtain ⟨zb, zoff, rfl, _, hzc⟩ := hzo (by decide)
  have z0 := hzc 0 (by decide) 1 (.string ⟨#[121]⟩) (by decide) rfl
  have z1 := hzc 1 (by decide) 1 (.string ⟨#[120]⟩) (by decide) rfl
  have z2 := hzc 2 (by decide) 1 (.string ⟨#[122]⟩) (by decide) rfl
  have HX_24 := Lib.hid (HX_23.out.ext hxb)
  have HCF := Lib.hid (planFirst_any 0 0 _ _ _ [] [] [] w24 (PlanR.nil w24))
  clear hxb HCR q0 q1 q2 q3 q4 hW21 hW22 hW23 hv hzo hzc
  go_wp2_with (fail)
  refine HCF.out.mono ?_
  rintro e w25 ⟨rfl, hxb⟩
  have HX_25 := Lib.hid (HX_24.out.ext hxb)
  have HCO := Lib.hid (planOps_any 1 1 5 _ _ _ knwX _ _ w25 (HP.out.ext HX_25.out) (by rw [knw_row]; decide))
  rw [knw_row] at HCO
  have hb := HB.out.kp HX_25.out (fun f => f)
  have q0 := hb.cell 0 _ rfl
  have q1 := hb.cell 1 _ rfl
  have q2 := hb.cell 2 _ rfl
  have q3 := hb.cell 3 _ rfl
  have q4 := hb.cell 4 _ rfl
  clear hxb HCF z0 z1 z2 hb
  go_wp2_with (fail)
  refine HCO.out.mono ?_
  rintro e w26 ⟨v, rfl, hv, hxb⟩
  obtain ⟨va, vc, rfl⟩ := ops_slice hv
  have HXE := Lib.hid (((HX8.out.ext HX_25.out).ext hxb))
  clear hxb hv HCO q0 q1 q2 q3 q4
  go_wp2_with (fail)
  go_ret
  go_light
  exact ⟨ret_bool rfl, HXE.out⟩
end Go.Proofs.YtmgnndhhpnedkaaDoor
