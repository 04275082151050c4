/- Texts put together: AvMulD, AvStabA, AvStabB, AvPurA. -/
import Derived.Test.YtnkhmkcpdgmjmaaGreatDoorAvG24
import Derived.Test.YtnkhmkcpdgmjmaaGreatDoorAvG18
import Derived.Test.YtnkhmkcpdgmjmaaGreatDoorAvG2
import Derived.BigQuiet
import Derived.RegionTactic
import Derived.ChangeAlike
import Derived.Test.YtnkhmkcpdgmjmaaGreatDoorAvG20

/- Walks: solo.copied. -/
namespace Go.Proofs.YtnkhmkcpdgmjmaaGreatDoor
set_option maxRecDepth 100000
open Go.RowKit Av

def CpdRel (w : World) (xs : List RsE) (s3 s9 : Value) (wr : World) : Prop :=
  ∃ (k : Nat) (ys : List RsE), k ≤ xs.length ∧ s9 = .int .i64 k ∧ RsAt wr w.heap.size s3 ys ∧ ys.map (·.r) = (xs.take k).map (·.r) ∧ Ext w wr
theorem fresh_owns (w : World) : (w.alloc (.cells #[] strT)).ownsRow w.heap.size strT 1 (.slice (some ⟨w.heap.size, 0, none⟩) 0 0) 0 [] := (Fresh0.new (k := 1) (Nat.le_refl _)).1
set_option maxHeartbeats 6400000 in
theorem copied_any (base : Nat) (v : Value) (r : RpV) (w : World) (h : RpAt w base v r) (hn : r.res.length ≤ 1000) (hm : ∀ x ∈ r.res, x.names.length ≤ 100000) : Calls Tryz.prog 80 #[.agg (rplA r v)] w (RpPost w r) := by
  obtain ⟨xs, hrs, hxe⟩ := h
  obtain ⟨wB, hWB⟩ : ∃ wB, (w.alloc (.cells (rplA r v) rplT)).alloc (.cells rpZ rplT) = wB := ⟨_, rfl⟩
  have hxB : Ext w wB := by rw [← hWB]; exact ((Kp.refl _ _).alloc _).alloc _
  have hA : Blk wB w.heap.size (rplA r v) rplT := by
    rw [← hWB]
    exact Blk.kp (heap_alloc_new w _) ((Kp.refl (fun _ => False) _).alloc _) (fun f => f)
  have hB : Blk wB (w.heap.size + 1) rpZ rplT := by
    rw [← hWB]
    have := heap_alloc_new (w.alloc (.cells (rplA r v) rplT)) (.cells rpZ rplT)
    rw [World.size_alloc] at this
    exact this
  have HN : Hid (∀ x ∈ xs, x.r.names.length ≤ 100000) := fun x hx => hm _ (by rw [← hxe]; exact List.mem_map.2 ⟨x, hx, rfl⟩)
  have hxl : xs.length ≤ 1000 := by
    have := congrArg List.length hxe
    rw [List.length_map] at this
    omega
  obtain ⟨a, c, rfl, hmx, hop⟩ := hrs.open
  have HRS := Lib.hid hrs
  have HXE := Lib.hid hxe
  have HOP := Lib.hid hop
  have HA := Lib.hid hA
  have HB := Lib.hid hB
  have HXB := Lib.hid hxB
  have HWB := Lib.hid hWB
  obtain ⟨rn, rz, re, ra, rr⟩ := r
  unfold rplA at hA HWB ⊢
  simp only at hA HWB HXE ⊢
  have a4 := hA.cell 4 _ rfl
  unfold maxLen at hmx
  clear hrs hxe hop hA hB hxB hWB hn hm
  go_enter Tryz.func80, Tryz.ntmps80
  go_upto_region 1 with (fail)
  rw [HWB.out]
  go_wp2_with (fail)
  go_loopw [3, 9] (fun s3 s9 wr => CpdRel wB xs s3 s9 wr) (fun _ s9 _ => xs.length - (intOf s9).toNat)
  case atStart => exact ⟨0, [], Nat.zero_le _, rfl, RsAt.nil _ _, rfl, Kp.refl _ _⟩
  case round =>
    obtain ⟨k, ys, hk, rfl, hys, hye, hx⟩ := hrel
    obtain ⟨ya, yc, rfl⟩ := hys.slice
    have hyl : ys.length = k := by
      have h1 := congrArg List.length hye
      rw [List.length_map, List.length_map, List.length_take] at h1
      omega
    have HYL := Lib.hid hyl
    have HYS := Lib.hid hys
    have HYE := Lib.hid hye
    have HX := Lib.hid hx
    by_cases hlt : k < xs.length
    · obtain ⟨g, off, rfl, hg, hcl⟩ := HOP.out (by omega)
      have hcells := hcl k hlt
      have hnk := HRS.out.nm _ (List.getElem_mem hlt)
      have hlk := HN.out _ (List.getElem_mem hlt)
      have htk : (xs.take (k + 1)).map (·.r) = (xs.take k).map (·.r) ++ [xs[k].r] := by rw [List.take_succ_eq_append_getElem hlt, List.map_append]; rfl
      generalize xs[k] = x at hcells hnk hlk htk
      obtain ⟨⟨xe, xp, xd, xn, xst⟩, xv⟩ := x
      simp only at hnk hlk htk
      obtain ⟨na, nc, rfl⟩ := hnk.slice
      have hxw : Ext w wr := HXB.out.trans hx
      have e0 := hxw.cell (hcells 0 _ (by decide) rfl) (fun f => f)
      have e1 := hxw.cell (hcells 1 _ (by decide) rfl) (fun f => f)
      have e2 := hxw.cell (hcells 2 _ (by decide) rfl) (fun f => f)
      have e3 := hxw.cell (hcells 3 _ (by decide) rfl) (fun f => f)
      have e4 := hxw.cell (hcells 4 _ (by decide) rfl) (fun f => f)
      have e5 := hxw.cell (hcells 5 _ (by decide) rfl) (fun f => f)
      have e6 := hxw.cell (hcells 6 _ (by decide) rfl) (fun f => f)
      have e7 := hxw.cell (hcells 7 _ (by decide) rfl) (fun f => f)
      have e8 := hxw.cell (hcells 8 _ (by decide) rfl) (fun f => f)
      have e9 := hxw.cell (hcells 9 _ (by decide) rfl) (fun f => f)
      have e10 := hxw.cell (hcells 10 _ (by decide) rfl) (fun f => f)
      simp only [Nat.add_zero] at e0 e1 e2 e3 e4 e5 e6 e7 e8 e9 e10
      obtain ⟨wC, hWC⟩ : ∃ wC, wr.alloc (.cells #[.int .i64 xe, .string xp, .string xd, .slice na xn.length nc, .int .i64 xst.made, .int .i64 xst.chg, .int .i64 xst.ver, .int .i64 xst.kids, .int .i64 xst.own, .int .i64 xst.len, .int .i64 xst.cnt] rsuT) = wC := ⟨_, rfl⟩
      have hxC : Ext wr wC := by rw [← hWC]; exact (Kp.refl _ _).alloc _
      have hC : Blk wC wr.heap.size #[.int .i64 xe, .string xp, .string xd, .slice na xn.length nc, .int .i64 xst.made, .int .i64 xst.chg, .int .i64 xst.ver, .int .i64 xst.kids, .int .i64 xst.own, .int .i64 xst.len, .int .i64 xst.cnt] rsuT := by rw [← hWC]; exact heap_alloc_new wr _
      have HWC := Lib.hid hWC
      have HXC := Lib.hid hxC
      have HC := Lib.hid hC
      have HNK := Lib.hid (hnk.extO (hxw.trans hxC))
      have HTK := Lib.hid htk
      have hI1 : (0 : Int) ≤ (k : Int) := by omega
      have hI2 : (k : Int) < (xs.length : Int) := by omega
      have HSZ : Hid (w.heap.size + 2 ≤ wr.heap.size) := by have h1 := HB.out.lt; have h2 := HX.out.size; show _ ≤ _; omega
      clear hcl hcells hnk htk hWC hxC hC hys hye hx hyl hxw hg
      go_upto_region 5 with (fail)
      rw [HWC.out]
      clear e0 e1 e2 e3 e4 e5 e6 e7 e8 e9 e10
      have c3 := HC.out.cell 3 _ rfl
      have hcX : ∀ o : Obj, (wC.alloc o).cell? ⟨wr.heap.size, 3, none⟩ = some (.slice na xn.length nc) := fun o => Lib.cell?_alloc_some o c3
      have HNA : Hid (NmO (wC.alloc (.cells #[] strT)) (.slice na xn.length nc) xn) := HNK.out.extO ((Kp.refl _ _).alloc _)
      have HONS : Hid (∀ y ∈ xn.map encStr, y.oneCell' = true) := fun y hy => by
        obtain ⟨q, _, rfl⟩ := List.mem_map.1 hy
        rfl
      go_wp2_with (at_builtin; refine wpList_appK 36 strT 1 (by decide) str_factsR rfl _ _ rfl wC.heap.size _ 0 [] rfl (fresh_owns wC) _ xn.length (xn.map encStr) rfl HNA.out.nms (shp_owns HNA.out) HONS.out ?c1 ?c2 ?_)
      case c1 => omega
      intro v' w' h1 k2
      obtain ⟨a4, c4, hv4⟩ := owns_slice h1
      subst hv4
      have hxD : Ext wC w' := (Kp.alloc (Kp.refl _ _) _).next k2 (fun i hi h => by simp [Value.ownBlock] at h; omega)
      have hD := HC.out.kp hxD (fun f => f)
      obtain ⟨wD, hWD⟩ : ∃ wD, w'.setCell ⟨wr.heap.size, 3, none⟩ (.slice a4 xn.length c4) = wD := ⟨_, rfl⟩
      have hkD : Kp (fun i => i = wr.heap.size) w' wD := by rw [← hWD]; exact Kp.set1 (S := fun i => i = wr.heap.size) (Kp.refl _ _) _ 3 _ rfl
      have hE : Blk wD wr.heap.size (rsE ⟨⟨xe, xp, xd, xn, xst⟩, .slice a4 xn.length c4⟩).toArray rsuT := by rw [← hWD]; exact hD.set 3 _
      have hnE : NmO wD (.slice a4 xn.length c4) xn := NmO.kpT (own_less h1 (Nat.zero_le _)) hkD (noT_blk hD (by decide))
      have hxE : Ext wr wD := (HXC.out.trans hxD).next hkD (fun i hi e => by omega)
      have f3 := hD.free 3
      have d3 := hD.cell 3 _ rfl
      have HE := Lib.hid hE
      have HNE := Lib.hid hnE
      have HXE2 := Lib.hid hxE
      have HYD := Lib.hid (HYS.out.ext hxE)
      have HWD := Lib.hid hWD
      have HONE := Lib.hid (rsE_one (w := wD) (x := ⟨⟨xe, xp, xd, xn, xst⟩, .slice a4 xn.length c4⟩) hnE)
      clear h1 k2 hxD hD hkD hE hnE hxE hWD c3 hcX HNA HONS HNK
      go_upto_region 6 with (fail)
      rw [HWD.out]
      clear f3 d3
      have hE := HE.out
      unfold rsE at hE
      have x0 := hE.cell 0 _ rfl
      have x1 := hE.cell 1 _ rfl
      have x2 := hE.cell 2 _ rfl
      have x3 := hE.cell 3 _ rfl
      have x4 := hE.cell 4 _ rfl
      have x5 := hE.cell 5 _ rfl
      have x6 := hE.cell 6 _ rfl
      have x7 := hE.cell 7 _ rfl
      have x8 := hE.cell 8 _ rfl
      have x9 := hE.cell 9 _ rfl
      have x10 := hE.cell 10 _ rfl
      clear hE
      go_wp2_with (at_builtin; refine wpList_appK rssT rsuT 11 (by decide) rss_facts rfl _ _ rfl (wB.heap.size) _ _ _ rfl (ownsRow.ext HYD.out.row ((Kp.refl _ _).alloc _)) _ 1 (rsE ⟨⟨xe, xp, xd, xn, xst⟩, .slice a4 xn.length c4⟩) rfl (Sl.of_block (heap_alloc_new wD _) rfl (by decide) (Nat.le_refl _)) Shp.some HONE.out ?d1 ?d2 ?_)
      case d1 => have := HYL.out; omega
      case d2 => have h1 := HX.out.size; have h2 := HXE2.out.size; simp; omega
      intro v' w' h1 k2
      obtain ⟨a5, l5, c5, hv5⟩ : ∃ a4 l4 c4, v' = .slice a4 l4 c4 := by obtain ⟨a4, c4, e, _⟩ := Sl.open (Sl.of_owns h1); exact ⟨_, _, _, e⟩
      subst hv5
      have hlow : ∀ i, (Value.slice ya ys.length yc).ownBlock = some i → wB.heap.size ≤ i := fun i hi => (own_in HYD.out.row hi).1
      have hxF : Ext wB w' := (((HX.out.trans HXE2.out).alloc _)).next k2 (fun i hi h => by have := hlow _ h; omega)
      have hrF : RsAt w' (wB.heap.size) (.slice a5 l5 c5) (ys ++ [⟨⟨xe, xp, xd, xn, xst⟩, .slice a4 xn.length c4⟩]) := (HYD.out.ext ((Kp.refl _ _).alloc _)).snoc (HNE.out.extO ((Kp.refl _ _).alloc _)) h1 k2 (HYD.out.ext ((Kp.refl _ _).alloc _)).noStr
      have HXF := Lib.hid hxF
      have HRF := Lib.hid hrF
      clear h1 k2 hlow hxF hrF x0 x1 x2 x3 x4 x5 x6 x7 x8 x9 x10 HE HWD
      go_wp2_with (fail)
      go_light
      refine ⟨⟨k + 1, ys ++ [⟨⟨xe, xp, xd, xn, xst⟩, .slice a4 xn.length c4⟩], ?_, ?_, HRF.out, ?_, HXF.out⟩, ?_⟩
      · omega
      · go_num
      · rw [HTK.out, List.map_append, HYE.out]; rfl
      · simp [intOf]; omega
    · obtain rfl : k = xs.length := by omega
      rw [List.take_length] at hye
      have hA2 := HA.out.kp hx (fun f => f)
      have hB2 := HB.out.kp hx (fun f => f)
      have HYE2 := Lib.hid hye
      unfold rplA at hA2
      have HA2 := Lib.hid hA2
      have HB2 := Lib.hid hB2
      obtain ⟨w3, hW3⟩ : ∃ w3, wr.setCell ⟨w.heap.size, 4, none⟩ (.slice ya ys.length yc) = w3 := ⟨_, rfl⟩
      have hk3 : Kp (fun i => i = w.heap.size) wr w3 := by rw [← hW3]; exact Kp.set1 (S := fun i => i = w.heap.size) (Kp.refl _ _) _ 4 _ rfl
      have hA3 : Blk w3 w.heap.size #[.int .i64 rn, .int .i64 rz, .int .i64 re, .int .i64 ra, .slice ya ys.length yc] rplT := by rw [← hW3]; exact hA2.set 4 _
      have hB3 := hB2.kp hk3 (by omega)
      have HB3 := Lib.hid hB3
      have HYS3 := Lib.hid (hys.kpT hk3 (noT_blk hA2 (by decide)) (noT_blk hA2 (by decide)))
      have HX3 : Hid (Ext w w3) := (HXB.out.trans hx).next hk3 (fun i hi e => by omega)
      have f4 := hA2.free 4
      have g4 := hA2.cell 4 _ rfl
      have HW3 := Lib.hid hW3
      clear hA2 hB2 hys hye hx hyl hW3 hk3
      go_upto_region 9 with (fail)
      rw [HW3.out]
      clear f4 g4
      unfold rpZ at hB3
      have x0 := hA3.cell 0 _ rfl
      have x1 := hA3.cell 1 _ rfl
      have x2 := hA3.cell 2 _ rfl
      have x3 := hA3.cell 3 _ rfl
      have x4 := hA3.cell 4 _ rfl
      have c0 := hB3.cell 0 _ rfl
      have c1 := hB3.cell 1 _ rfl
      have c2 := hB3.cell 2 _ rfl
      have c3 := hB3.cell 3 _ rfl
      have c4 := hB3.cell 4 _ rfl
      have fc0 := hB3.free 0
      have fc1 := hB3.free 1
      have fc2 := hB3.free 2
      have fc3 := hB3.free 3
      have fc4 := hB3.free 4
      clear hA3 hB3
      go_wp2_with (fail)
      go_light
      refine bodyPost_ret (v := .agg #[.int .i64 rn, .int .i64 rz, .int .i64 re, .int .i64 ra, .slice ya ys.length yc]) (by simp [results, Tryz.results80, go_sem, c0, c1, c2, c3, c4]) rfl ?_
      have k5 := kp_set5 w3 (w.heap.size + 1) (.int .i64 rn) (.int .i64 rz) (.int .i64 re) (.int .i64 ra) (.slice ya ys.length yc)
      exact ⟨.slice ya ys.length yc, rfl, ⟨ys, (HYS3.out.kpT k5 (noT_blk HB3.out (by decide)) (noT_blk HB3.out (by decide))).less (by have := HXB.out.size; omega), HYE2.out.trans HXE.out⟩, HX3.out.next k5 (fun i hi e => by omega)⟩
end Go.Proofs.YtnkhmkcpdgmjmaaGreatDoor

/- Walks: the comparison of multi.Purge; slices.insertionSortCmpFunc at strings. -/
namespace Go.Proofs.YtnkhmkcpdgmjmaaGreatDoor
set_option maxRecDepth 100000
open Go.RowKit Av

/-- a before b: -1, 0, 1, the deeper first. -/
def cmpD (x y : ByteArray) : Int := Lib.compareInt ((dpB y.data.toList : Nat) : Int) ((dpB x.data.toList : Nat) : Int)
set_option maxHeartbeats 1600000 in
theorem deepCmp_any (x y : ByteArray) (w : World) (hG : GL w) (hx : x.size ≤ 1000000) (hy : y.size ≤ 1000000) : Calls Tryz.prog 170 #[.string x, .string y] w fun e w' => e = .returned (.int .i64 (cmpD x y)) ∧ Ext w w' := by
  have HP1 := Lib.hid (Parts_any y w hG (by unfold maxLen; omega))
  have HP2 := Lib.hid (fun W (h : Ext w W) => Parts_any x W (hG.ext h) (by unfold maxLen; omega))
  clear hG hx hy
  go_enter Tryz.func170, Tryz.ntmps170
  go_wp2_with (fail)
  refine HP1.out.mono ?_
  rintro e w1 ⟨v, ps, rfl, hps, hst, hx1⟩
  obtain ⟨a, c, rfl, _, _, _⟩ := Strs.open hst
  have hl : ps.length = dpB y.data.toList := by unfold dpB; rw [← hps, List.length_map]
  rw [hl]
  have HX1 := Lib.hid hx1
  clear hps hst hx1 hl
  go_wp2_with (fail)
  refine (HP2.out _ HX1.out).mono ?_
  rintro e w2 ⟨v, ps, rfl, hps, hst, hx1⟩
  obtain ⟨a, c, rfl, _, _, _⟩ := Strs.open hst
  have hl : ps.length = dpB x.data.toList := by unfold dpB; rw [← hps, List.length_map]
  rw [hl]
  have HX2 := Lib.hid (HX1.out.trans hx1)
  clear hps hst hx1 hl
  go_wp2_with (fail)
  refine (Tryz.cmp_Compare_int _ _ _).mono ?_
  rintro e w3 ⟨rfl, rfl⟩
  go_wp2_with (fail)
  go_ret
  exact ⟨rfl, HX2.out⟩
theorem cmpD_lt (x y : ByteArray) : cmpD x y < 0 ↔ dpB y.data.toList < dpB x.data.toList := by
  unfold cmpD Lib.compareInt
  split
  · rename_i h
    constructor
    · intro _; omega
    · intro _; decide
  · rename_i h
    split
    · constructor
      · intro h2; exact absurd h2 (by decide)
      · intro h2; omega
    · constructor
      · intro h2; exact absurd h2 (by decide)
      · intro h2; omega
def InsRel (w : World) (r c a b : Nat) (l : List Bs) (s8 : Value) (wr : World) : Prop := ∃ (i : Nat) (m : List Bs), a < i ∧ (i ≤ b ∨ i = a + 1) ∧ s8 = .int .i64 i ∧ St l m ∧ (∀ p, p < a ∨ b ≤ p → gtB m p = gtB l p) ∧ Fall m a i ∧ RowB wr r strT 1 c (m.map encStr) ∧ Kp (fun j => j = r) w wr
def InnRel (w : World) (r c a b i : Nat) (l : List Bs) (s9 : Value) (wr : World) : Prop := ∃ (j : Nat) (m : List Bs), a ≤ j ∧ j ≤ i ∧ s9 = .int .i64 j ∧ St l m ∧ (∀ p, p < a ∨ b ≤ p → gtB m p = gtB l p) ∧ FallBut m a (i + 1) j ∧ RowB wr r strT 1 c (m.map encStr) ∧ Kp (fun j => j = r) w wr
def InsPost (w : World) (r c a b : Nat) (l : List Bs) (w' : World) : Prop := ∃ m, St l m ∧ (∀ p, p < a ∨ b ≤ p → gtB m p = gtB l p) ∧ Fall m a b ∧ RowB w' r strT 1 c (m.map encStr) ∧ Kp (fun j => j = r) w w'
theorem row_at {w : World} {r c : Nat} {m : List Bs} (h : RowB w r strT 1 c (m.map encStr)) {j : Nat} (hj : j < m.length) : w.cell? ⟨r, j, none⟩ = some (.string ⟨(gtB m j).toArray⟩) := by
  rw [gtB_eq hj]
  exact h.cell (by rw [List.getElem?_map, List.getElem?_eq_getElem hj]; rfl)
theorem row_swap {w : World} {r c : Nat} {m : List Bs} (h : RowB w r strT 1 c (m.map encStr)) (k : Nat) :
    RowB ((w.setCell ⟨r, k + 1, none⟩ (.string ⟨(gtB m k).toArray⟩)).setCell ⟨r, k, none⟩ (.string ⟨(gtB m (k + 1)).toArray⟩)).drew r strT 1 c ((swB m k).map encStr) ∧ Kp (fun j => j = r) w ((w.setCell ⟨r, k + 1, none⟩ (.string ⟨(gtB m k).toArray⟩)).setCell ⟨r, k, none⟩ (.string ⟨(gtB m (k + 1)).toArray⟩)).drew := by
  have h1 := (h.set (k + 1) (.string ⟨(gtB m k).toArray⟩)).set k (.string ⟨(gtB m (k + 1)).toArray⟩)
  have e : ((m.map encStr).set (k + 1) (.string ⟨(gtB m k).toArray⟩)).set k (.string ⟨(gtB m (k + 1)).toArray⟩) = (swB m k).map encStr := by
    unfold swB
    rw [List.map_set, List.map_set]
  rw [e] at h1
  have k1 : Kp (fun j => j = r) w ((w.setCell ⟨r, k + 1, none⟩ (.string ⟨(gtB m k).toArray⟩)).setCell ⟨r, k, none⟩ (.string ⟨(gtB m (k + 1)).toArray⟩)) := Kp.set1 (S := fun j => j = r) (Kp.set1 (S := fun j => j = r) (Kp.refl _ _) _ (k + 1) _ rfl) _ k _ rfl
  exact ⟨h1.kp (Kp.refl (fun _ => False) _).drew (fun f => f), k1.drew⟩
set_option maxHeartbeats 6400000 in
theorem insSort_any (r c a b n cap : Nat) (l : List Bs) (w : World) (hG : GL w) (hg : 0 ≠ r) (hl : ∀ s ∈ l, s.length ≤ 1000000) (hn : l.length = n) (hb : b ≤ n) (ha : a ≤ b) (hn1 : n ≤ 1000000) (h : RowB w r strT 1 c (l.map encStr)) :
    Calls Tryz.prog 245 #[.slice (some ⟨r, 0, none⟩) n cap, .int .i64 a, .int .i64 b, .func (.func 170) #[] #[]] w fun e w' => (∃ u, e = .returned u) ∧ InsPost w r c a b l w' := by
  have HG := Lib.hid hG
  have HL := Lib.hid hl
  have HN := Lib.hid hn
  have HR := Lib.hid h
  have HGR := Lib.hid hg
  clear hG hl hn h hg
  have hWa : wrap64 ((a : Int) + 1) = a + 1 := by unfold wrap64; omega
  go_enter Tryz.func245, Tryz.ntmps245
  go_wp2_with (fail)
  go_loopw [8] (fun s8 wr => InsRel w r c a b l s8 wr) (fun s8 _ => b - (intOf s8).toNat)
  case atStart => exact ⟨a + 1, l, by omega, .inr rfl, by go_num, St.refl _, fun _ _ => rfl, fun p q h1 h2 h3 => by omega, HR.out, Kp.refl _ _⟩
  case round =>
    clear HR hWa
    obtain ⟨i, m, hai, hib, rfl, hst, hfr, hfall, hrow, hk⟩ := hrel
    have HST := Lib.hid hst
    have HFR := Lib.hid hfr
    have HFALL := Lib.hid hfall
    have HROW := Lib.hid hrow
    have HK := Lib.hid hk
    clear hst hfr hfall hrow hk
    by_cases hlt : i < b
    · go_wp2_with (fail)
      go_loopw [9] (fun s9 wr => InnRel w r c a b i l s9 wr) (fun s9 _ => (intOf s9).toNat)
      case atStart => exact ⟨i, m, by omega, Nat.le_refl _, rfl, HST.out, HFR.out, HFALL.out.but, HROW.out, HK.out⟩
      case round =>
        clear HST HFR HFALL HROW HK
        obtain ⟨j, m, hja, hji, rfl, hst, hfr, hfall, hrow, hk⟩ := hrel
        have hml : m.length = n := by rw [hst.1]; exact HN.out
        have HST := Lib.hid hst
        have HFR := Lib.hid hfr
        have HFALL := Lib.hid hfall
        have HROW := Lib.hid hrow
        have HK := Lib.hid hk
        have HGW := Lib.hid (HG.out.kp hk (fun e => HGR.out e))
        clear hst hfr hfall hk
        by_cases hlj : a < j
        · obtain ⟨k, rfl⟩ : ∃ k, j = k + 1 := ⟨j - 1, by omega⟩
          have hc1 := row_at hrow (j := k + 1) (by omega)
          have hc0 := row_at hrow (j := k) (by omega)
          have hs1 : (gtB m (k + 1)).length ≤ 1000000 := by rw [gtB_eq (by omega)]; exact HL.out _ ((HST.out.mem _).1 (List.getElem_mem _))
          have hs0 : (gtB m k).length ≤ 1000000 := by rw [gtB_eq (by omega)]; exact HL.out _ ((HST.out.mem _).1 (List.getElem_mem _))
          have HC1 := Lib.hid hc1
          have HC0 := Lib.hid hc0
          have HCMP : Hid (∀ W, Ext wr W → Calls Tryz.prog 170 #[.string ⟨(gtB m (k + 1)).toArray⟩, .string ⟨(gtB m k).toArray⟩] W fun e w' => e = .returned (.int .i64 (cmpD ⟨(gtB m (k + 1)).toArray⟩ ⟨(gtB m k).toArray⟩)) ∧ Ext W w') := fun W hW => deepCmp_any _ _ W (HGW.out.ext hW) (by rw [Lib.size_eq]; simpa using hs1) (by rw [Lib.size_eq]; simpa using hs0)
          have hcl := cmpD_lt ⟨(gtB m (k + 1)).toArray⟩ ⟨(gtB m k).toArray⟩
          obtain ⟨z, hz⟩ : ∃ z, cmpD ⟨(gtB m (k + 1)).toArray⟩ ⟨(gtB m k).toArray⟩ = z := ⟨_, rfl⟩
          rw [hz] at HCMP hcl
          have HCL := Lib.hid hcl
          have hV1 : IntKind.i64.wrap (k : Int) = k := IntWalk.i64_in _ (by omega)
          have hlj' : (a : Int) < (k : Int) + 1 := by omega
          have hb1 : (0 : Int) ≤ (k : Int) + 1 ∧ (k : Int) + 1 < n := by omega
          have hb0 : (0 : Int) ≤ (k : Int) ∧ (k : Int) < n := by omega
          clear hrow hcl hz hc1 hc0 hs1 hs0
          have eg : ∀ args w, (callFunc 170 args).run Tryz.prog w = .ok (.enter 170 args) w := enters_of Tryz.func170 (by kernel_rfl) rfl
          go_upto_region 4 with (fail)
          refine' wp_region_dag0 ((18, .val _) :: (19, .val _) :: (20, .val _) :: (21, .val _) :: (22, .val _) :: (23, .val _) :: (24, .val _) :: (25, .val _) :: (26, .val _) :: (27, .val _) :: (28, .val _) :: (29, .val _) :: (30, .val _) :: (31, .val _) :: (32, .val _) :: (33, .val _) :: (34, .val _) :: []) (by exact ⟨fun _ _ _ _ _ => trivial, ⟨fun _ _ _ _ _ => trivial, ⟨fun _ _ _ _ _ => trivial, ⟨fun _ _ _ _ _ => trivial, ⟨fun _ _ _ _ _ => trivial, ⟨fun _ _ _ _ _ => trivial, ⟨fun _ _ _ _ _ => trivial, ⟨fun _ _ _ _ _ => trivial, ⟨fun _ _ _ _ _ => trivial, ⟨fun _ _ _ _ _ => trivial, ⟨fun _ _ _ _ _ => trivial, ⟨fun _ _ _ _ _ => trivial, ⟨fun _ _ _ _ _ => trivial, ⟨fun _ _ _ _ _ => trivial, ⟨fun _ _ _ _ _ => trivial, ⟨fun _ _ _ _ _ => trivial, ⟨fun _ _ _ _ _ => trivial, trivial⟩⟩⟩⟩⟩⟩⟩⟩⟩⟩⟩⟩⟩⟩⟩⟩⟩) (by kernel_rfl) (by kernel_rfl) (by kernel_rfl) ?_
          rotate_left 17
          repeat (first
            | (refine wpD_skipv ?_ ?_ ?_
               focus rfl
               focus rfl
               simp only [Act.put, List.setIfInBounds_toArray, List.set_cons_succ, List.set_cons_zero])
            | (refine' wpD_val (c := _) ?_ (fun w => Kp.refl _ w) ?_ (fun wq hwq hfq => ?_) ?_
               rotate_left
               focus rfl
               focus rfl
               focus ((have c1 := hwq.cell HC1.out (fun f => f); have c0 := hwq.cell HC0.out (fun f => f)); go_simp; first | done | rfl)
               simp only [Act.put, List.setIfInBounds_toArray, List.set_cons_succ, List.set_cons_zero])
            | (refine' wpD_con (c := _) ?_ ?_ (fun wq hwq hfq => ?_) ?_
               rotate_left
               focus rfl
               focus rfl
               focus ((have c1 := hwq.cell HC1.out (fun f => f); have c0 := hwq.cell HC0.out (fun f => f)); go_simp; (try (rw [dUpon_enter])); ((with_reducible refine (HCMP.out _ hwq).mono ?_); rintro e w' ⟨rfl, hx⟩; exact DEnd.con hx))
               simp only [Act.put, List.setIfInBounds_toArray, List.set_cons_succ, List.set_cons_zero])
            | fail)
          refine wpD_nil ?_
          intro w1 hx1 hend
          clear hend
          have HX1 := Lib.hid hx1
          have HRW1 := Lib.hid (HROW.out.kp hx1 (fun f => f))
          have HK1 := Lib.hid (HK.out.next hx1 (fun _ _ f => f.elim))
          clear hx1
          by_cases hz0 : z < 0
          · have hlt2 : dpB (gtB m k) < dpB (gtB m (k + 1)) := by simpa using HCL.out.1 hz0
            have hrow := HRW1.out
            have c1 := row_at hrow (j := k + 1) (by omega)
            have c0 := row_at hrow (j := k) (by omega)
            have f1 := hrow.free (k + 1)
            have f0 := hrow.free k
            have HLT2 := Lib.hid hlt2
            clear hrow hlt2
            go_wp2_with (fail)
            go_region
            have hsw := row_swap HRW1.out k
            generalize ((w1.setCell ⟨r, k + 1, none⟩ (.string ⟨(gtB m k).toArray⟩)).setCell ⟨r, k, none⟩ (.string ⟨(gtB m (k + 1)).toArray⟩)).drew = w2 at hsw ⊢
            have HSW := Lib.hid hsw
            clear hsw c1 c0 f1 f0
            go_wp2_with (fail)
            go_light
            refine ⟨⟨k, swB m k, ?_, ?_, ?_, HST.out.trans (swB_st m k ?_ ?_), fun p hp => ?_, HFALL.out.step ?_ ?_ ?_ HLT2.out, HSW.out.1, HK1.out.next HSW.out.2 (fun _ _ e => e)⟩, ?_⟩
            · omega
            · omega
            · go_num
            · omega
            · have := HLT2.out; omega
            · rw [swB_get m k p (by omega), if_neg (by omega), if_neg (by omega)]
              exact HFR.out p hp
            · omega
            · omega
            · omega
            · simp [intOf]
          · have hge : dpB (gtB m (k + 1)) ≤ dpB (gtB m k) := by
              have h1 := HCL.out
              simp only at h1
              have h2 : ¬ dpB (gtB m k) < dpB (gtB m (k + 1)) := fun h => hz0 (h1.2 h)
              omega
            have HF := Lib.hid (HFALL.out.stop (.inr hge))
            clear hge
            go_wp2_with (fail)
            go_light
            refine ⟨⟨i + 1, m, ?_, ?_, ?_, HST.out, HFR.out, HF.out, HRW1.out, HK1.out⟩, ?_⟩
            · omega
            · omega
            · go_num
            · simp [intOf]; omega
        · have HF := Lib.hid (HFALL.out.stop (.inl (by omega)))
          have hlf : ¬ (a : Int) < (j : Int) := by omega
          have hld : decide ((a : Int) < (j : Int)) = false := decide_eq_false hlf
          have HKW := HK
          have HRW := HROW
          clear hrow
          go_upto_region 4 with (fail)
          refine' wp_region_dag0 ((18, .val _) :: (19, .val _) :: (20, .val _) :: (21, .val _) :: (22, .val _) :: (23, .val _) :: (24, .val _) :: (25, .val _) :: (26, .val _) :: (27, .val _) :: (28, .val _) :: (29, .val _) :: (30, .val _) :: (31, .val _) :: (32, .val _) :: (33, .val _) :: (34, .val _) :: []) (by exact ⟨fun _ _ _ _ _ => trivial, ⟨fun _ _ _ _ _ => trivial, ⟨fun _ _ _ _ _ => trivial, ⟨fun _ _ _ _ _ => trivial, ⟨fun _ _ _ _ _ => trivial, ⟨fun _ _ _ _ _ => trivial, ⟨fun _ _ _ _ _ => trivial, ⟨fun _ _ _ _ _ => trivial, ⟨fun _ _ _ _ _ => trivial, ⟨fun _ _ _ _ _ => trivial, ⟨fun _ _ _ _ _ => trivial, ⟨fun _ _ _ _ _ => trivial, ⟨fun _ _ _ _ _ => trivial, ⟨fun _ _ _ _ _ => trivial, ⟨fun _ _ _ _ _ => trivial, ⟨fun _ _ _ _ _ => trivial, ⟨fun _ _ _ _ _ => trivial, trivial⟩⟩⟩⟩⟩⟩⟩⟩⟩⟩⟩⟩⟩⟩⟩⟩⟩) (by kernel_rfl) (by kernel_rfl) (by kernel_rfl) ?_
          rotate_left 17
          repeat (first
            | (refine wpD_skipv ?_ ?_ ?_
               focus rfl
               focus rfl
               simp only [Act.put, List.setIfInBounds_toArray, List.set_cons_succ, List.set_cons_zero])
            | (refine' wpD_val (c := _) ?_ (fun w => Kp.refl _ w) ?_ (fun wq hwq hfq => ?_) ?_
               rotate_left
               focus rfl
               focus rfl
               focus (skip; go_simp; first | done | rfl)
               simp only [Act.put, List.setIfInBounds_toArray, List.set_cons_succ, List.set_cons_zero])
            | (refine' wpD_con (c := _) ?_ ?_ (fun wq hwq hfq => ?_) ?_
               rotate_left
               focus rfl
               focus rfl
               focus (skip; go_simp; (try (rw [dUpon_enter])); fail)
               simp only [Act.put, List.setIfInBounds_toArray, List.set_cons_succ, List.set_cons_zero])
            | fail)
          refine wpD_nil ?_
          intro w1 hx1 hend
          clear hend
          have HRW1 := Lib.hid (HROW.out.kp hx1 (fun f => f))
          have HK1 := Lib.hid (HK.out.next hx1 (fun _ _ f => f.elim))
          clear hx1
          go_wp2_with (fail)
          go_light
          refine ⟨⟨i + 1, m, ?_, ?_, ?_, HST.out, HFR.out, HF.out, HRW1.out, HK1.out⟩, ?_⟩
          · omega
          · omega
          · go_num
          · simp [intOf]; omega
    · have HF : Hid (Fall m a b) := fun p q h1 h2 h3 => HFALL.out p q h1 h2 (by omega)
      go_wp2_with (fail)
      go_end0
      exact ⟨⟨_, rfl⟩, m, HST.out, HFR.out, HF.out, HROW.out, HK.out⟩
end Go.Proofs.YtnkhmkcpdgmjmaaGreatDoor

/- Walks: slices.stableCmpFunc, SortStableFunc at strings, of at most 20. -/
namespace Go.Proofs.YtnkhmkcpdgmjmaaGreatDoor
set_option maxRecDepth 100000
open Go.RowKit Av

theorem gt_ext {l m : List Bs} (hl : l.length = m.length) (h : ∀ p, gtB l p = gtB m p) : l = m := by
  apply List.ext_getElem hl
  intro i h1 h2
  rw [← gtB_eq h1, ← gtB_eq h2, h]
theorem fall_pair {l : List Bs} (h : Fall l 0 l.length) : l.Pairwise (fun x y => dpB y ≤ dpB x) := by
  rw [List.pairwise_iff_getElem]
  intro i j hi hj hij
  rw [← gtB_eq hi, ← gtB_eq hj]
  exact h i j (Nat.zero_le _) hij hj
/-- The row is sorted in its place. -/
def SrtPost (w : World) (r c : Nat) (l : List Bs) (w' : World) : Prop := ∃ m, St l m ∧ m.Pairwise (fun x y => dpB y ≤ dpB x) ∧ RowB w' r strT 1 c (m.map encStr) ∧ Kp (fun j => j = r) w w'
def StRel (w : World) (r c n : Nat) (l : List Bs) (s7 s8 : Value) (wr : World) : Prop := (s7 = .int .i64 0 ∧ s8 = .int .i64 20 ∧ w = wr) ∨ (n = 20 ∧ s7 = .int .i64 20 ∧ s8 = .int .i64 40 ∧ SrtPost w r c l wr)
set_option maxHeartbeats 6400000 in
theorem stableCmp_small (r c n cap : Nat) (l : List Bs) (w : World) (hG : GL w) (hg : 0 ≠ r) (hl : ∀ s ∈ l, s.length ≤ 1000000) (hn : l.length = n) (hn1 : n ≤ 20) (h : RowB w r strT 1 c (l.map encStr)) :
    Calls Tryz.prog 212 #[.slice (some ⟨r, 0, none⟩) n cap, .int .i64 n, .func (.func 170) #[] #[]] w fun e w' => (∃ u, e = .returned u) ∧ SrtPost w r c l w' := by
  have HGR := Lib.hid hg
  have HN := Lib.hid hn
  have HINS : Hid (∀ (a b : Int) (m : List Bs) (wr : World) (a' : Nat), (a' : Int) = a → (n : Int) = b → a' ≤ n → St l m → RowB wr r strT 1 c (m.map encStr) → Kp (fun j => j = r) w wr → Calls Tryz.prog 245 #[.slice (some ⟨r, 0, none⟩) n cap, .int .i64 a, .int .i64 b, .func (.func 170) #[] #[]] wr fun e w' => (∃ u, e = .returned u) ∧ InsPost wr r c a' n m w') := by
    rintro _ _ m wr a' rfl rfl ha hst hrow hk
    exact insSort_any r c a' n n cap m wr (hG.kp hk (fun e => hg e)) hg (fun s hs => hl s ((hst.mem s).1 hs)) (by rw [hst.1]; exact hn) (Nat.le_refl _) ha (by omega) hrow
  have HR := Lib.hid h
  have HPOST : Hid (∀ (m : List Bs) (wr w' : World), St l m → Kp (fun j => j = r) w wr → InsPost wr r c 0 n m w' → SrtPost w r c l w') := by
    rintro m wr w' hst hk ⟨m1, h1, h2, h3, h4, h5⟩
    have hs := hst.trans h1
    have hl1 : m1.length = n := by rw [hs.1]; exact hn
    exact ⟨m1, hs, fall_pair (l := m1) (by rw [hl1]; exact h3), h4, hk.next h5 (fun _ _ e => e)⟩
  clear hG hl hn h hg
  go_enter Tryz.func212, Tryz.ntmps212
  go_wp2_with (fail)
  go_loopw [7, 8] (fun s7 s8 wr => StRel w r c n l s7 s8 wr) (fun s7 _ _ => 100 - (intOf s7).toNat)
  case atStart => exact .inl ⟨rfl, rfl, rfl⟩
  case round =>
    rcases hrel with ⟨rfl, rfl, rfl⟩ | ⟨hn20, rfl, rfl, hsrt⟩
    · by_cases hb : n = 20
      · have hb' : (20 : Int) ≤ (n : Int) := by omega
        have HC := Lib.hid (HINS.out 0 20 l w 0 rfl (by omega) (by omega) (St.refl _) HR.out (Kp.refl _ _))
        have HB := Lib.hid hb
        clear HINS hb
        go_wp2_with (fail)
        refine HC.out.mono ?_
        rintro e w1 ⟨⟨u, rfl⟩, h1⟩
        have H1 := Lib.hid (HPOST.out _ _ _ (St.refl _) (Kp.refl _ _) h1)
        clear h1 HC HPOST
        go_wp2_with (fail)
        go_light
        refine ⟨.inr ⟨HB.out, ?_, ?_, H1.out⟩, ?_⟩
        · rfl
        · rfl
        · simp [intOf]
      · have hb' : ¬ (20 : Int) ≤ (n : Int) := by omega
        have hn' : ¬ (20 : Int) < (n : Int) := by omega
        have HC := Lib.hid (HINS.out 0 n l w 0 rfl rfl (by omega) (St.refl _) HR.out (Kp.refl _ _))
        clear HINS hb
        go_wp2_with (fail)
        refine HC.out.mono ?_
        rintro e w1 ⟨⟨u, rfl⟩, h1⟩
        have H1 := Lib.hid (HPOST.out _ _ _ (St.refl _) (Kp.refl _ _) h1)
        clear h1 HC HPOST
        go_wp2_with (fail)
        go_loopw [6] (fun s6 wr => s6 = .int .i64 20 ∧ w1 = wr) (fun _ _ => 0)
        case atStart => exact ⟨rfl, rfl⟩
        case round =>
          obtain ⟨rfl, rfl⟩ := hrel
          go_wp2_with (fail)
          go_end0
          exact ⟨⟨_, rfl⟩, H1.out⟩
    · have hb' : ¬ (40 : Int) ≤ (n : Int) := by omega
      have hn' : ¬ (20 : Int) < (n : Int) := by omega
      obtain ⟨m, hst, hp, hrow, hk⟩ := hsrt
      have HC := Lib.hid (HINS.out 20 n m wr 20 rfl rfl (by omega) hst hrow hk)
      have HQ : Hid (∀ w', InsPost wr r c 20 n m w' → SrtPost w r c l w') := by
        rintro w' ⟨m1, h1, h2, h3, h4, h5⟩
        have hl0 : m.length = n := by rw [hst.1]; exact HN.out
        have hl1 : m1.length = n := by rw [h1.1]; exact hl0
        have e : m1 = m := gt_ext (by omega) (fun p => h2 p (by omega))
        exact ⟨m1, hst.trans h1, by rw [e]; exact hp, h4, hk.next h5 (fun _ _ e => e)⟩
      clear HINS hst hp hrow hk HPOST hn20
      go_wp2_with (fail)
      refine HC.out.mono ?_
      rintro e w1 ⟨⟨u, rfl⟩, h1⟩
      have H1 := Lib.hid (HQ.out _ h1)
      clear h1 HC HQ
      go_wp2_with (fail)
      go_loopw [6] (fun s6 wr => s6 = .int .i64 20 ∧ w1 = wr) (fun _ _ => 0)
      case atStart => exact ⟨rfl, rfl⟩
      case round =>
        obtain ⟨rfl, rfl⟩ := hrel
        go_wp2_with (fail)
        go_end0
        exact ⟨⟨_, rfl⟩, H1.out⟩
/-- slices.SortStableFunc of at most 20 paths, the deepest first. -/
theorem sortStable_small (r c n cap : Nat) (l : List Bs) (w : World) (hG : GL w) (hg : 0 ≠ r) (hl : ∀ s ∈ l, s.length ≤ 1000000) (hn : l.length = n) (hn1 : n ≤ 20) (h : RowB w r strT 1 c (l.map encStr)) :
    Calls Tryz.prog 169 #[.slice (some ⟨r, 0, none⟩) n cap, .func (.func 170) #[] #[]] w fun e w' => (∃ u, e = .returned u) ∧ SrtPost w r c l w' := by
  have HC := Lib.hid (stableCmp_small r c n cap l w hG hg hl hn hn1 h)
  clear hG hg hl hn h
  go_enter Tryz.func169, Tryz.ntmps169
  go_wp2_with (fail)
  refine HC.out.mono ?_
  rintro e w1 ⟨⟨u, rfl⟩, h1⟩
  have H1 := Lib.hid h1
  clear h1 HC
  go_wp2_with (fail)
  go_end0
  exact ⟨⟨_, rfl⟩, H1.out⟩
end Go.Proofs.YtnkhmkcpdgmjmaaGreatDoor

/- A node that has no children goes: on a tree told as a list. -/
namespace Go.Proofs.YtnkhmkcpdgmjmaaGreatDoor
set_option maxRecDepth 100000
open Go.RowKit Av

def oDel (p : ByteArray) : OpV := ⟨2, p, ⟨#[]⟩, -1, 0⟩
theorem oDel_good {p : ByteArray} (h : goodL p.data.toList = true) : goodO (oDel p) = 0 := by
  have h1 : formedB (oDel p) = true := by unfold formedB oDel; simp [h]
  have h2 : Av.ownB (oDel p) = true := rfl
  have h3 : numberedB (oDel p) = true := by unfold numberedB oDel; simp
  unfold goodO
  rw [if_pos h1, if_neg (by show ¬ (1000 : Nat) < 0; omega), h2, h3]
  rfl
theorem del_doP {room : Int} {P : Pt} {p : ByteArray} {n : NodeV} (hg : goodL p.data.toList = true) (hm : mget P p = some n) (hk : n.names = []) : (doP room P (oDel p) 1 0 false).1 = tellP ndRem (mdel P p) p := by
  unfold doP
  rw [if_neg (by rw [oDel_good hg]; simp), if_neg (by decide), if_neg (by show ¬ ((2 : Int) = 1); decide), if_pos (by left; rfl)]
  unfold changeP
  rw [show (oDel p).path = p from rfl, hm]
  simp only
  rw [if_neg (by show ¬ (wrongB (oDel p) n = true); unfold wrongB oDel; simp), if_pos (show (oDel p).kind = 2 from rfl), if_neg (by rw [hk]; simp)]
  rfl
theorem del_doL {room : Int} {L : RL} {p : ByteArray} {n : NodeV} (hg : goodL p.data.toList = true) (hm : mget L p = some n) (hk : n.names = []) : (doL room L (oDel p) 1 0).1 = remL L p := by
  unfold doL
  rw [if_neg (by rw [oDel_good hg]; simp), if_neg (by decide), if_neg (by show ¬ ((2 : Int) = 1); decide), if_pos (by left; rfl)]
  unfold changeL
  rw [show (oDel p).path = p from rfl, hm]
  simp only
  rw [if_neg (by show ¬ (wrongB (oDel p) n = true); unfold wrongB oDel; simp), if_pos (show (oDel p).kind = 2 from rfl), if_neg (by rw [hk]; simp)]
  unfold remL
  rw [hm]
def TrRem (w0 w : World) (b m : Nat) (room : Int) (K : Nat) (t : Tr) (L : RL) (e : Ending) (w' : World) : Prop :=
  (∃ u, e = .returned u) ∧ ∃ t', TrA w0 w' b m room (K + 1) t' L ∧ Kp (nodeFr m t) w w' ∧ Fresh w t t'
theorem trRemove {w0 w : World} {b m : Nat} {room : Int} {K : Nat} {t : Tr} {L : RL} (h : TrA w0 w b m room K t L) (hG : GT w0) (hK : K ≤ 100000) (p : ByteArray) (n : NodeV) (hm : mget L p = some n) (hk : n.names = []) :
    Calls Tryz.prog 151 #[.pointer (some ⟨b, 0, none⟩), .string p] w fun e w' => TrRem w0 w b m room K t (remL L p) e w' := by
  have hmp : mget (pl t) p = some n := by rw [← h.srt.get]; exact hm
  have hg := h.good.snd.good p n hmp
  have hps := path_small p hg
  refine (treeRemove_any w0.heap.size b m room t p w0 w h.ts.tr (h.ts.pk.ok hK) hG.gl (Nat.le_refl _) (hG.ext h.ts.ex).gl (by omega)).mono ?_
  rintro e w' ⟨hu, h1, h2⟩
  have e1 : pl (tellUp ndRem (mdel t p) p) = (doP room (pl t) (oDel p) 1 0 false).1 := by
    rw [del_doP hg hmp hk, pl_tell]
    congr 1
    exact pl_del _ _
  have e2 : (doL room L (oDel p) 1 0).1 = remL L p := del_doL hg hm hk
  have e3 := (doL_doP (room := room) h.srt h.ts.pk.1 (oDel p) 1 0).2
  rw [e2] at e3
  exact ⟨hu, _, ⟨⟨h1, by rw [e1]; exact h.ts.pk.doP room _ 1 0 false, h.ts.step h2⟩, by rw [e1]; exact e3, by rw [e1]; exact h.good.step h.ts.pk _ _ _⟩, h2, ((Fresh.refl w t).del p).tell _ _⟩
end Go.Proofs.YtnkhmkcpdgmjmaaGreatDoor
