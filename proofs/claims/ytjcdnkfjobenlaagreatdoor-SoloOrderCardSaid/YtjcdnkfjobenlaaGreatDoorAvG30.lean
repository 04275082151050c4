/- Texts put together: AvMulD, AvSesD, AvSesE, AvRoom, AvSesF. -/
import Derived.Test.YtjcdnkfjobenlaaGreatDoorAvG28
import Derived.Test.YtjcdnkfjobenlaaGreatDoorAvHRepB
import Derived.Test.YtjcdnkfjobenlaaGreatDoorAvG21
import Derived.Test.YtjcdnkfjobenlaaGreatDoorAvG20
import Derived.Test.YtjcdnkfjobenlaaGreatDoorAvG3
import Derived.Shelf.AbstractIn
import Derived.Test.YtjcdnkfjobenlaaGreatDoorAvG23
import Derived.Test.YtjcdnkfjobenlaaGreatDoorAvHDagX
import Derived.Deep.RegionHeld3
import Derived.Deep.AppendLies

/- Walks: solo.copied. -/
namespace Go.Proofs.YtjcdnkfjobenlaaGreatDoor
set_option maxRecDepth 100000
open Go.RowKit Av

def CpdRel (w : World) (xs : List RsE) (s3 s9 : Value) (wr : World) : Prop :=
  ∃ (k : Nat) (ys : List RsE), k ≤ xs.length ∧ s9 = .int .i64 k ∧ RsAt wr w.heap.size s3 ys ∧ ys.map (·.r) = (xs.take k).map (·.r) ∧ Ext w wr
theorem fresh_owns (w : World) : (w.alloc (.cells #[] strT)).ownsRow w.heap.size strT 1 (.slice (some ⟨w.heap.size, 0, none⟩) 0 0) 0 [] := (Fresh0.new (k := 1) (Nat.le_refl _)).1
set_option maxHeartbeats 6400000 in
theorem copied_any (base : Nat) (v : Value) (r : RpV) (w : World) (h : RpAt w base v r) (hn : r.res.length ≤ 1000) (hm : ∀ x ∈ r.res, x.names.length ≤ 100000) : Calls Tryz.prog 78 #[.agg (rplA r v)] w (RpPost w r) := by
  obtain ⟨xs, hrs, hxe⟩ := h
  obtain ⟨wB, hWB⟩ : ∃ wB, (w.alloc (.cells (rplA r v) rplT)).alloc (.cells rpZ rplT) = wB := ⟨_, rfl⟩
  have hxB : Ext w wB := by rw [← hWB]; exact ((Kp.refl _ _).alloc _).alloc _
  have hA : Blk wB w.heap.size (rplA r v) rplT := by
    rw [← hWB]
    exact Blk.kp (heap_alloc_new w _) ((Kp.refl (fun _ => False) _).alloc _) (fun f => f)
  have hB : Blk wB (w.heap.size + 1) rpZ rplT := by
    rw [← hWB]
    have := heap_alloc_new (w.alloc (.cells (rplA r v) rplT)) (.cells rpZ rplT)
    rw [World.size_alloc] at this
    exact this
  have HN : Hid (∀ x ∈ xs, x.r.names.length ≤ 100000) := fun x hx => hm _ (by rw [← hxe]; exact List.mem_map.2 ⟨x, hx, rfl⟩)
  have hxl : xs.length ≤ 1000 := by
    have := congrArg List.length hxe
    rw [List.length_map] at this
    omega
  obtain ⟨a, c, rfl, hmx, hop⟩ := hrs.open
  have HRS := Lib.hid hrs
  have HXE := Lib.hid hxe
  have HOP := Lib.hid hop
  have HA := Lib.hid hA
  have HB := Lib.hid hB
  have HXB := Lib.hid hxB
  have HWB := Lib.hid hWB
  obtain ⟨rn, rz, re, ra, rr⟩ := r
  unfold rplA at hA HWB ⊢
  simp only at hA HWB HXE ⊢
  have a4 := hA.cell 4 _ rfl
  unfold maxLen at hmx
  clear hrs hxe hop hA hB hxB hWB hn hm
  go_enter Tryz.func78, Tryz.ntmps78
  go_upto_region 1 with (fail)
  rw [HWB.out]
  go_wp2_with (fail)
  go_loopw [3, 9] (fun s3 s9 wr => CpdRel wB xs s3 s9 wr) (fun _ s9 _ => xs.length - (intOf s9).toNat)
  case atStart => exact ⟨0, [], Nat.zero_le _, rfl, RsAt.nil _ _, rfl, Kp.refl _ _⟩
  case round =>
    obtain ⟨k, ys, hk, rfl, hys, hye, hx⟩ := hrel
    obtain ⟨ya, yc, rfl⟩ := hys.slice
    have hyl : ys.length = k := by
      have h1 := congrArg List.length hye
      rw [List.length_map, List.length_map, List.length_take] at h1
      omega
    have HYL := Lib.hid hyl
    have HYS := Lib.hid hys
    have HYE := Lib.hid hye
    have HX := Lib.hid hx
    by_cases hlt : k < xs.length
    · obtain ⟨g, off, rfl, hg, hcl⟩ := HOP.out (by omega)
      have hcells := hcl k hlt
      have hnk := HRS.out.nm _ (List.getElem_mem hlt)
      have hlk := HN.out _ (List.getElem_mem hlt)
      have htk : (xs.take (k + 1)).map (·.r) = (xs.take k).map (·.r) ++ [xs[k].r] := by rw [List.take_succ_eq_append_getElem hlt, List.map_append]; rfl
      generalize xs[k] = x at hcells hnk hlk htk
      obtain ⟨⟨xe, xp, xd, xn, xst⟩, xv⟩ := x
      simp only at hnk hlk htk
      obtain ⟨na, nc, rfl⟩ := hnk.slice
      have hxw : Ext w wr := HXB.out.trans hx
      have e0 := hxw.cell (hcells 0 _ (by decide) rfl) (fun f => f)
      have e1 := hxw.cell (hcells 1 _ (by decide) rfl) (fun f => f)
      have e2 := hxw.cell (hcells 2 _ (by decide) rfl) (fun f => f)
      have e3 := hxw.cell (hcells 3 _ (by decide) rfl) (fun f => f)
      have e4 := hxw.cell (hcells 4 _ (by decide) rfl) (fun f => f)
      have e5 := hxw.cell (hcells 5 _ (by decide) rfl) (fun f => f)
      have e6 := hxw.cell (hcells 6 _ (by decide) rfl) (fun f => f)
      have e7 := hxw.cell (hcells 7 _ (by decide) rfl) (fun f => f)
      have e8 := hxw.cell (hcells 8 _ (by decide) rfl) (fun f => f)
      have e9 := hxw.cell (hcells 9 _ (by decide) rfl) (fun f => f)
      have e10 := hxw.cell (hcells 10 _ (by decide) rfl) (fun f => f)
      simp only [Nat.add_zero] at e0 e1 e2 e3 e4 e5 e6 e7 e8 e9 e10
      obtain ⟨wC, hWC⟩ : ∃ wC, wr.alloc (.cells #[.int .i64 xe, .string xp, .string xd, .slice na xn.length nc, .int .i64 xst.made, .int .i64 xst.chg, .int .i64 xst.ver, .int .i64 xst.kids, .int .i64 xst.own, .int .i64 xst.len, .int .i64 xst.cnt] rsuT) = wC := ⟨_, rfl⟩
      have hxC : Ext wr wC := by rw [← hWC]; exact (Kp.refl _ _).alloc _
      have hC : Blk wC wr.heap.size #[.int .i64 xe, .string xp, .string xd, .slice na xn.length nc, .int .i64 xst.made, .int .i64 xst.chg, .int .i64 xst.ver, .int .i64 xst.kids, .int .i64 xst.own, .int .i64 xst.len, .int .i64 xst.cnt] rsuT := by rw [← hWC]; exact heap_alloc_new wr _
      have HWC := Lib.hid hWC
      have HXC := Lib.hid hxC
      have HC := Lib.hid hC
      have HNK := Lib.hid (hnk.extO (hxw.trans hxC))
      have HTK := Lib.hid htk
      have hI1 : (0 : Int) ≤ (k : Int) := by omega
      have hI2 : (k : Int) < (xs.length : Int) := by omega
      have HSZ : Hid (w.heap.size + 2 ≤ wr.heap.size) := by have h1 := HB.out.lt; have h2 := HX.out.size; show _ ≤ _; omega
      clear hcl hcells hnk htk hWC hxC hC hys hye hx hyl hxw hg
      go_upto_region 5 with (fail)
      rw [HWC.out]
      clear e0 e1 e2 e3 e4 e5 e6 e7 e8 e9 e10
      have c3 := HC.out.cell 3 _ rfl
      have hcX : ∀ o : Obj, (wC.alloc o).cell? ⟨wr.heap.size, 3, none⟩ = some (.slice na xn.length nc) := fun o => Lib.cell?_alloc_some o c3
      have HNA : Hid (NmO (wC.alloc (.cells #[] strT)) (.slice na xn.length nc) xn) := HNK.out.extO ((Kp.refl _ _).alloc _)
      have HONS : Hid (∀ y ∈ xn.map encStr, y.oneCell' = true) := fun y hy => by
        obtain ⟨q, _, rfl⟩ := List.mem_map.1 hy
        rfl
      go_wp2_with (at_builtin; refine wpList_appK 36 strT 1 (by decide) str_factsR rfl _ _ rfl wC.heap.size _ 0 [] rfl (fresh_owns wC) _ xn.length (xn.map encStr) rfl HNA.out.nms (shp_owns HNA.out) HONS.out ?c1 ?c2 ?_)
      case c1 => omega
      intro v' w' h1 k2
      obtain ⟨a4, c4, hv4⟩ := owns_slice h1
      subst hv4
      have hxD : Ext wC w' := (Kp.alloc (Kp.refl _ _) _).next k2 (fun i hi h => by simp [Value.ownBlock] at h; omega)
      have hD := HC.out.kp hxD (fun f => f)
      obtain ⟨wD, hWD⟩ : ∃ wD, w'.setCell ⟨wr.heap.size, 3, none⟩ (.slice a4 xn.length c4) = wD := ⟨_, rfl⟩
      have hkD : Kp (fun i => i = wr.heap.size) w' wD := by rw [← hWD]; exact Kp.set1 (S := fun i => i = wr.heap.size) (Kp.refl _ _) _ 3 _ rfl
      have hE : Blk wD wr.heap.size (rsE ⟨⟨xe, xp, xd, xn, xst⟩, .slice a4 xn.length c4⟩).toArray rsuT := by rw [← hWD]; exact hD.set 3 _
      have hnE : NmO wD (.slice a4 xn.length c4) xn := NmO.kpT (own_less h1 (Nat.zero_le _)) hkD (noT_blk hD (by decide))
      have hxE : Ext wr wD := (HXC.out.trans hxD).next hkD (fun i hi e => by omega)
      have f3 := hD.free 3
      have d3 := hD.cell 3 _ rfl
      have HE := Lib.hid hE
      have HNE := Lib.hid hnE
      have HXE2 := Lib.hid hxE
      have HYD := Lib.hid (HYS.out.ext hxE)
      have HWD := Lib.hid hWD
      have HONE := Lib.hid (rsE_one (w := wD) (x := ⟨⟨xe, xp, xd, xn, xst⟩, .slice a4 xn.length c4⟩) hnE)
      clear h1 k2 hxD hD hkD hE hnE hxE hWD c3 hcX HNA HONS HNK
      go_upto_region 6 with (fail)
      rw [HWD.out]
      clear f3 d3
      have hE := HE.out
      unfold rsE at hE
      have x0 := hE.cell 0 _ rfl
      have x1 := hE.cell 1 _ rfl
      have x2 := hE.cell 2 _ rfl
      have x3 := hE.cell 3 _ rfl
      have x4 := hE.cell 4 _ rfl
      have x5 := hE.cell 5 _ rfl
      have x6 := hE.cell 6 _ rfl
      have x7 := hE.cell 7 _ rfl
      have x8 := hE.cell 8 _ rfl
      have x9 := hE.cell 9 _ rfl
      have x10 := hE.cell 10 _ rfl
      clear hE
      go_wp2_with (at_builtin; refine wpList_appK rssT rsuT 11 (by decide) rss_facts rfl _ _ rfl (wB.heap.size) _ _ _ rfl (ownsRow.ext HYD.out.row ((Kp.refl _ _).alloc _)) _ 1 (rsE ⟨⟨xe, xp, xd, xn, xst⟩, .slice a4 xn.length c4⟩) rfl (Sl.of_block (heap_alloc_new wD _) rfl (by decide) (Nat.le_refl _)) Shp.some HONE.out ?d1 ?d2 ?_)
      case d1 => have := HYL.out; omega
      case d2 => have h1 := HX.out.size; have h2 := HXE2.out.size; simp; omega
      intro v' w' h1 k2
      obtain ⟨a5, l5, c5, hv5⟩ : ∃ a4 l4 c4, v' = .slice a4 l4 c4 := by obtain ⟨a4, c4, e, _⟩ := Sl.open (Sl.of_owns h1); exact ⟨_, _, _, e⟩
      subst hv5
      have hlow : ∀ i, (Value.slice ya ys.length yc).ownBlock = some i → wB.heap.size ≤ i := fun i hi => (own_in HYD.out.row hi).1
      have hxF : Ext wB w' := (((HX.out.trans HXE2.out).alloc _)).next k2 (fun i hi h => by have := hlow _ h; omega)
      have hrF : RsAt w' (wB.heap.size) (.slice a5 l5 c5) (ys ++ [⟨⟨xe, xp, xd, xn, xst⟩, .slice a4 xn.length c4⟩]) := (HYD.out.ext ((Kp.refl _ _).alloc _)).snoc (HNE.out.extO ((Kp.refl _ _).alloc _)) h1 k2 (HYD.out.ext ((Kp.refl _ _).alloc _)).noStr
      have HXF := Lib.hid hxF
      have HRF := Lib.hid hrF
      clear h1 k2 hlow hxF hrF x0 x1 x2 x3 x4 x5 x6 x7 x8 x9 x10 HE HWD
      go_wp2_with (fail)
      go_light
      refine ⟨⟨k + 1, ys ++ [⟨⟨xe, xp, xd, xn, xst⟩, .slice a4 xn.length c4⟩], ?_, ?_, HRF.out, ?_, HXF.out⟩, ?_⟩
      · omega
      · go_num
      · rw [HTK.out, List.map_append, HYE.out]; rfl
      · simp [intOf]; omega
    · obtain rfl : k = xs.length := by omega
      rw [List.take_length] at hye
      have hA2 := HA.out.kp hx (fun f => f)
      have hB2 := HB.out.kp hx (fun f => f)
      have HYE2 := Lib.hid hye
      unfold rplA at hA2
      have HA2 := Lib.hid hA2
      have HB2 := Lib.hid hB2
      obtain ⟨w3, hW3⟩ : ∃ w3, wr.setCell ⟨w.heap.size, 4, none⟩ (.slice ya ys.length yc) = w3 := ⟨_, rfl⟩
      have hk3 : Kp (fun i => i = w.heap.size) wr w3 := by rw [← hW3]; exact Kp.set1 (S := fun i => i = w.heap.size) (Kp.refl _ _) _ 4 _ rfl
      have hA3 : Blk w3 w.heap.size #[.int .i64 rn, .int .i64 rz, .int .i64 re, .int .i64 ra, .slice ya ys.length yc] rplT := by rw [← hW3]; exact hA2.set 4 _
      have hB3 := hB2.kp hk3 (by omega)
      have HB3 := Lib.hid hB3
      have HYS3 := Lib.hid (hys.kpT hk3 (noT_blk hA2 (by decide)) (noT_blk hA2 (by decide)))
      have HX3 : Hid (Ext w w3) := (HXB.out.trans hx).next hk3 (fun i hi e => by omega)
      have f4 := hA2.free 4
      have g4 := hA2.cell 4 _ rfl
      have HW3 := Lib.hid hW3
      clear hA2 hB2 hys hye hx hyl hW3 hk3
      go_upto_region 9 with (fail)
      rw [HW3.out]
      clear f4 g4
      unfold rpZ at hB3
      have x0 := hA3.cell 0 _ rfl
      have x1 := hA3.cell 1 _ rfl
      have x2 := hA3.cell 2 _ rfl
      have x3 := hA3.cell 3 _ rfl
      have x4 := hA3.cell 4 _ rfl
      have c0 := hB3.cell 0 _ rfl
      have c1 := hB3.cell 1 _ rfl
      have c2 := hB3.cell 2 _ rfl
      have c3 := hB3.cell 3 _ rfl
      have c4 := hB3.cell 4 _ rfl
      have fc0 := hB3.free 0
      have fc1 := hB3.free 1
      have fc2 := hB3.free 2
      have fc3 := hB3.free 3
      have fc4 := hB3.free 4
      clear hA3 hB3
      go_wp2_with (fail)
      go_light
      refine bodyPost_ret (v := .agg #[.int .i64 rn, .int .i64 rz, .int .i64 re, .int .i64 ra, .slice ya ys.length yc]) (by simp [results, Tryz.results78, go_sem, c0, c1, c2, c3, c4]) rfl ?_
      have k5 := kp_set5 w3 (w.heap.size + 1) (.int .i64 rn) (.int .i64 rz) (.int .i64 re) (.int .i64 ra) (.slice ya ys.length yc)
      exact ⟨.slice ya ys.length yc, rfl, ⟨ys, (HYS3.out.kpT k5 (noT_blk HB3.out (by decide)) (noT_blk HB3.out (by decide))).less (by have := HXB.out.size; omega), HYE2.out.trans HXE.out⟩, HX3.out.next k5 (fun i hi e => by omega)⟩
end Go.Proofs.YtjcdnkfjobenlaaGreatDoor

/- Walks: slices.IndexFunc, slices.DeleteFunc at sessions, with a closure that has a memory of its own. -/
namespace Go.Proofs.YtjcdnkfjobenlaaGreatDoor
set_option maxRecDepth 100000
open Go.RowKit Av

/-- What a closure that is asked of one watch after the other does: Inv: what stands behind so many; cur: the block of its own that it may write besides S0; rb: the row's block. -/
structure AskedS (g : Nat) (lb : Array Value) (p : SeV → Bool) (S0 : Nat → Prop) (base rb : Nat) (Inv : List SeV → Option Nat → World → Prop) : Prop where
  eg : ∀ args w, (callFunc g args).run Tryz.prog w = .ok (.enter g args) w
  call : ∀ seen cur x W, seen.length < 100000 → Inv seen cur W → Calls Tryz.prog g (#[.agg (scell x).toArray] ++ lb) W fun e w' => e = .returned (.bool (p x)) ∧ ∃ cur', Inv (seen ++ [x]) cur' w' ∧ Kp (fun i => S0 i ∨ cur = some i) W w'
  kp : ∀ seen cur W W', Inv seen cur W → Kp (fun i => i = rb) W W' → Inv seen cur W'
  cur : ∀ seen cur W i, Inv seen cur W → cur = some i → base ≤ i ∧ i < W.heap.size ∧ i ≠ rb
  s0 : ∀ i, S0 i → i ≠ rb ∧ i < base
/-- Where the search ends. -/
def FoundS (p : SeV → Bool) (Inv : List SeV → Option Nat → World → Prop) (xs : List SeV) (e : Ending) (w' : World) : Prop :=
  (e = .returned (.int .i64 (-1)) ∧ (∀ x ∈ xs, p x = false) ∧ ∃ cur, Inv xs cur w') ∨ ∃ k : Nat, ∃ hk : k < xs.length, e = .returned (.int .i64 k) ∧ (∀ x ∈ xs.take k, p x = false) ∧ p xs[k] = true ∧ ∃ cur, Inv (xs.take (k + 1)) cur w'
def IFRelS (p : SeV → Bool) (S0 : Nat → Prop) (base : Nat) (Inv : List SeV → Option Nat → World → Prop) (xs : List SeV) (w : World) (i : Value) (wr : World) : Prop :=
  ∃ k : Nat, k ≤ xs.length ∧ i = .int .i64 k ∧ (∀ x ∈ xs.take k, p x = false) ∧ (∃ cur, Inv (xs.take k) cur wr) ∧ Kp (fun i => S0 i ∨ base ≤ i) w wr
set_option maxHeartbeats 1600000 in
theorem indexFuncS_any {g : Nat} {lb : Array Value} {p : SeV → Bool} {S0 : Nat → Prop} {base rb : Nat} {Inv : List SeV → Option Nat → World → Prop} (hA : AskedS g lb p S0 base rb Inv) (ad : Option Addr) (xs : List SeV) (cap : Nat) (w : World)
    (had : xs ≠ [] → ad = some ⟨rb, 0, none⟩ ∧ rb < base ∧ RowB w rb 190 3 cap (xs.flatMap scell)) (hm : xs.length ≤ 100000) (h0 : ∃ cur, Inv [] cur w) :
    Calls Tryz.prog 159 #[.slice ad xs.length cap, .func (.func g) #[] lb] w fun e w' => FoundS p Inv xs e w' ∧ Kp (fun i => S0 i ∨ base ≤ i) w w' := by
  have eg := hA.eg
  have HAD := Lib.hid had
  have H0 := Lib.hid h0
  have HA := Lib.hid hA
  clear had h0 hA
  go_enter Tryz.func159, Tryz.ntmps159
  go_wp2_with (fail)
  go_loopw [8] (fun i wr => IFRelS p S0 base Inv xs w i wr) (fun i _ => xs.length - (intOf i).toNat)
  case atStart => exact ⟨0, Nat.zero_le _, rfl, by simp, by simpa using H0.out, Kp.refl _ _⟩
  case round =>
    obtain ⟨k, hk, rfl, hall, ⟨cur, hinv⟩, hkp⟩ := hrel
    have HALL := Lib.hid hall
    have HK := Lib.hid hkp
    have HI := Lib.hid hinv
    clear hall hkp hinv
    by_cases hlt : k < xs.length
    · have hne : xs ≠ [] := by rintro rfl; simp at hlt
      obtain ⟨rfl, hrb, hrow⟩ := HAD.out hne
      have hrow2 : RowB wr rb 190 3 cap (xs.flatMap scell) := hrow.kp HK.out (fun f => Or.elim f (fun h => (HA.out.s0 rb h).1 rfl) (fun h => by omega))
      have c0 := hrow2.cell (i := k * 3) (v := .int .i64 xs[k].id) (rowK_cell scell 3 (fun _ => rfl) xs k hlt 0 (by decide))
      have c1 := hrow2.cell (i := k * 3 + 1) (v := .int .i64 xs[k].span) (rowK_cell scell 3 (fun _ => rfl) xs k hlt 1 (by decide))
      have c2 := hrow2.cell (i := k * 3 + 2) (v := .int .i64 xs[k].till) (rowK_cell scell 3 (fun _ => rfl) xs k hlt 2 (by decide))
      have HC := Lib.hid (HA.out.call (xs.take k) cur xs[k] wr (by rw [List.length_take]; omega) HI.out)
      have HCUR := Lib.hid (HA.out.cur (xs.take k) cur wr)
      have hcon : Calls Tryz.prog g (#[.agg #[.int .i64 xs[k].id, .int .i64 xs[k].span, .int .i64 xs[k].till]] ++ lb) wr fun e w' => e = .returned (.bool (p xs[k])) ∧ ∃ cur', Inv (xs.take (k + 1)) cur' w' ∧ Kp (fun i => S0 i ∨ base ≤ i) w w' := by
        refine HC.out.mono ?_
        rintro e w' ⟨rfl, cur', h1, h2⟩
        refine ⟨rfl, cur', by rw [List.take_succ_eq_append_getElem hlt]; exact h1, HK.out.next h2 ?_⟩
        rintro i hi (h | h)
        · exact .inl h
        · exact .inr (HCUR.out i HI.out h).1
      have HCON := Lib.hid hcon
      clear hcon hrow hrow2 hrb HC HCUR
      cases hp : p xs[k] with
      | true =>
        have HP := Lib.hid hp
        rw [hp] at HCON
        clear hp
        go_wp2_with (go_at_fn g; refine HCON.out.mono ?_; rintro e w1 ⟨rfl, cur', h1, h2⟩; have H1 := Lib.hid h1; have H2 := Lib.hid h2; clear h1 h2)
        go_ret
        go_light
        exact ⟨.inr ⟨k, hlt, rfl, HALL.out, HP.out, cur', H1.out⟩, H2.out⟩
      | false =>
        have HP := Lib.hid hp
        rw [hp] at HCON
        clear hp
        go_wp2_with (go_at_fn g; refine HCON.out.mono ?_; rintro e w1 ⟨rfl, cur', h1, h2⟩; have H1 := Lib.hid h1; have H2 := Lib.hid h2; clear h1 h2)
        go_light
        refine ⟨⟨k + 1, by omega, by go_num, fun x hx => ?_, ⟨cur', H1.out⟩, H2.out⟩, by simp [intOf]; omega⟩
        rw [List.take_succ_eq_append_getElem hlt] at hx
        rcases List.mem_append.1 hx with hx | hx
        · exact HALL.out x hx
        · simp only [List.mem_singleton] at hx; subst hx; exact HP.out
    · have e1 : xs.take k = xs := List.take_of_length_le (by omega)
      rw [e1] at HALL HI
      clear e1 HAD
      go_wp2_with (fail)
      go_ret
      go_light
      exact ⟨.inl ⟨rfl, HALL.out, cur, HI.out⟩, HK.out⟩
end Go.Proofs.YtjcdnkfjobenlaaGreatDoor

/- Walks: slices.DeleteFunc at sessions. -/
namespace Go.Proofs.YtjcdnkfjobenlaaGreatDoor
set_option maxRecDepth 100000
open Go.RowKit Av

theorem keptS_snoc {p : SeV → Bool} {xs : List SeV} {j : Nat} (hj : j < xs.length) : (xs.take (j + 1)).filter (fun x => !p x) = (xs.take j).filter (fun x => !p x) ++ (if p xs[j] then [] else [xs[j]]) := by
  rw [List.take_succ_eq_append_getElem hj, List.filter_append]
  cases h : p xs[j] <;> simp [h]
structure DelStS (p : SeV → Bool) (xs dk : List SeV) (i j : Nat) : Prop where
  hj : j ≤ xs.length
  hi : i = ((xs.take j).filter (fun x => !p x)).length
  lt : i < j
  len : dk.length = xs.length
  low : dk.take i = (xs.take j).filter (fun x => !p x)
  high : dk.drop j = xs.drop j
theorem DelStS.at {p : SeV → Bool} {xs dk : List SeV} {i j : Nat} (h : DelStS p xs dk i j) (hlt : j < xs.length) : dk[j]'(by rw [h.len]; exact hlt) = xs[j] := by
  have h1 := h.high
  rw [List.drop_eq_getElem_cons (by rw [h.len]; exact hlt), List.drop_eq_getElem_cons hlt] at h1
  exact (List.cons.inj h1).1
theorem DelStS.skip {p : SeV → Bool} {xs dk : List SeV} {i j : Nat} (h : DelStS p xs dk i j) (hlt : j < xs.length) (hp : p xs[j] = true) : DelStS p xs dk i (j + 1) := by
  have hk : (xs.take (j + 1)).filter (fun x => !p x) = (xs.take j).filter (fun x => !p x) := by rw [keptS_snoc hlt, hp, if_pos rfl, List.append_nil]
  refine ⟨hlt, by rw [hk]; exact h.hi, by have := h.lt; omega, h.len, by rw [hk]; exact h.low, ?_⟩
  have := congrArg (List.drop 1) h.high
  simpa [List.drop_drop] using this
theorem DelStS.keep {p : SeV → Bool} {xs dk : List SeV} {i j : Nat} (h : DelStS p xs dk i j) (hlt : j < xs.length) (hp : p xs[j] = false) : DelStS p xs (dk.set i xs[j]) (i + 1) (j + 1) := by
  have hk : (xs.take (j + 1)).filter (fun x => !p x) = (xs.take j).filter (fun x => !p x) ++ [xs[j]] := by rw [keptS_snoc hlt, hp]; rfl
  have hlt2 := h.lt
  have hlen := h.len
  refine ⟨hlt, by rw [hk, List.length_append, ← h.hi]; rfl, by omega, by rw [List.length_set]; exact h.len, ?_, ?_⟩
  · rw [hk, ← h.low, List.take_set, List.take_succ_eq_append_getElem (by omega : i < dk.length), List.set_append_right _ _ (by rw [List.length_take]; omega)]
    congr 1
    rw [List.length_take, Nat.min_eq_left (by omega), Nat.sub_self]; rfl
  · have h2 : (dk.set i xs[j]).drop (j + 1) = dk.drop (j + 1) := by rw [List.drop_set_of_lt (by omega)]
    rw [h2]
    have := congrArg (List.drop 1) h.high
    simpa [List.drop_drop] using this
end Go.Proofs.YtjcdnkfjobenlaaGreatDoor

/- An append into a row's own spare places, told cell by cell. No program. -/
namespace Av
set_option maxRecDepth 100000
open Go Go.RowKit
theorem set_same1 {l : List Value} {i : Nat} {v : Value} (h : l[i]? = some v) : l.set i v = l := by
  obtain ⟨hi, rfl⟩ := List.getElem?_eq_some_iff.1 h
  exact List.set_getElem_self hi
end Av

/- Walks: sessions: New, find, Live, Touch, Open. -/
namespace Go.Proofs.YtjcdnkfjobenlaaGreatDoor
set_option maxRecDepth 100000
open Go.RowKit Av

abbrev ssT : TypeId := 185
abbrev seT : TypeId := 190
abbrev sesT : TypeId := 183
theorem se_facts : ElemOk Tryz.prog sesT seT 3 := ⟨by kernel_rfl, by kernel_rfl⟩
/-- Sessions at block b, the row in block ro. -/
def SesR (w : World) (b : Nat) (ro : Option Nat) (s : SsV) : Prop :=
  ∃ v, Blk w b #[.int .i64 s.room, .int .i64 s.now, .int .i64 s.next, v] ssT ∧ w.ownsRow 0 seT 3 v s.l.length (s.l.flatMap scell) ∧ v.ownBlock = ro ∧ ∀ i, ro = some i → i ≠ b
theorem SesR.kp {S : Nat → Prop} {w w' : World} {b : Nat} {ro : Option Nat} {s : SsV} (h : SesR w b ro s) (k : Kp S w w') (hb : ¬ S b) (hr : ∀ i, ro = some i → ¬ S i) : SesR w' b ro s := by
  obtain ⟨v, h1, h2, h3, h4⟩ := h
  exact ⟨v, h1.kp k hb, ownsRow.kp h2 k (fun i hi => hr i (by rw [← h3, hi])), h3, h4⟩
theorem SesR.ext {w w' : World} {b : Nat} {ro : Option Nat} {s : SsV} (h : SesR w b ro s) (k : Ext w w') : SesR w' b ro s := h.kp k (fun f => f) (fun _ _ f => f)
theorem SesR.lt {w : World} {b : Nat} {ro : Option Nat} {s : SsV} (h : SesR w b ro s) : b < w.heap.size ∧ ∀ i, ro = some i → i < w.heap.size := by
  obtain ⟨v, h1, h2, h3, h4⟩ := h
  refine ⟨h1.lt, fun i hi => ?_⟩
  subst h3
  obtain ⟨_, ⟨rfl, _⟩ | ⟨g, cap, cur, rfl, _, hg, _⟩⟩ := h2
  · simp [Value.ownBlock] at hi
  · simp only [Value.ownBlock, Option.some.injEq] at hi
    subst hi
    exact (Array.getElem?_eq_some_iff.1 hg).1
theorem SesR.open {w : World} {b : Nat} {ro : Option Nat} {s : SsV} (h : SesR w b ro s) : ∃ a c, Blk w b #[.int .i64 s.room, .int .i64 s.now, .int .i64 s.next, .slice a s.l.length c] ssT ∧ w.ownsRow 0 seT 3 (.slice a s.l.length c) s.l.length (s.l.flatMap scell) ∧ (Value.slice a s.l.length c).ownBlock = ro ∧ (∀ i, ro = some i → i ≠ b) ∧ (∀ x, a = some x → ro = some x.block) := by
  obtain ⟨v, h1, h2, h3, h4⟩ := h
  obtain ⟨a, c, rfl, _⟩ := Sl.open (Sl.of_owns h2)
  refine ⟨a, c, h1, h2, h3, h4, fun x hx => ?_⟩
  subst hx
  rw [← h3]; rfl
theorem SesR.mk {w : World} {b : Nat} {ro : Option Nat} {s : SsV} {v : Value} (h1 : Blk w b #[.int .i64 s.room, .int .i64 s.now, .int .i64 s.next, v] ssT) (h2 : w.ownsRow 0 seT 3 v s.l.length (s.l.flatMap scell)) (h3 : v.ownBlock = ro) (h4 : ∀ i, ro = some i → i ≠ b) : SesR w b ro s := ⟨v, h1, h2, h3, h4⟩
set_option maxHeartbeats 800000 in
theorem sesNew_any (w : World) : Calls Tryz.prog 72 #[.int .i64 64] w fun e w' => e = .returned (.tuple #[.pointer (some ⟨w.heap.size, 0, none⟩), .int .i64 0]) ∧ SesR w' w.heap.size none ⟨64, 0, 1, []⟩ ∧ Ext w w' := by
  go_enter Tryz.func72, Tryz.ntmps72
  go_wp2_with (fail)
  go_ret2
  refine ⟨by simp, SesR.mk (v := .slice none 0 0) (heap_alloc_new w _) ⟨rfl, .inl ⟨rfl, rfl⟩⟩ rfl (by simp), (Kp.refl _ _).alloc _⟩
/-- The closure of find. -/
def FiInv (sb : Nat) (s : Int) (rb : Nat) (base : Nat) (_seen : List SeV) (cur : Option Nat) (W : World) : Prop := cur = none ∧ W.cell? ⟨sb, 0, none⟩ = some (.int .i64 s) ∧ sb ≠ rb ∧ base ≤ W.heap.size
set_option maxHeartbeats 800000 in
theorem findAsk (sb : Nat) (s : Int) (rb base : Nat) : AskedS 160 #[.pointer (some ⟨sb, 0, none⟩)] (isS s) (fun _ => False) base rb (FiInv sb s rb base) := by
  refine ⟨enters_of Tryz.func160 (by kernel_rfl) rfl, ?_, ?_, ?_, ?_⟩
  · intro seen cur x W _ hI
    obtain ⟨rfl, hc, hne, hbs⟩ := hI
    obtain ⟨xi, xp, xt⟩ := x
    have hlt := World.block_lt_of_cell? W _ hc
    have HH := Lib.hid (show ∀ W', Ext W W' → FiInv sb s rb base (seen ++ [⟨xi, xp, xt⟩]) none W' from fun W' hx => ⟨rfl, hx.cell hc (fun f => f), hne, Nat.le_trans hbs hx.size⟩)
    have hcX : ∀ o : Obj, (W.alloc o).cell? ⟨sb, 0, none⟩ = some (.int .i64 s) := fun o => Lib.cell?_alloc_some o hc
    clear hbs hne
    go_enter Tryz.func160, Tryz.ntmps160
    go_wp2_with (fail)
    go_ret
    go_light
    refine ⟨ret_bool ?_, ⟨none, HH.out _ ((Kp.refl _ _).alloc _)⟩, (Kp.refl _ _).alloc _⟩
    first | rfl | (unfold isS; rw [Bool.eq_iff_iff]; simp)
  · intro seen cur W W' hI hk
    obtain ⟨rfl, hc, hne, hbs⟩ := hI
    exact ⟨rfl, hk.cell hc hne, hne, Nat.le_trans hbs hk.size⟩
  · intro seen cur W i hI he
    rw [hI.1] at he; cases he
  · intro i f; exact f.elim
def idxF (l : List SeV) (id : Int) : Int := match findS l id with
  | none => -1
  | some k => k
set_option maxHeartbeats 1600000 in
theorem sesFind_any (b : Nat) (ro : Option Nat) (s : SsV) (id : Int) (w : World) (h : SesR w b ro s) (hn : s.l.length ≤ 100000) :
    Calls Tryz.prog 123 #[.pointer (some ⟨b, 0, none⟩), .int .i64 id] w fun e w' => e = .returned (.int .i64 (idxF s.l id)) ∧ Ext w w' := by
  obtain ⟨hlt, hrl⟩ := h.lt
  obtain ⟨a, c, hb, hown, hro, hrb, had⟩ := h.open
  obtain ⟨W, hW⟩ : ∃ W, w.alloc (.cells #[.int .i64 id] 2) = W := ⟨_, rfl⟩
  have hx : Ext w W := by rw [← hW]; exact (Kp.refl _ _).alloc _
  have hs : Blk W w.heap.size #[.int .i64 id] 2 := by rw [← hW]; exact heap_alloc_new w _
  have hsz : W.heap.size = w.heap.size + 1 := by rw [← hW]; simp
  have c1 := (hb.kp hx (fun f => f)).cell 3 _ rfl
  have hcon : Calls Tryz.prog 159 #[.slice a s.l.length c, .func (.func 160) #[] #[.pointer (some ⟨w.heap.size, 0, none⟩)]] W fun e w' => e = .returned (.int .i64 (idxF s.l id)) ∧ Ext w w' := by
    have hne : w.heap.size ≠ ro.getD W.heap.size := by
      cases hr : ro with
      | none => simp; omega
      | some r => have := hrl r hr; simp; omega
    refine (indexFuncS_any (findAsk w.heap.size id (ro.getD W.heap.size) W.heap.size) a s.l c W (fun hn => ?_) hn ⟨none, rfl, hs.cell 0 _ rfl, hne, Nat.le_refl _⟩).mono ?_
    · have hown2 := ownsRow.ext hown hx
      cases ha : a with
      | none =>
        rw [ha] at hown2
        obtain ⟨_, h2 | ⟨g, c, cur, hv, _⟩⟩ := hown2
        · exact absurd (List.eq_nil_of_length_eq_zero h2.2) hn
        · simp at hv
      | some x =>
        rw [ha] at hown2
        obtain ⟨r, rfl, h1, _⟩ := RowB.of_owns hown2
        have h2 := had _ ha
        have h3 := hrl _ h2
        simp only at h2 h3
        rw [h2]
        exact ⟨rfl, by simp; omega, h1⟩
    · rintro e w' ⟨hf, hk⟩
      have hx' : Ext w w' := hx.trans (hk.mono (fun i hi e => by
        rcases e with e | e
        · exact e
        · omega))
      rcases hf with ⟨rfl, hall, _⟩ | ⟨k, hk, rfl, hall, hp, _⟩
      · exact ⟨by unfold idxF; rw [findS_none hall], hx'⟩
      · exact ⟨by unfold idxF; rw [findS_at hk hall hp], hx'⟩
  have HCON := Lib.hid hcon
  clear h hb hown hcon hx hs hrb hrl hlt hsz hro had
  go_enter Tryz.func123, Tryz.ntmps123
  go_wp2_with (fail)
  refine HCON.out.mono ?_
  rintro e w1 ⟨rfl, hx1⟩
  have HX1 := Lib.hid hx1
  clear hx1
  go_wp2_with (fail)
  go_ret
  exact ⟨rfl, HX1.out⟩
set_option maxHeartbeats 800000 in
theorem sesLive_any (b : Nat) (ro : Option Nat) (s : SsV) (id : Int) (w : World) (h : SesR w b ro s) (hn : s.l.length ≤ 100000) :
    Calls Tryz.prog 81 #[.pointer (some ⟨b, 0, none⟩), .int .i64 id] w fun e w' => e = .returned (.bool (liveS s id)) ∧ Ext w w' := by
  have HF := Lib.hid (sesFind_any b ro s id w h hn)
  have HL : Hid ((findS s.l id = none ∧ liveS s id = false ∧ idxF s.l id = -1) ∨ ∃ k : Nat, findS s.l id = some k ∧ liveS s id = true ∧ idxF s.l id = k) := by
    unfold liveS idxF
    cases findS s.l id with
    | none => exact .inl ⟨rfl, rfl, rfl⟩
    | some k => exact .inr ⟨k, rfl, rfl, rfl⟩
  clear h
  rcases HL.out with ⟨_, h2, h3⟩ | ⟨k, _, h2, h3⟩
  all_goals
    rw [h3] at HF
    rw [h2]
    clear h2 h3 HL
    go_enter Tryz.func81, Tryz.ntmps81
    go_wp2_with (fail)
    refine HF.out.mono ?_
    rintro e w1 ⟨rfl, hx1⟩
    have HX1 := Lib.hid hx1
    clear hx1
    go_wp2_with (fail)
    go_ret
    go_light
    exact ⟨ret_bool (by simp), HX1.out⟩
end Go.Proofs.YtjcdnkfjobenlaaGreatDoor
