/- Walks of package tree: change. -/
import Derived.Test.YtdagikbdpeblhaaGreatDoorAvG13
namespace Go.Proofs.YtdagikbdpeblhaaGreatDoor
set_option maxRecDepth 100000
open Go.RowKit Av

def rsP (p : ByteArray) : Array Value := #[.int .i64 0, .string p, .string ⟨#[]⟩, .slice none 0 0, .int .i64 0, .int .i64 0, .int .i64 0, .int .i64 0, .int .i64 0, .int .i64 0, .int .i64 0]
def rsQ (p : ByteArray) (n : NodeV) : Array Value := #[.int .i64 0, .string p, .string ⟨#[]⟩, .slice none 0 0, .int .i64 n.made, .int .i64 n.chg, .int .i64 n.ver, .int .i64 n.kids, .int .i64 n.own, .int .i64 n.len, .int .i64 n.cnt]
set_option maxHeartbeats 12800000 in
theorem change_any (base b m : Nat) (room : Int) (t : Tr) (k : Int) (p d : ByteArray) (v f z : Int) (only : Bool) (w0 w : World) (hT : TreeR w base b m room t) (hok : TrOk t) (hG0 : GT w0) (hb0 : w0.heap.size ≤ base) (hE : Ext w0 w) (hp : p.size ≤ 1000000) :
    Calls Tryz.prog 96 #[.pointer (some ⟨b, 0, none⟩), .agg #[.int .i64 k, .string p, .string d, .int .i64 v, .int .i64 f], .int .i64 z, .bool only] w fun e w' => DoPost w base b m room t (changeP (pl t) ⟨k, p, d, v, f⟩ z only) e w' := by
  obtain ⟨wA, hWA⟩ : ∃ wA, w.alloc (.cells #[.int .i64 k, .string p, .string d, .int .i64 v, .int .i64 f] 33) = wA := ⟨_, rfl⟩
  have hxA : Ext w wA := by rw [← hWA]; exact (Kp.refl _ _).alloc _
  have hA : Blk wA w.heap.size #[.int .i64 k, .string p, .string d, .int .i64 v, .int .i64 f] 33 := by rw [← hWA]; exact heap_alloc_new w _
  obtain ⟨wB, hWB⟩ : ∃ wB, wA.alloc (.cells rsZ rsuT) = wB := ⟨_, rfl⟩
  have hxB : Ext wA wB := by rw [← hWB]; exact (Kp.refl _ _).alloc _
  have hsA : wA.heap.size = w.heap.size + 1 := by rw [← hWA]; exact World.size_alloc _ _
  have hB : Blk wB (w.heap.size + 1) rsZ rsuT := by rw [← hWB, ← hsA]; exact heap_alloc_new wA _
  have HAB := Lib.hid (hA.kp hxB (fun f => f))
  have HB := Lib.hid hB
  have HXB := Lib.hid (hxA.ext hxB)
  have HTB := Lib.hid (hT.ext (hxA.ext hxB))
  have HWA := Lib.hid hWA
  unfold rsZ at hWB
  have HWB := Lib.hid hWB
  have HFR : Hid (∀ i, nodeFr m t i → i < w.heap.size) := by
    rintro i (rfl | ⟨e, he, rfl⟩)
    · exact hT.map.lt
    · exact (hT.nod e he).lt
  have HOK := Lib.hid hok
  have HX := Lib.hid (And.intro hb0 (And.intro hE (And.intro hG0 hp)))
  have HC : Hid (changeP (pl t) ⟨k, p, d, v, f⟩ z only = match mget (pl t) p with
    | none => (pl t, failR 4)
    | some n => if wrongB ⟨k, p, d, v, f⟩ n = true then (pl t, failR 6)
      else if k = 2 then (if 0 < n.names.length then (pl t, failR 7) else (if only then pl t else tellP ndRem (mdel (pl t) p) p, ⟨0, p, ⟨#[]⟩, [], ndZ⟩))
      else if k = 3 then (if only then pl t else mset (pl t) p (ndWrite n z d), ⟨0, p, ⟨#[]⟩, [], ndWrite n z d⟩)
      else (pl t, ⟨0, p, ⟨#[]⟩, [], ndZ⟩)) := rfl
  generalize changeP (pl t) ⟨k, p, d, v, f⟩ z only = R at HC ⊢
  clear hWA hxA hA hWB hxB hB hsA hok hb0 hE hG0 hp hT
  go_enter Tryz.func96, Tryz.ntmps96
  go_upto_region 1 with (fail)
  rw [HWA.out]
  rw [HWB.out]
  refine' wp_region_dag0 ((12, .val _) :: (13, .val _) :: (14, .val _) :: (15, .val _) :: (16, .val _) :: (17, .val _) :: (18, .val _) :: (9, .val _) :: []) (by exact ⟨fun _ _ _ _ _ => trivial, ⟨fun _ _ _ _ _ => trivial, ⟨fun _ _ _ _ _ => trivial, ⟨fun _ _ _ _ _ => trivial, ⟨fun _ _ _ _ _ => trivial, ⟨fun _ _ _ _ _ => trivial, ⟨fun _ _ _ _ _ => trivial, ⟨fun _ _ _ _ _ => trivial, trivial⟩⟩⟩⟩⟩⟩⟩⟩) (by kernel_rfl) (by kernel_rfl) (by kernel_rfl) ?_
  rotate_left 8
  repeat (first
    | (refine wpD_skipv ?_ ?_ ?_
       focus rfl
       focus rfl
       simp only [Act.put, List.setIfInBounds_toArray, List.set_cons_succ, List.set_cons_zero])
    | (refine' wpD_val (c := _) ?_ (fun w => Kp.refl _ w) ?_ (fun wq hwq hfq => ?_) ?_
       rotate_left
       focus rfl
       focus rfl
       focus ((have a1 := (HAB.out.kp hwq (fun f => f)).cell 1 _ rfl; have d1 := (HTB.out.blk.kp hwq (fun f => f)).cell 1 _ rfl; have hlk := tree_look (HTB.out.ext hwq) p); go_simp; first | done | rfl)
       simp only [Act.put, List.setIfInBounds_toArray, List.set_cons_succ, List.set_cons_zero])
    | (refine' wpD_con (c := _) ?_ ?_ (fun wq hwq hfq => ?_) ?_
       rotate_left
       focus rfl
       focus rfl
       focus ((have a1 := (HAB.out.kp hwq (fun f => f)).cell 1 _ rfl; have d1 := (HTB.out.blk.kp hwq (fun f => f)).cell 1 _ rfl; have hlk := tree_look (HTB.out.ext hwq) p); go_simp; (try (rw [dUpon_enter])); fail)
       simp only [Act.put, List.setIfInBounds_toArray, List.set_cons_succ, List.set_cons_zero])
    | fail)
  refine wpD_nil ?_
  intro w2 hx2 hend
  clear hend
  have HX2 := Lib.hid hx2
  clear hx2
  cases hg : mget t p with
  | none =>
    have HE : Hid (R = (pl t, failR 4)) := by show _ = _; rw [HC.out, pl_get, hg]; rfl
    clear hg HC
    go_wp2_with (fail)
    refine (fail_any 4 _).mono ?_
    rintro e9 w9 ⟨rfl, hx9⟩
    have hB9 := (HB.out.kp HX2.out (fun f => f)).kp hx9 (fun f => f)
    have HT9 := Lib.hid ((HTB.out.ext HX2.out).ext hx9)
    have HB9 := Lib.hid hB9
    have HX9 := Lib.hid ((HXB.out.ext HX2.out).ext hx9)
    unfold rsZ at hB9
    have c0 := hB9.cell 0 _ rfl
    have c1 := hB9.cell 1 _ rfl
    have c2 := hB9.cell 2 _ rfl
    have c3 := hB9.cell 3 _ rfl
    have c4 := hB9.cell 4 _ rfl
    have c5 := hB9.cell 5 _ rfl
    have c6 := hB9.cell 6 _ rfl
    have c7 := hB9.cell 7 _ rfl
    have c8 := hB9.cell 8 _ rfl
    have c9 := hB9.cell 9 _ rfl
    have c10 := hB9.cell 10 _ rfl
    have fc0 := hB9.free 0
    have fc1 := hB9.free 1
    have fc2 := hB9.free 2
    have fc3 := hB9.free 3
    have fc4 := hB9.free 4
    have fc5 := hB9.free 5
    have fc6 := hB9.free 6
    have fc7 := hB9.free 7
    have fc8 := hB9.free 8
    have fc9 := hB9.free 9
    have fc10 := hB9.free 10
    clear hB9 hx9
    unfold resA
    go_wp2_with (fail)
    go_light
    refine bodyPost_ret (v := resA 4 ⟨#[]⟩ ⟨#[]⟩ (.slice none 0 0) ndZ) (by simp [results, Tryz.results96, go_sem, resA, ndZ, c0, c1, c2, c3, c4, c5, c6, c7, c8, c9, c10]) rfl ?_
    rw [HE.out]
    have k11 := kp_set11 w9 (w.heap.size + 1) (.int .i64 4) (.string ⟨#[]⟩) (.string ⟨#[]⟩) (.slice none 0 0) (.int .i64 0) (.int .i64 0) (.int .i64 0) (.int .i64 0) (.int .i64 0) (.int .i64 0) (.int .i64 0)
    exact ⟨t, .slice none 0 0, rfl, own_nil _, HT9.out.aside HB9.out (by decide) (by decide) (by decide) k11, rfl, (Ext.kp HX9.out).next k11 (fun i hi e => by omega), Fresh.refl _ _⟩
  | some gn =>
    obtain ⟨g, n⟩ := gn
    have HG := Lib.hid hg
    have hmem := mget_mem hg
    have HNB := Lib.hid (HTB.out.nod _ hmem)
    have HNO := Lib.hid (HOK.out _ hmem)
    have hc2 := HC.out
    rw [pl_get, hg] at hc2
    simp only [Option.map_some] at hc2
    have HC2 := Lib.hid hc2
    clear hc2
    have ha2 := HAB.out.kp HX2.out (fun f => f)
    have HWR := Lib.hid (wrong_any k v f p d g n w2 (HNB.out.ext HX2.out))
    clear hg hmem HC
    have a0 := ha2.cell 0 _ rfl
    have a1 := ha2.cell 1 _ rfl
    have a2 := ha2.cell 2 _ rfl
    have a3 := ha2.cell 3 _ rfl
    have a4 := ha2.cell 4 _ rfl
    clear ha2
    go_wp2_with (fail)
    refine HWR.out.mono ?_
    rintro e1 w3 ⟨rfl, hx3⟩
    have HX3 := Lib.hid (HX2.out.ext hx3)
    clear hx3 HWR a0 a1 a2 a3 a4
    cases hwr : (v != -1 && v != n.ver) with
    | true =>
      have HE : Hid (R = (pl t, failR 6)) := by show _ = _; rw [HC2.out]; exact if_pos hwr
      clear hwr HC2
      go_wp2_with (fail)
      refine (fail_any 6 _).mono ?_
      rintro e9 w9 ⟨rfl, hx9⟩
      have hB9 := (HB.out.kp HX3.out (fun f => f)).kp hx9 (fun f => f)
      have HT9 := Lib.hid ((HTB.out.ext HX3.out).ext hx9)
      have HB9 := Lib.hid hB9
      have HX9 := Lib.hid ((HXB.out.ext HX3.out).ext hx9)
      unfold rsZ at hB9
      have c0 := hB9.cell 0 _ rfl
      have c1 := hB9.cell 1 _ rfl
      have c2 := hB9.cell 2 _ rfl
      have c3 := hB9.cell 3 _ rfl
      have c4 := hB9.cell 4 _ rfl
      have c5 := hB9.cell 5 _ rfl
      have c6 := hB9.cell 6 _ rfl
      have c7 := hB9.cell 7 _ rfl
      have c8 := hB9.cell 8 _ rfl
      have c9 := hB9.cell 9 _ rfl
      have c10 := hB9.cell 10 _ rfl
      have fc0 := hB9.free 0
      have fc1 := hB9.free 1
      have fc2 := hB9.free 2
      have fc3 := hB9.free 3
      have fc4 := hB9.free 4
      have fc5 := hB9.free 5
      have fc6 := hB9.free 6
      have fc7 := hB9.free 7
      have fc8 := hB9.free 8
      have fc9 := hB9.free 9
      have fc10 := hB9.free 10
      clear hB9 hx9
      unfold resA
      go_wp2_with (fail)
      go_light
      refine bodyPost_ret (v := resA 6 ⟨#[]⟩ ⟨#[]⟩ (.slice none 0 0) ndZ) (by simp [results, Tryz.results96, go_sem, resA, ndZ, c0, c1, c2, c3, c4, c5, c6, c7, c8, c9, c10]) rfl ?_
      rw [HE.out]
      have k11 := kp_set11 w9 (w.heap.size + 1) (.int .i64 6) (.string ⟨#[]⟩) (.string ⟨#[]⟩) (.slice none 0 0) (.int .i64 0) (.int .i64 0) (.int .i64 0) (.int .i64 0) (.int .i64 0) (.int .i64 0) (.int .i64 0)
      exact ⟨t, .slice none 0 0, rfl, own_nil _, HT9.out.aside HB9.out (by decide) (by decide) (by decide) k11, rfl, (Ext.kp HX9.out).next k11 (fun i hi e => by omega), Fresh.refl _ _⟩
    | false =>
      have hc3 := HC2.out
      rw [if_neg (show ¬ wrongB ⟨k, p, d, v, f⟩ n = true by show ¬ (v != -1 && v != n.ver) = true; rw [hwr]; decide)] at hc3
      have HC3 := Lib.hid hc3
      clear hc3
      clear hwr HC2
      have ha3 := HAB.out.kp HX3.out (fun f => f)
      obtain ⟨nv, hnb, hno⟩ := HNB.out.ext HX3.out
      obtain ⟨na, nc, rfl⟩ := owns_slice hno
      have HNB3 := Lib.hid hnb
      have HNO3 := Lib.hid hno
      unfold ndA at hnb
      clear hno
      by_cases hk2 : k = 2
      · subst hk2
        have hc4 := HC3.out
        rw [if_pos rfl] at hc4
        have HC4 := Lib.hid hc4
        clear HC3 hc4
        by_cases hnm : 0 < n.names.length
        · have HE : Hid (R = (pl t, failR 7)) := HC4.out.trans (if_pos hnm)
          have hp0 : (0 : Int) < (n.names.length : Int) := by omega
          clear hnm HC4
          have a0 := ha3.cell 0 _ rfl
          have a1 := ha3.cell 1 _ rfl
          have a2 := ha3.cell 2 _ rfl
          have a3 := ha3.cell 3 _ rfl
          have a4 := ha3.cell 4 _ rfl
          have j0 := hnb.cell 0 _ rfl
          have j1 := hnb.cell 1 _ rfl
          have j2 := hnb.cell 2 _ rfl
          have j3 := hnb.cell 3 _ rfl
          have j4 := hnb.cell 4 _ rfl
          have j5 := hnb.cell 5 _ rfl
          have j6 := hnb.cell 6 _ rfl
          have j7 := hnb.cell 7 _ rfl
          have j8 := hnb.cell 8 _ rfl
          have j9 := hnb.cell 9 _ rfl
          clear ha3 hnb
          go_wp2_with (fail)
          refine (fail_any 7 _).mono ?_
          rintro e9 w9 ⟨rfl, hx9⟩
          have hB9 := (HB.out.kp HX3.out (fun f => f)).kp hx9 (fun f => f)
          have HT9 := Lib.hid ((HTB.out.ext HX3.out).ext hx9)
          have HB9 := Lib.hid hB9
          have HX9 := Lib.hid ((HXB.out.ext HX3.out).ext hx9)
          unfold rsZ at hB9
          have c0 := hB9.cell 0 _ rfl
          have c1 := hB9.cell 1 _ rfl
          have c2 := hB9.cell 2 _ rfl
          have c3 := hB9.cell 3 _ rfl
          have c4 := hB9.cell 4 _ rfl
          have c5 := hB9.cell 5 _ rfl
          have c6 := hB9.cell 6 _ rfl
          have c7 := hB9.cell 7 _ rfl
          have c8 := hB9.cell 8 _ rfl
          have c9 := hB9.cell 9 _ rfl
          have c10 := hB9.cell 10 _ rfl
          have fc0 := hB9.free 0
          have fc1 := hB9.free 1
          have fc2 := hB9.free 2
          have fc3 := hB9.free 3
          have fc4 := hB9.free 4
          have fc5 := hB9.free 5
          have fc6 := hB9.free 6
          have fc7 := hB9.free 7
          have fc8 := hB9.free 8
          have fc9 := hB9.free 9
          have fc10 := hB9.free 10
          clear hB9 hx9
          unfold resA
          go_wp2_with (fail)
          go_light
          refine bodyPost_ret (v := resA 7 ⟨#[]⟩ ⟨#[]⟩ (.slice none 0 0) ndZ) (by simp [results, Tryz.results96, go_sem, resA, ndZ, c0, c1, c2, c3, c4, c5, c6, c7, c8, c9, c10]) rfl ?_
          rw [HE.out]
          have k11 := kp_set11 w9 (w.heap.size + 1) (.int .i64 7) (.string ⟨#[]⟩) (.string ⟨#[]⟩) (.slice none 0 0) (.int .i64 0) (.int .i64 0) (.int .i64 0) (.int .i64 0) (.int .i64 0) (.int .i64 0) (.int .i64 0)
          exact ⟨t, .slice none 0 0, rfl, own_nil _, HT9.out.aside HB9.out (by decide) (by decide) (by decide) k11, rfl, (Ext.kp HX9.out).next k11 (fun i hi e => by omega), Fresh.refl _ _⟩
        · have hC5 := HC4.out.trans (if_neg hnm)
          have hp0 : ¬ (0 : Int) < (n.names.length : Int) := by omega
          have HC5 := Lib.hid hC5
          clear hnm HC4 hC5
          obtain ⟨wR, hWR⟩ : ∃ wR, w3.alloc (.cells #[.int .i64 0, .string p, .string ⟨#[]⟩, .slice none 0 0, .int .i64 0, .int .i64 0, .int .i64 0, .int .i64 0, .int .i64 0, .int .i64 0, .int .i64 0] rsuT) = wR := ⟨_, rfl⟩
          have hxR : Ext w3 wR := by rw [← hWR]; exact (Kp.refl _ _).alloc _
          have hR : Blk wR w3.heap.size (rsP p) rsuT := by rw [← hWR]; exact heap_alloc_new w3 _
          have HXR := Lib.hid (HX3.out.ext hxR)
          have HR := Lib.hid hR
          have haR := HAB.out.kp HXR.out (fun f => f)
          have HAR := Lib.hid haR
          have hnbR := HNB3.out.kp hxR (fun f => f)
          have HNR := Lib.hid hnbR
          have HOR := Lib.hid (ownsRow.ext HNO3.out hxR)
          unfold ndA at hnbR
          have HBR := Lib.hid (HB.out.kp HXR.out (fun f => f))
          have HTR := Lib.hid (HTB.out.ext HXR.out)
          have HWR := Lib.hid hWR
          have HSR : Hid (w.heap.size + 1 < w3.heap.size) := by
            have h1 := HX3.out.size
            have h3 := HB.out.lt
            show _ < _
            omega
          clear hWR hxR hR
          have j0 := hnbR.cell 0 _ rfl
          have j1 := hnbR.cell 1 _ rfl
          have j2 := hnbR.cell 2 _ rfl
          have j3 := hnbR.cell 3 _ rfl
          have j4 := hnbR.cell 4 _ rfl
          have j5 := hnbR.cell 5 _ rfl
          have j6 := hnbR.cell 6 _ rfl
          have j7 := hnbR.cell 7 _ rfl
          have j8 := hnbR.cell 8 _ rfl
          have j9 := hnbR.cell 9 _ rfl
          have a0 := haR.cell 0 _ rfl
          have a1 := haR.cell 1 _ rfl
          have a2 := haR.cell 2 _ rfl
          have a3 := haR.cell 3 _ rfl
          have a4 := haR.cell 4 _ rfl
          have i0 := ha3.cell 0 _ rfl
          have i1 := ha3.cell 1 _ rfl
          have i2 := ha3.cell 2 _ rfl
          have i3 := ha3.cell 3 _ rfl
          have i4 := ha3.cell 4 _ rfl
          have l0 := hnb.cell 0 _ rfl
          have l1 := hnb.cell 1 _ rfl
          have l2 := hnb.cell 2 _ rfl
          have l3 := hnb.cell 3 _ rfl
          have l4 := hnb.cell 4 _ rfl
          have l5 := hnb.cell 5 _ rfl
          have l6 := hnb.cell 6 _ rfl
          have l7 := hnb.cell 7 _ rfl
          have l8 := hnb.cell 8 _ rfl
          have l9 := hnb.cell 9 _ rfl
          clear ha3 hnb haR hnbR
          go_upto_region 9 with (fail)
          rw [HWR.out]
          clear i0 i1 i2 i3 i4 l0 l1 l2 l3 l4 l5 l6 l7 l8 l9
          cases only with
          | true =>
            have HE := Lib.hid HC5.out
            clear HC5
            have hrr := HR.out
            unfold rsP at hrr
            have hbb := HBR.out
            unfold rsZ at hbb
            have c0 := hrr.cell 0 _ rfl
            have c1 := hrr.cell 1 _ rfl
            have c2 := hrr.cell 2 _ rfl
            have c3 := hrr.cell 3 _ rfl
            have c4 := hrr.cell 4 _ rfl
            have c5 := hrr.cell 5 _ rfl
            have c6 := hrr.cell 6 _ rfl
            have c7 := hrr.cell 7 _ rfl
            have c8 := hrr.cell 8 _ rfl
            have c9 := hrr.cell 9 _ rfl
            have c10 := hrr.cell 10 _ rfl
            have d0 := hbb.cell 0 _ rfl
            have d1 := hbb.cell 1 _ rfl
            have d2 := hbb.cell 2 _ rfl
            have d3 := hbb.cell 3 _ rfl
            have d4 := hbb.cell 4 _ rfl
            have d5 := hbb.cell 5 _ rfl
            have d6 := hbb.cell 6 _ rfl
            have d7 := hbb.cell 7 _ rfl
            have d8 := hbb.cell 8 _ rfl
            have d9 := hbb.cell 9 _ rfl
            have d10 := hbb.cell 10 _ rfl
            have fd0 := hbb.free 0
            have fd1 := hbb.free 1
            have fd2 := hbb.free 2
            have fd3 := hbb.free 3
            have fd4 := hbb.free 4
            have fd5 := hbb.free 5
            have fd6 := hbb.free 6
            have fd7 := hbb.free 7
            have fd8 := hbb.free 8
            have fd9 := hbb.free 9
            have fd10 := hbb.free 10
            clear hrr hbb
            go_wp2_with (fail)
            go_light
            refine bodyPost_ret (v := resA 0 p ⟨#[]⟩ (.slice none 0 0) ndZ) (by simp [results, Tryz.results96, go_sem, resA, ndZ, d0, d1, d2, d3, d4, d5, d6, d7, d8, d9, d10]) rfl ?_
            rw [HE.out]
            have k11 := kp_set11 wR (w.heap.size + 1) (.int .i64 0) (.string p) (.string ⟨#[]⟩) (.slice none 0 0) (.int .i64 0) (.int .i64 0) (.int .i64 0) (.int .i64 0) (.int .i64 0) (.int .i64 0) (.int .i64 0)
            exact ⟨t, .slice none 0 0, rfl, own_nil _, HTR.out.aside HBR.out (by decide) (by decide) (by decide) k11, rfl, (Ext.kp (HXB.out.ext HXR.out)).next k11 (fun i hi e => by omega), Fresh.refl _ _⟩
          | false =>
            have HE := Lib.hid HC5.out
            clear HC5
            have HRM := Lib.hid (treeRemove_any base b m room t p w0 wR HTR.out HOK.out HX.out.2.2.1.gl HX.out.1 (HX.out.2.2.1.ext ((HX.out.2.1.ext HXB.out).ext HXR.out)).gl HX.out.2.2.2)
            go_wp2_with (fail)
            refine HRM.out.mono ?_
            rintro e1 w6 ⟨⟨u, rfl⟩, ht6, hk6⟩
            have hnot : ∀ i, w.heap.size ≤ i → ¬ nodeFr m t i := fun i hi h => by have := HFR.out i h; omega
            have HR6 := Lib.hid (HR.out.kp hk6 (hnot _ (by have := HSR.out; omega)))
            have HB6 := Lib.hid (HBR.out.kp hk6 (hnot _ (by omega)))
            have HT6 := Lib.hid ht6
            have HK6 : Hid (Kp (nodeFr m t) w w6) := (Ext.kp (HXB.out.ext HXR.out)).trans hk6
            clear hk6 ht6 hnot HRM a0 a1 a2 a3 a4 j0 j1 j2 j3 j4 j5 j6 j7 j8 j9
            have hrr := HR6.out
            unfold rsP at hrr
            have hbb := HB6.out
            unfold rsZ at hbb
            have c0 := hrr.cell 0 _ rfl
            have c1 := hrr.cell 1 _ rfl
            have c2 := hrr.cell 2 _ rfl
            have c3 := hrr.cell 3 _ rfl
            have c4 := hrr.cell 4 _ rfl
            have c5 := hrr.cell 5 _ rfl
            have c6 := hrr.cell 6 _ rfl
            have c7 := hrr.cell 7 _ rfl
            have c8 := hrr.cell 8 _ rfl
            have c9 := hrr.cell 9 _ rfl
            have c10 := hrr.cell 10 _ rfl
            have d0 := hbb.cell 0 _ rfl
            have d1 := hbb.cell 1 _ rfl
            have d2 := hbb.cell 2 _ rfl
            have d3 := hbb.cell 3 _ rfl
            have d4 := hbb.cell 4 _ rfl
            have d5 := hbb.cell 5 _ rfl
            have d6 := hbb.cell 6 _ rfl
            have d7 := hbb.cell 7 _ rfl
            have d8 := hbb.cell 8 _ rfl
            have d9 := hbb.cell 9 _ rfl
            have d10 := hbb.cell 10 _ rfl
            have fd0 := hbb.free 0
            have fd1 := hbb.free 1
            have fd2 := hbb.free 2
            have fd3 := hbb.free 3
            have fd4 := hbb.free 4
            have fd5 := hbb.free 5
            have fd6 := hbb.free 6
            have fd7 := hbb.free 7
            have fd8 := hbb.free 8
            have fd9 := hbb.free 9
            have fd10 := hbb.free 10
            clear hrr hbb
            go_wp2_with (fail)
            go_light
            refine bodyPost_ret (v := resA 0 p ⟨#[]⟩ (.slice none 0 0) ndZ) (by simp [results, Tryz.results96, go_sem, resA, ndZ, d0, d1, d2, d3, d4, d5, d6, d7, d8, d9, d10]) rfl ?_
            rw [HE.out]
            have k11 := kp_set11 w6 (w.heap.size + 1) (.int .i64 0) (.string p) (.string ⟨#[]⟩) (.slice none 0 0) (.int .i64 0) (.int .i64 0) (.int .i64 0) (.int .i64 0) (.int .i64 0) (.int .i64 0) (.int .i64 0)
            exact ⟨_, .slice none 0 0, rfl, own_nil _, HT6.out.aside HB6.out (by decide) (by decide) (by decide) k11, by rw [pl_tell, pl_del]; rfl, HK6.out.next k11 (fun i hi e => by omega), ((Fresh.refl _ _).del _).tell _ _⟩
      · have HC4 := HC3.out
        rw [if_neg hk2] at HC4
        have e2 : (k == 2) = false := by simpa using hk2
        by_cases hk3 : k = 3
        · subst hk3
          rw [if_pos rfl] at HC4
          have HC5 := Lib.hid HC4
          clear HC4 HC3 hk2 e2
          obtain ⟨wR, hWR⟩ : ∃ wR, w3.alloc (.cells #[.int .i64 0, .string p, .string ⟨#[]⟩, .slice none 0 0, .int .i64 0, .int .i64 0, .int .i64 0, .int .i64 0, .int .i64 0, .int .i64 0, .int .i64 0] rsuT) = wR := ⟨_, rfl⟩
          have hxR : Ext w3 wR := by rw [← hWR]; exact (Kp.refl _ _).alloc _
          have hR : Blk wR w3.heap.size (rsP p) rsuT := by rw [← hWR]; exact heap_alloc_new w3 _
          have HXR := Lib.hid (HX3.out.ext hxR)
          have HR := Lib.hid hR
          have haR := HAB.out.kp HXR.out (fun f => f)
          have HAR := Lib.hid haR
          have hnbR := HNB3.out.kp hxR (fun f => f)
          have HNR := Lib.hid hnbR
          have HOR := Lib.hid (ownsRow.ext HNO3.out hxR)
          unfold ndA at hnbR
          have HBR := Lib.hid (HB.out.kp HXR.out (fun f => f))
          have HTR := Lib.hid (HTB.out.ext HXR.out)
          have HWR := Lib.hid hWR
          have HSR : Hid (w.heap.size + 1 < w3.heap.size) := by
            have h1 := HX3.out.size
            have h3 := HB.out.lt
            show _ < _
            omega
          clear hWR hxR hR
          have i0 := ha3.cell 0 _ rfl
          have i1 := ha3.cell 1 _ rfl
          have i2 := ha3.cell 2 _ rfl
          have i3 := ha3.cell 3 _ rfl
          have i4 := ha3.cell 4 _ rfl
          clear ha3 hnb
          go_upto_region 9 with (fail)
          rw [HWR.out]
          have j0 := hnbR.cell 0 _ rfl
          have j1 := hnbR.cell 1 _ rfl
          have j2 := hnbR.cell 2 _ rfl
          have j3 := hnbR.cell 3 _ rfl
          have j4 := hnbR.cell 4 _ rfl
          have j5 := hnbR.cell 5 _ rfl
          have j6 := hnbR.cell 6 _ rfl
          have j7 := hnbR.cell 7 _ rfl
          have j8 := hnbR.cell 8 _ rfl
          have j9 := hnbR.cell 9 _ rfl
          have a0 := haR.cell 0 _ rfl
          have a1 := haR.cell 1 _ rfl
          have a2 := haR.cell 2 _ rfl
          have a3 := haR.cell 3 _ rfl
          have a4 := haR.cell 4 _ rfl
          clear haR hnbR i0 i1 i2 i3 i4
          have HCP := Lib.hid (statCopied_any n (.slice na n.names.length nc) wR (names_own HOR.out) HNO.out.few)
          unfold ndA at HCP
          go_wp2_with (fail)
          refine HCP.out.mono ?_
          rintro e1 w5 ⟨nv5, rfl, ho5, hx5⟩
          obtain ⟨na5, nc5, rfl⟩ := owns_slice ho5
          obtain ⟨wN, hWN⟩ : ∃ wN, w5.alloc (.cells #[.int .i64 n.made, .int .i64 n.chg, .int .i64 n.ver, .int .i64 n.kids, .int .i64 n.own, .int .i64 n.len, .int .i64 n.cnt, .string n.data, .int .i64 n.next, .slice na5 n.names.length nc5] ndT) = wN := ⟨_, rfl⟩
          have hxN : Ext w5 wN := by rw [← hWN]; exact (Kp.refl _ _).alloc _
          have hN : Blk wN w5.heap.size (ndA n (.slice na5 n.names.length nc5)) ndT := by rw [← hWN]; exact heap_alloc_new w5 _
          have HXN := Lib.hid (hx5.ext hxN)
          have HWT := Lib.hid (statWrite_any w5.heap.size n z d wN ⟨_, hN, owns_zero (ownsRow.ext ho5 hxN)⟩ HNO.out.ver)
          have HWN := Lib.hid hWN
          have HSN : Hid (w3.heap.size < wR.heap.size ∧ wR.heap.size ≤ w5.heap.size) := ⟨HR.out.lt, hx5.size⟩
          have haN := HAR.out.kp HXN.out (fun f => f)
          obtain ⟨x, hx⟩ : ∃ x, ndWrite n z d = x := ⟨_, rfl⟩
          rw [hx] at HWT HC5
          clear hWN hxN hN hx5 ho5 hx HCP a0 a1 a2 a3 a4 j0 j1 j2 j3 j4 j5 j6 j7 j8 j9
          have a0 := haN.cell 0 _ rfl
          have a1 := haN.cell 1 _ rfl
          have a2 := haN.cell 2 _ rfl
          have a3 := haN.cell 3 _ rfl
          have a4 := haN.cell 4 _ rfl
          clear haN
          go_upto_region 15 with (fail)
          rw [HWN.out]
          go_wp2_with (fail)
          refine HWT.out.mono ?_
          rintro e1 w6 ⟨⟨u, rfl⟩, hnd6, hk6⟩
          have HND6 := Lib.hid hnd6
          obtain ⟨nv6, hnb6, hno6⟩ := hnd6
          obtain ⟨na6, nc6, rfl⟩ := owns_slice hno6
          have hx6 : Ext wR w6 := HXN.out.next hk6 (fun i hi e => by have := HSN.out; omega)
          have hR6 := HR.out.kp hx6 (fun f => f)
          have hB6 := HBR.out.kp hx6 (fun f => f)
          have hA6 := HAR.out.kp hx6 (fun f => f)
          have hT6 := HTR.out.ext hx6
          have hTy : ∀ i cur f, i = w3.heap.size → w6.heap[i]? ≠ some (.cells cur strT f) := by
            rintro i cur f rfl e
            have hr' : w6.heap[w3.heap.size]? = some (.cells (rsP p) rsuT (0, 0)) := hR6
            rw [hr'] at e
            simp only [Option.some.injEq, Obj.cells.injEq] at e
            exact absurd e.2.1 (by decide)
          have hlt5 : w3.heap.size < w5.heap.size := by have := HSN.out; omega
          have hlt3 := HSR.out
          obtain ⟨wS, hWS⟩ : ∃ wS, (((((((w6.setCell ⟨w3.heap.size, 4, none⟩ (.int .i64 x.made)).setCell ⟨w3.heap.size, 5, none⟩ (.int .i64 x.chg)).setCell ⟨w3.heap.size, 6, none⟩ (.int .i64 x.ver)).setCell ⟨w3.heap.size, 7, none⟩ (.int .i64 x.kids)).setCell ⟨w3.heap.size, 8, none⟩ (.int .i64 x.own)).setCell ⟨w3.heap.size, 9, none⟩ (.int .i64 x.len)).setCell ⟨w3.heap.size, 10, none⟩ (.int .i64 x.cnt)) = wS := ⟨_, rfl⟩
          have hkS : Kp (fun i => i = w3.heap.size) w6 wS := by
            rw [← hWS]
            exact ((((((((Kp.refl (fun i => i = w3.heap.size) w6).set1 _ 4 _ rfl).set1 _ 5 _ rfl).set1 _ 6 _ rfl).set1 _ 7 _ rfl).set1 _ 8 _ rfl).set1 _ 9 _ rfl).set1 _ 10 _ rfl)
          have hRS : Blk wS w3.heap.size (rsQ p x) rsuT := by
            rw [← hWS]
            exact (((((((hR6.set 4 _).set 5 _).set 6 _).set 7 _).set 8 _).set 9 _).set 10 _)
          have HRS := Lib.hid hRS
          have HBS := Lib.hid (hB6.kp hkS (by omega))
          have HAS := Lib.hid (hA6.kp hkS (by omega))
          have HTS := Lib.hid (hT6.aside hR6 (by decide) (by decide) (by decide) hkS)
          have HNS := Lib.hid (HND6.out.kp hkS (by omega) hTy)
          have HXS : Hid (Ext w wS) := ((HXB.out.ext HXR.out).trans hx6).next hkS (fun i hi e => by omega)
          have HSS : Hid (w5.heap.size < wS.heap.size) := by
            have h1 := HND6.out.lt
            have h2 := hkS.size
            show _ < _
            omega
          have HWS := Lib.hid hWS
          unfold ndA at hnb6
          unfold rsP at hR6
          have y0 := hnb6.cell 0 _ rfl
          have y1 := hnb6.cell 1 _ rfl
          have y2 := hnb6.cell 2 _ rfl
          have y3 := hnb6.cell 3 _ rfl
          have y4 := hnb6.cell 4 _ rfl
          have y5 := hnb6.cell 5 _ rfl
          have y6 := hnb6.cell 6 _ rfl
          have y7 := hnb6.cell 7 _ rfl
          have y8 := hnb6.cell 8 _ rfl
          have y9 := hnb6.cell 9 _ rfl
          have c0 := hR6.cell 0 _ rfl
          have c1 := hR6.cell 1 _ rfl
          have c2 := hR6.cell 2 _ rfl
          have c3 := hR6.cell 3 _ rfl
          have c4 := hR6.cell 4 _ rfl
          have c5 := hR6.cell 5 _ rfl
          have c6 := hR6.cell 6 _ rfl
          have c7 := hR6.cell 7 _ rfl
          have c8 := hR6.cell 8 _ rfl
          have c9 := hR6.cell 9 _ rfl
          have c10 := hR6.cell 10 _ rfl
          have fc0 := hR6.free 0
          have fc1 := hR6.free 1
          have fc2 := hR6.free 2
          have fc3 := hR6.free 3
          have fc4 := hR6.free 4
          have fc5 := hR6.free 5
          have fc6 := hR6.free 6
          have fc7 := hR6.free 7
          have fc8 := hR6.free 8
          have fc9 := hR6.free 9
          have fc10 := hR6.free 10
          clear hnb6 hno6 hR6 hB6 hA6 hT6 hTy hkS hRS hWS hx6 hk6 HWT a0 a1 a2 a3 a4
          go_upto_region 17 with (fail)
          rw [HWS.out]
          clear y0 y1 y2 y3 y4 y5 y6 y7 y8 y9 c0 c1 c2 c3 c4 c5 c6 c7 c8 c9 c10 fc0 fc1 fc2 fc3 fc4 fc5 fc6 fc7 fc8 fc9 fc10
          cases only with
          | true =>
            have HE := Lib.hid HC5.out
            clear HC5
            have hrr := HRS.out
            unfold rsQ at hrr
            have hbb := HBS.out
            unfold rsZ at hbb
            have c0 := hrr.cell 0 _ rfl
            have c1 := hrr.cell 1 _ rfl
            have c2 := hrr.cell 2 _ rfl
            have c3 := hrr.cell 3 _ rfl
            have c4 := hrr.cell 4 _ rfl
            have c5 := hrr.cell 5 _ rfl
            have c6 := hrr.cell 6 _ rfl
            have c7 := hrr.cell 7 _ rfl
            have c8 := hrr.cell 8 _ rfl
            have c9 := hrr.cell 9 _ rfl
            have c10 := hrr.cell 10 _ rfl
            have d0 := hbb.cell 0 _ rfl
            have d1 := hbb.cell 1 _ rfl
            have d2 := hbb.cell 2 _ rfl
            have d3 := hbb.cell 3 _ rfl
            have d4 := hbb.cell 4 _ rfl
            have d5 := hbb.cell 5 _ rfl
            have d6 := hbb.cell 6 _ rfl
            have d7 := hbb.cell 7 _ rfl
            have d8 := hbb.cell 8 _ rfl
            have d9 := hbb.cell 9 _ rfl
            have d10 := hbb.cell 10 _ rfl
            have fd0 := hbb.free 0
            have fd1 := hbb.free 1
            have fd2 := hbb.free 2
            have fd3 := hbb.free 3
            have fd4 := hbb.free 4
            have fd5 := hbb.free 5
            have fd6 := hbb.free 6
            have fd7 := hbb.free 7
            have fd8 := hbb.free 8
            have fd9 := hbb.free 9
            have fd10 := hbb.free 10
            clear hrr hbb
            go_wp2_with (fail)
            go_light
            refine bodyPost_ret (v := resA 0 p ⟨#[]⟩ (.slice none 0 0) x) (by simp [results, Tryz.results96, go_sem, resA, d0, d1, d2, d3, d4, d5, d6, d7, d8, d9, d10]) rfl ?_
            rw [HE.out]
            have k11 := kp_set11 wS (w.heap.size + 1) (.int .i64 0) (.string p) (.string ⟨#[]⟩) (.slice none 0 0) (.int .i64 x.made) (.int .i64 x.chg) (.int .i64 x.ver) (.int .i64 x.kids) (.int .i64 x.own) (.int .i64 x.len) (.int .i64 x.cnt)
            exact ⟨t, .slice none 0 0, rfl, own_nil _, HTS.out.aside HBS.out (by decide) (by decide) (by decide) k11, rfl, (Ext.kp HXS.out).next k11 (fun i hi e => by omega), Fresh.refl _ _⟩
          | false =>
            have HE := Lib.hid HC5.out
            clear HC5
            go_upto_region 18 with (fail)
            refine' wp_region_dagK 6 [] ((69, .val _) :: (70, .val _) :: (71, .val _) :: (72, .val _) :: (73, .val _) :: (74, .val _) :: []) (by exact ⟨fun _ _ _ _ _ => trivial, ⟨fun _ _ _ _ _ => trivial, ⟨fun _ _ _ _ _ => trivial, ⟨fun _ _ _ _ _ => trivial, ⟨fun _ _ _ _ _ => trivial, ⟨fun _ _ _ _ _ => trivial, trivial⟩⟩⟩⟩⟩⟩) (by kernel_rfl) (by kernel_rfl) (by kernel_rfl) ?_
            rotate_left 6
            simp only [List.take_succ_cons, List.take_zero]
            repeat (first
              | (refine wpD_skipv ?_ ?_ ?_
                 focus rfl
                 focus rfl
                 simp only [Act.put, List.setIfInBounds_toArray, List.set_cons_succ, List.set_cons_zero])
              | (refine' wpD_val (c := _) ?_ (fun w => Kp.refl _ w) ?_ (fun wq hwq hfq => ?_) ?_
                 rotate_left
                 focus rfl
                 focus rfl
                 focus ((have hext : Ext wS wq := hwq.mono (fun i hi e => by omega); have a1 := (HAS.out.kp hext (fun f => f)).cell 1 _ rfl; have d1 := (HTS.out.blk.kp hext (fun f => f)).cell 1 _ rfl); go_simp; first | done | rfl)
                 simp only [Act.put, List.setIfInBounds_toArray, List.set_cons_succ, List.set_cons_zero])
              | (refine' wpD_con (c := _) ?_ ?_ (fun wq hwq hfq => ?_) ?_
                 rotate_left
                 focus rfl
                 focus rfl
                 focus ((have hext : Ext wS wq := hwq.mono (fun i hi e => by omega); have a1 := (HAS.out.kp hext (fun f => f)).cell 1 _ rfl; have d1 := (HTS.out.blk.kp hext (fun f => f)).cell 1 _ rfl); go_simp; (try (rw [dUpon_enter])); fail)
                 simp only [Act.put, List.setIfInBounds_toArray, List.set_cons_succ, List.set_cons_zero])
              | fail)
            refine wpD_nil ?_
            intro w7 hx7 hend
            clear hend
            have hx7' : Ext wS w7 := hx7.mono (fun i hi e => by omega)
            have hT7 := HTS.out.ext hx7'
            obtain ⟨wM, u1, u2, u3, u4⟩ := MapK.update kStr tNodes hT7.map p (.pointer (some ⟨w5.heap.size, 0, none⟩))
            have hbw : base ≤ w5.heap.size := by
              have h1 := HTB.out.low.1
              have h2 := HTB.out.blk.lt
              have h3 := HXR.out.size
              have h4 := HSN.out
              omega
            have HTM := Lib.hid (hT7.lay hbw (HNS.out.ext hx7') (fun e he e2 => by have := HFR.out _ (.inr ⟨e, he, rfl⟩); omega) u2 u3)
            have HBM := Lib.hid ((HBS.out.kp hx7' (fun f => f)).kp u3 (by have := HFR.out _ (.inl rfl); omega))
            have HRM := Lib.hid ((HRS.out.kp hx7' (fun f => f)).kp u3 (by have := HFR.out _ (.inl rfl); omega))
            have HKM : Hid (Kp (nodeFr m t) w wM) := (Ext.kp (HXS.out.trans hx7')).next u3 (fun i hi e => .inl e)
            clear hx7 hx7' hT7 u2 u3 u4
            have hrr := HRM.out
            unfold rsQ at hrr
            have hbb := HBM.out
            unfold rsZ at hbb
            have c0 := hrr.cell 0 _ rfl
            have c1 := hrr.cell 1 _ rfl
            have c2 := hrr.cell 2 _ rfl
            have c3 := hrr.cell 3 _ rfl
            have c4 := hrr.cell 4 _ rfl
            have c5 := hrr.cell 5 _ rfl
            have c6 := hrr.cell 6 _ rfl
            have c7 := hrr.cell 7 _ rfl
            have c8 := hrr.cell 8 _ rfl
            have c9 := hrr.cell 9 _ rfl
            have c10 := hrr.cell 10 _ rfl
            have d0 := hbb.cell 0 _ rfl
            have d1 := hbb.cell 1 _ rfl
            have d2 := hbb.cell 2 _ rfl
            have d3 := hbb.cell 3 _ rfl
            have d4 := hbb.cell 4 _ rfl
            have d5 := hbb.cell 5 _ rfl
            have d6 := hbb.cell 6 _ rfl
            have d7 := hbb.cell 7 _ rfl
            have d8 := hbb.cell 8 _ rfl
            have d9 := hbb.cell 9 _ rfl
            have d10 := hbb.cell 10 _ rfl
            have fd0 := hbb.free 0
            have fd1 := hbb.free 1
            have fd2 := hbb.free 2
            have fd3 := hbb.free 3
            have fd4 := hbb.free 4
            have fd5 := hbb.free 5
            have fd6 := hbb.free 6
            have fd7 := hbb.free 7
            have fd8 := hbb.free 8
            have fd9 := hbb.free 9
            have fd10 := hbb.free 10
            clear hrr hbb
            go_wp2_with (fail)
            go_light
            refine bodyPost_ret (v := resA 0 p ⟨#[]⟩ (.slice none 0 0) x) (by simp [results, Tryz.results96, go_sem, resA, d0, d1, d2, d3, d4, d5, d6, d7, d8, d9, d10]) rfl ?_
            rw [HE.out]
            have k11 := kp_set11 wM (w.heap.size + 1) (.int .i64 0) (.string p) (.string ⟨#[]⟩) (.slice none 0 0) (.int .i64 x.made) (.int .i64 x.chg) (.int .i64 x.ver) (.int .i64 x.kids) (.int .i64 x.own) (.int .i64 x.len) (.int .i64 x.cnt)
            have HFG : w.heap.size ≤ w5.heap.size := by have := HSR.out; have := HSN.out; have := HRS.out.lt; omega
            exact ⟨_, .slice none 0 0, rfl, own_nil _, HTM.out.aside HBM.out (by decide) (by decide) (by decide) k11, by rw [pl_set]; rfl, HKM.out.next k11 (fun i hi e => by omega), (Fresh.refl _ _).set HFG _ _⟩
        · rw [if_neg hk3] at HC4
          have HE := Lib.hid HC4
          have e3 : (k == 3) = false := by simpa using hk3
          clear HC4 HC3 hk2 hk3
          obtain ⟨wR, hWR⟩ : ∃ wR, w3.alloc (.cells #[.int .i64 0, .string p, .string ⟨#[]⟩, .slice none 0 0, .int .i64 0, .int .i64 0, .int .i64 0, .int .i64 0, .int .i64 0, .int .i64 0, .int .i64 0] rsuT) = wR := ⟨_, rfl⟩
          have hxR : Ext w3 wR := by rw [← hWR]; exact (Kp.refl _ _).alloc _
          have hR : Blk wR w3.heap.size (rsP p) rsuT := by rw [← hWR]; exact heap_alloc_new w3 _
          have HXR := Lib.hid (HX3.out.ext hxR)
          have HR := Lib.hid hR
          have haR := HAB.out.kp HXR.out (fun f => f)
          have HAR := Lib.hid haR
          have hnbR := HNB3.out.kp hxR (fun f => f)
          have HNR := Lib.hid hnbR
          have HOR := Lib.hid (ownsRow.ext HNO3.out hxR)
          unfold ndA at hnbR
          have HBR := Lib.hid (HB.out.kp HXR.out (fun f => f))
          have HTR := Lib.hid (HTB.out.ext HXR.out)
          have HWR := Lib.hid hWR
          have HSR : Hid (w.heap.size + 1 < w3.heap.size) := by
            have h1 := HX3.out.size
            have h3 := HB.out.lt
            show _ < _
            omega
          clear hWR hxR hR
          have i0 := ha3.cell 0 _ rfl
          have i1 := ha3.cell 1 _ rfl
          have i2 := ha3.cell 2 _ rfl
          have i3 := ha3.cell 3 _ rfl
          have i4 := ha3.cell 4 _ rfl
          clear ha3 hnb
          go_upto_region 9 with (fail)
          rw [HWR.out]
          have a0 := haR.cell 0 _ rfl
          have a1 := haR.cell 1 _ rfl
          have a2 := haR.cell 2 _ rfl
          have a3 := haR.cell 3 _ rfl
          have a4 := haR.cell 4 _ rfl
          clear haR hnbR i0 i1 i2 i3 i4
          have hrr := HR.out
          unfold rsP at hrr
          have hbb := HBR.out
          unfold rsZ at hbb
          have c0 := hrr.cell 0 _ rfl
          have c1 := hrr.cell 1 _ rfl
          have c2 := hrr.cell 2 _ rfl
          have c3 := hrr.cell 3 _ rfl
          have c4 := hrr.cell 4 _ rfl
          have c5 := hrr.cell 5 _ rfl
          have c6 := hrr.cell 6 _ rfl
          have c7 := hrr.cell 7 _ rfl
          have c8 := hrr.cell 8 _ rfl
          have c9 := hrr.cell 9 _ rfl
          have c10 := hrr.cell 10 _ rfl
          have d0 := hbb.cell 0 _ rfl
          have d1 := hbb.cell 1 _ rfl
          have d2 := hbb.cell 2 _ rfl
          have d3 := hbb.cell 3 _ rfl
          have d4 := hbb.cell 4 _ rfl
          have d5 := hbb.cell 5 _ rfl
          have d6 := hbb.cell 6 _ rfl
          have d7 := hbb.cell 7 _ rfl
          have d8 := hbb.cell 8 _ rfl
          have d9 := hbb.cell 9 _ rfl
          have d10 := hbb.cell 10 _ rfl
          have fd0 := hbb.free 0
          have fd1 := hbb.free 1
          have fd2 := hbb.free 2
          have fd3 := hbb.free 3
          have fd4 := hbb.free 4
          have fd5 := hbb.free 5
          have fd6 := hbb.free 6
          have fd7 := hbb.free 7
          have fd8 := hbb.free 8
          have fd9 := hbb.free 9
          have fd10 := hbb.free 10
          clear hrr hbb
          go_wp2_with (fail)
          go_light
          refine bodyPost_ret (v := resA 0 p ⟨#[]⟩ (.slice none 0 0) ndZ) (by simp [results, Tryz.results96, go_sem, resA, ndZ, d0, d1, d2, d3, d4, d5, d6, d7, d8, d9, d10]) rfl ?_
          rw [HE.out]
          have k11 := kp_set11 wR (w.heap.size + 1) (.int .i64 0) (.string p) (.string ⟨#[]⟩) (.slice none 0 0) (.int .i64 0) (.int .i64 0) (.int .i64 0) (.int .i64 0) (.int .i64 0) (.int .i64 0) (.int .i64 0)
          exact ⟨t, .slice none 0 0, rfl, own_nil _, HTR.out.aside HBR.out (by decide) (by decide) (by decide) k11, rfl, (Ext.kp (HXB.out.ext HXR.out)).next k11 (fun i hi e => by omega), Fresh.refl _ _⟩
end Go.Proofs.YtdagikbdpeblhaaGreatDoor
