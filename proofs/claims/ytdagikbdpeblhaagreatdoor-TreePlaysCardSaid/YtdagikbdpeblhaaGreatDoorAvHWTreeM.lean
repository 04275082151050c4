/- Walks of package tree: Load. -/
import Derived.Test.YtdagikbdpeblhaaGreatDoorAvG14
import Derived.Test.YtdagikbdpeblhaaGreatDoorAvG13
namespace Go.Proofs.YtdagikbdpeblhaaGreatDoor
set_option maxRecDepth 100000
open Go.RowKit Av

/-- A node as it is laid. -/
def ndLoad (n : NodeV) : NodeV := { n with len := n.data.size, cnt := n.names.length }
def loadP (r : Bool) (room : Int) (t : Pt) (p : ByteArray) (n : NodeV) : Pt × Int := if r = false then (t, 1) else if (mget t p).isSome = true then (t, 5) else if room ≤ (t.length : Int) then (t, 9) else (mset t p (ndLoad n), 0)
def LoadPost (w : World) (base b m : Nat) (room : Int) (t : Tr) (R : Pt × Int) (e : Ending) (w' : World) : Prop :=
  ∃ t', e = .returned (.int .i64 R.2) ∧ TreeR w' base b m room t' ∧ pl t' = R.1 ∧ Kp (nodeFr m t) w w' ∧ Fresh w t t'
set_option maxHeartbeats 3200000 in
theorem treeLoad_any (base b m : Nat) (room : Int) (t : Tr) (p : ByteArray) (n : NodeV) (nv : Value) (r : Bool) (w : World) (hT : TreeR w base b m room t) (hG : GL w) (hp : p.size ≤ 1000000) (hn : NmS w nv n.names) (hl : n.names.length ≤ 100000) (hsz : ∀ s ∈ n.names, s.length ≤ 1000000) (hr : r = true ↔ (goodL p.data.toList = true ∧ Named n.names)) :
    Calls Tryz.prog 13 #[.pointer (some ⟨b, 0, none⟩), .string p, .agg (ndA n nv)] w fun e w' => LoadPost w base b m room t (loadP r room (pl t) p n) e w' := by
  obtain ⟨na, nc, rfl, _⟩ := Sl.open hn.1
  obtain ⟨wA, hWA⟩ : ∃ wA, w.alloc (.cells (ndA n (.slice na n.names.length nc)) ndT) = wA := ⟨_, rfl⟩
  have hxA : Ext w wA := by rw [← hWA]; exact (Kp.refl _ _).alloc _
  have hA : Blk wA w.heap.size (ndA n (.slice na n.names.length nc)) ndT := by rw [← hWA]; exact heap_alloc_new w _
  have HA := Lib.hid hA
  have HXA := Lib.hid hxA
  have HTA := Lib.hid (hT.ext hxA)
  have HNM := Lib.hid (show NmS w (.slice na n.names.length nc) n.names from hn)
  have HGA := Lib.hid (hG.ext hxA)
  have HGD := Lib.hid (Good_any p wA (hG.ext hxA) (by unfold maxLen; omega))
  have HC : Hid (loadP r room (pl t) p n = if r = false then (pl t, 1) else if (mget (pl t) p).isSome = true then (pl t, 5) else if room ≤ ((pl t).length : Int) then (pl t, 9) else (mset (pl t) p (ndLoad n), 0)) := rfl
  generalize loadP r room (pl t) p n = R at HC ⊢
  have HFR : Hid (∀ i, nodeFr m t i → i < w.heap.size) := by
    rintro i (rfl | ⟨e, he, rfl⟩)
    · exact hT.map.lt
    · exact (hT.nod e he).lt
  have HHR := Lib.hid hr
  unfold ndA at hWA ⊢
  have HWA := Lib.hid hWA
  clear hWA hxA hA hT hG hn hr
  go_enter Tryz.func13, Tryz.ntmps13
  go_upto_region 1 with (fail)
  rw [HWA.out]
  go_wp2_with (fail)
  refine HGD.out.mono ?_
  rintro e w1 ⟨rfl, hx1⟩
  cases hg : goodL p.data.toList with
  | false =>
    have HE : Hid (R = (pl t, 1)) := HC.out.trans (if_pos (by
      cases r with
      | false => rfl
      | true => exact absurd (HHR.out.1 rfl).1 (by rw [hg]; decide)))
    have HTX := Lib.hid (HTA.out.ext hx1)
    have HXX := Lib.hid (HXA.out.ext hx1)
    clear hx1 HC hg HHR
    clear HWA
    go_wp2_with (fail)
    go_ret
    rw [HE.out]
    exact ⟨t, rfl, HTX.out, rfl, Ext.kp HXX.out, Fresh.refl _ _⟩
  | true =>
    have HX1 := Lib.hid hx1
    have ha1 := HA.out.kp hx1 (fun f => f)
    have HNA := Lib.hid (named_any (.slice na n.names.length nc) n.names w1 (HGA.out.ext hx1) ⟨Sl.ext HNM.out.1 (HXA.out.ext hx1), HNM.out.2⟩ (by omega) hsz)
    have n9 : w1.cell? ⟨w.heap.size, 9, none⟩ = some (.slice na n.names.length nc) := ha1.cell 9 _ rfl
    clear hx1 ha1
    go_wp2_with (fail)
    refine HNA.out.mono ?_
    rintro e w2 ⟨r2, rfl, hr2, hx2⟩
    have HX2 := Lib.hid (HX1.out.ext hx2)
    clear hx2 n9 HNA
    cases r2 with
    | false =>
      have HE : Hid (R = (pl t, 1)) := HC.out.trans (if_pos (by
        cases r with
        | false => rfl
        | true => exact absurd (hr2.2 (HHR.out.1 rfl).2) (by decide)))
      have HTX := Lib.hid (HTA.out.ext HX2.out)
      have HXX := Lib.hid (HXA.out.ext HX2.out)
      clear HC hg HHR hr2
      clear HWA
      go_wp2_with (fail)
      go_ret
      rw [HE.out]
      exact ⟨t, rfl, HTX.out, rfl, Ext.kp HXX.out, Fresh.refl _ _⟩
    | true =>
      have hrt : r = true := HHR.out.2 ⟨hg, hr2.1 rfl⟩
      have hc2 := HC.out.trans (if_neg (by rw [hrt]; decide))
      have HC2 := Lib.hid hc2
      have hT2 := HTA.out.ext HX2.out
      have HT2 := Lib.hid hT2
      have hlk := tree_look hT2 p
      have c1 := hT2.blk.cell 1 _ rfl
      clear HC hg HHR hr2 hc2 hT2 hrt
      cases hgt : mget t p with
      | some gn =>
        have HE : Hid (R = (pl t, 5)) := HC2.out.trans (if_pos (by rw [pl_get, hgt]; rfl))
        rw [hgt] at hlk
        simp only [Option.map_some, Option.getD_some] at hlk
        have HTX := HT2
        have HXX := Lib.hid (HXA.out.ext HX2.out)
        clear hgt HC2
        clear HWA
        go_wp2_with (fail)
        go_ret
        rw [HE.out]
        exact ⟨t, rfl, HTX.out, rfl, Ext.kp HXX.out, Fresh.refl _ _⟩
      | none =>
        have hc3 := HC2.out.trans (if_neg (by rw [pl_get, hgt]; decide))
        have HC3 := Lib.hid hc3
        rw [hgt] at hlk
        simp only [Option.map_none, Option.getD_none] at hlk
        clear hgt HC2 hc3
        go_upto_region 5 with (fail)
        clear hlk c1
        refine' wp_region_dag0 ((27, .val _) :: (28, .val _) :: (29, .val _) :: (30, .val _) :: (31, .val _) :: (32, .val _) :: (33, .val _) :: (34, .val _) :: (35, .val _) :: (36, .val _) :: (26, .val _) :: []) (by exact ⟨fun _ _ _ _ _ => trivial, ⟨fun _ _ _ _ _ => trivial, ⟨fun _ _ _ _ _ => trivial, ⟨fun _ _ _ _ _ => trivial, ⟨fun _ _ _ _ _ => trivial, ⟨fun _ _ _ _ _ => trivial, ⟨fun _ _ _ _ _ => trivial, ⟨fun _ _ _ _ _ => trivial, ⟨fun _ _ _ _ _ => trivial, ⟨fun _ _ _ _ _ => trivial, ⟨fun _ _ _ _ _ => trivial, trivial⟩⟩⟩⟩⟩⟩⟩⟩⟩⟩⟩) (by kernel_rfl) (by kernel_rfl) (by kernel_rfl) ?_
        rotate_left 11
        repeat (first
          | (refine wpD_skipv ?_ ?_ ?_
             focus rfl
             focus rfl
             simp only [Act.put, List.setIfInBounds_toArray, List.set_cons_succ, List.set_cons_zero])
          | (refine' wpD_val (c := _) ?_ (fun w => Kp.refl _ w) ?_ (fun wq hwq hfq => ?_) ?_
             rotate_left
             focus rfl
             focus rfl
             focus ((have c0 := (HT2.out.blk.kp hwq (fun f => f)).cell 0 _ rfl; have c1 := (HT2.out.blk.kp hwq (fun f => f)).cell 1 _ rfl; have hln := MapK.len tNodes (HT2.out.map.ext hwq)); go_simp; first | done | rfl)
             simp only [Act.put, List.setIfInBounds_toArray, List.set_cons_succ, List.set_cons_zero])
          | (refine' wpD_con (c := _) ?_ ?_ (fun wq hwq hfq => ?_) ?_
             rotate_left
             focus rfl
             focus rfl
             focus ((have c0 := (HT2.out.blk.kp hwq (fun f => f)).cell 0 _ rfl; have c1 := (HT2.out.blk.kp hwq (fun f => f)).cell 1 _ rfl; have hln := MapK.len tNodes (HT2.out.map.ext hwq)); go_simp; (try (rw [dUpon_enter])); fail)
             simp only [Act.put, List.setIfInBounds_toArray, List.set_cons_succ, List.set_cons_zero])
          | fail)
        refine wpD_nil ?_
        intro w3 hx3 hend
        clear hend
        have hpl : (ptrs t).length = t.length := List.length_map _
        rw [hpl]
        have HX3 := Lib.hid (HX2.out.ext hx3)
        have HT3 := Lib.hid (HT2.out.ext hx3)
        clear hx3 hpl
        by_cases hfull : room ≤ (t.length : Int)
        · have HE : Hid (R = (pl t, 9)) := HC3.out.trans (if_pos (by rw [pl_len]; exact hfull))
          have HTX := HT3
          have HXX := Lib.hid (HXA.out.ext HX3.out)
          clear HC3
          clear HWA
          go_wp2_with (fail)
          go_ret
          rw [HE.out]
          exact ⟨t, rfl, HTX.out, rfl, Ext.kp HXX.out, Fresh.refl _ _⟩
        · have HE : Hid (R = (mset (pl t) p (ndLoad n), 0)) := HC3.out.trans (if_neg (by rw [pl_len]; exact hfull))
          have ha3 := HA.out.kp HX3.out (fun f => f)
          have HCP := Lib.hid (statCopied_any n (.slice na n.names.length nc) w3 ⟨Sl.ext HNM.out.1 (HXA.out.ext HX3.out), HNM.out.2⟩ hl)
          unfold ndA at ha3 HCP
          have a0 := ha3.cell 0 _ rfl
          have a1 := ha3.cell 1 _ rfl
          have a2 := ha3.cell 2 _ rfl
          have a3 := ha3.cell 3 _ rfl
          have a4 := ha3.cell 4 _ rfl
          have a5 := ha3.cell 5 _ rfl
          have a6 := ha3.cell 6 _ rfl
          have a7 := ha3.cell 7 _ rfl
          have a8 := ha3.cell 8 _ rfl
          have a9 := ha3.cell 9 _ rfl
          clear ha3 HC3
          go_wp2_with (fail)
          refine HCP.out.mono ?_
          rintro e1 w5 ⟨nv5, rfl, ho5, hx5⟩
          obtain ⟨na5, nc5, rfl⟩ := owns_slice ho5
          obtain ⟨wN, hWN⟩ : ∃ wN, w5.alloc (.cells #[.int .i64 n.made, .int .i64 n.chg, .int .i64 n.ver, .int .i64 n.kids, .int .i64 n.own, .int .i64 n.len, .int .i64 n.cnt, .string n.data, .int .i64 n.next, .slice na5 n.names.length nc5] ndT) = wN := ⟨_, rfl⟩
          have hxN : Ext w5 wN := by rw [← hWN]; exact (Kp.refl _ _).alloc _
          have hN : Blk wN w5.heap.size (ndA n (.slice na5 n.names.length nc5)) ndT := by rw [← hWN]; exact heap_alloc_new w5 _
          obtain ⟨wS, hWS⟩ : ∃ wS, (wN.setCell ⟨w5.heap.size, 5, none⟩ (.int .i64 n.data.size)).setCell ⟨w5.heap.size, 6, none⟩ (.int .i64 n.names.length) = wS := ⟨_, rfl⟩
          have hkS : Kp (fun i => i = w5.heap.size) wN wS := by rw [← hWS]; exact ((Kp.refl (fun i => i = w5.heap.size) wN).set1 _ 5 _ rfl).set1 _ 6 _ rfl
          have hS : Blk wS w5.heap.size (ndA (ndLoad n) (.slice na5 n.names.length nc5)) ndT := by rw [← hWS]; exact (hN.set 5 _).set 6 _
          have hxS : Ext w3 wS := (hx5.ext hxN).next hkS (fun i hi e => by have := hx5.size; omega)
          have hnd : NdAt wS w5.heap.size (ndLoad n) := ⟨_, hS, owns_zero (ownsRow.kp (ownsRow.ext ho5 hxN) hkS (fun i hi e => nd_apart hN (owns_zero (ownsRow.ext ho5 hxN)) hi e))⟩
          have hTS := HT3.out.ext hxS
          have hwx := HX3.out.ext hxS
          obtain ⟨wM, u1, u2, u3, u4⟩ := MapK.update kStr tNodes hTS.map p (.pointer (some ⟨w5.heap.size, 0, none⟩))
          have hws : w.heap.size ≤ w5.heap.size := by
            have h1 := HXA.out.size
            have h2 := HX3.out.size
            have h3 := hx5.size
            omega
          have hbw : base ≤ w5.heap.size := by
            have h1 := HTA.out.low.1
            have h2 := HTA.out.blk.lt
            have h3 := HX3.out.size
            have h4 := hx5.size
            omega
          have HTM := Lib.hid (hTS.lay hbw hnd (fun e he e2 => by have := HFR.out _ (.inr ⟨e, he, rfl⟩); omega) u2 u3)
          have HKM : Hid (Kp (nodeFr m t) w wM) := (Ext.kp (HXA.out.ext hwx)).next u3 (fun i hi e => .inl e)
          have c1 := hTS.blk.cell 1 _ rfl
          have HWN := Lib.hid hWN
          have HWS := Lib.hid hWS
          have HFS := Lib.hid hws
          unfold ndA at hN
          have j0 := hN.cell 0 _ rfl
          have j1 := hN.cell 1 _ rfl
          have j2 := hN.cell 2 _ rfl
          have j3 := hN.cell 3 _ rfl
          have j4 := hN.cell 4 _ rfl
          have j5 := hN.cell 5 _ rfl
          have j6 := hN.cell 6 _ rfl
          have j7 := hN.cell 7 _ rfl
          have j8 := hN.cell 8 _ rfl
          have j9 := hN.cell 9 _ rfl
          have fj0 := hN.free 0
          have fj1 := hN.free 1
          have fj2 := hN.free 2
          have fj3 := hN.free 3
          have fj4 := hN.free 4
          have fj5 := hN.free 5
          have fj6 := hN.free 6
          have fj7 := hN.free 7
          have fj8 := hN.free 8
          have fj9 := hN.free 9
          clear hWN hxN hN hkS hS hxS hnd hTS hwx u2 u3 u4 hWS hx5 ho5 HCP a0 a1 a2 a3 a4 a5 a6 a7 a8 a9 hbw hws
          go_upto_region 8 with (fail)
          rw [HWN.out]
          go_upto_region 9 with (fail)
          rw [HWS.out]
          clear j0 j1 j2 j3 j4 j5 j6 j7 j8 j9 fj0 fj1 fj2 fj3 fj4 fj5 fj6 fj7 fj8 fj9
          go_wp2_with (fail)
          go_ret
          rw [HE.out]
          exact ⟨_, rfl, HTM.out, by rw [pl_set], HKM.out, (Fresh.refl _ _).set HFS.out _ _⟩
end Go.Proofs.YtdagikbdpeblhaaGreatDoor
