
/- Walks over the reference's tree: create. -/
import Derived.Test.YtdagikbdpeblhaaGreatDoorAvG31
namespace Go.Proofs.YtdagikbdpeblhaaGreatDoor
set_option maxRecDepth 100000
open Go.RowKit Av

theorem new10_ex (z o : Int) (d : ByteArray) (w : World) : Calls Tryz.prog 103 #[.int .i64 z, .int .i64 o, .string d] w fun e w' => ∃ n, n = ndNew z o d ∧ e = .returned (.agg (ndA n (.slice none 0 0))) ∧ Ext w w' := by
  refine (new10_any z o d w).mono ?_
  rintro e w' ⟨rfl, hx⟩
  exact ⟨_, rfl, rfl, hx⟩
set_option maxHeartbeats 6400000 in
theorem create_ref (base g : Nat) (room : Int) (v : Value) (E : List Ent) (k : Int) (p d : ByteArray) (ver f sess z : Int) (w : World) (h : RefA w base g room v E) (hr : Rising (keysR (entL E))) (hok : EntsK E) (hE : E.length ≤ 100000) (hp : p.size ≤ 1000000) (hf0 : 0 ≤ f) (hf3 : f ≤ 3) (hnum : 2 ≤ f → parentL p.data.toList ≠ none) :
    Calls Tryz.prog 50 #[.pointer (some ⟨g, 0, none⟩), .agg #[.int .i64 k, .string p, .string d, .int .i64 ver, .int .i64 f], .int .i64 sess, .int .i64 z] w fun e w' => RDPost w base g room v (createL room (entL E) ⟨k, p, d, ver, f⟩ sess z) e w' := by
  obtain ⟨wA, hWA⟩ : ∃ wA, w.alloc (.cells #[.int .i64 k, .string p, .string d, .int .i64 ver, .int .i64 f] 33) = wA := ⟨_, rfl⟩
  have hxA : Ext w wA := by rw [← hWA]; exact (Kp.refl _ _).alloc _
  have hA : Blk wA w.heap.size #[.int .i64 k, .string p, .string d, .int .i64 ver, .int .i64 f] 33 := by rw [← hWA]; exact heap_alloc_new w _
  obtain ⟨wB, hWB⟩ : ∃ wB, wA.alloc (.cells rsZ rsuT) = wB := ⟨_, rfl⟩
  have hxB : Ext wA wB := by rw [← hWB]; exact (Kp.refl _ _).alloc _
  have hsA : wA.heap.size = w.heap.size + 1 := by rw [← hWA]; exact World.size_alloc _ _
  have hB : Blk wB (w.heap.size + 1) rsZ rsuT := by rw [← hWB, ← hsA]; exact heap_alloc_new wA _
  have HAB := Lib.hid (hA.kp hxB (fun f => f))
  have HB := Lib.hid hB
  have HXB := Lib.hid (hxA.ext hxB)
  have HRB := Lib.hid (h.ext (hxA.ext hxB))
  have HWA := Lib.hid hWA
  unfold rsZ at hWB
  have HWB := Lib.hid hWB
  have HPAR := Lib.hid (refParent_any p wB (by unfold maxLen; omega))
  have HAT := Lib.hid (fun W (hW : Ext wB W) q => at_any base g room v E q W ((h.ext (hxA.ext hxB)).ext hW))
  obtain ⟨X, hX⟩ : ∃ X, createL room (entL E) ⟨k, p, d, ver, f⟩ sess z = X := ⟨_, rfl⟩
  rw [hX]
  have HC : Hid (X = createL room (entL E) ⟨k, p, d, ver, f⟩ sess z) := hX.symm
  clear hWA hxA hA hWB hxB hB hsA hX
  have HLE : Hid ((entL E).length = E.length) := List.length_map _
  cases hup : parentL p.data.toList with
  | none =>
    obtain ⟨va, vc, rfl⟩ := owns_slice h.ents.row
    have hpl : placeP room (entL E) p f = finQ room (entL E) p := by unfold placeP; rw [hup]
    have HPL := Lib.hid hpl
    have HPQ : Hid (parentL p.data.toList = none) := hup
    have HGW : Hid (g < w.heap.size) := h.blk.lt
    obtain ⟨o, ho⟩ : ∃ o, ownF f sess = o := ⟨_, rfl⟩
    have HOF := Lib.hid ho
    have hfc : f = 0 ∨ f = 1 := by
      have : ¬ 2 ≤ f := fun h2 => hnum h2 hup
      omega
    rw [hup] at HPAR
    clear h hup hf0 hf3 hnum hpl ho
    rcases hfc with rfl | rfl
    all_goals
      go_enter Tryz.func50, Tryz.ntmps50
      go_upto_region 1 with (fail)
      rw [HWA.out]
      rw [HWB.out]
      have hab := HAB.out
      have a0 := hab.cell 0 _ rfl
      have a1 := hab.cell 1 _ rfl
      have a2 := hab.cell 2 _ rfl
      have a3 := hab.cell 3 _ rfl
      have a4 := hab.cell 4 _ rfl
      clear hab
      go_wp2_with (fail)
      refine HPAR.out.mono ?_
      rintro e w1 ⟨rfl, hx1⟩
      simp only [Option.isSome_none]
      have HX1 := Lib.hid hx1
      clear hx1
      go_wp2_with (fail)
      refine (HAT.out _ HX1.out _).mono ?_
      rintro e w2 ⟨rfl, hx2⟩
      generalize atR (entL E) (optS none) = k0
      generalize isAt (entL E) (optS none) = b0
      have HX2 := Lib.hid (HX1.out.trans hx2)
      clear hx2
      have hab2 := HAB.out.kp HX2.out (fun f => f)
      have b0 := hab2.cell 0 _ rfl
      have b1 := hab2.cell 1 _ rfl
      have b2 := hab2.cell 2 _ rfl
      have b3 := hab2.cell 3 _ rfl
      have b4 := hab2.cell 4 _ rfl
      clear hab2
      go_wp2_with (fail)
      cases hgq : mget (entL E) p with
      | some m5 =>
        have hF : finQ room (entL E) p = (⟨#[]⟩, 5) := by unfold finQ; rw [hgq]; rfl
        have HE : Hid (X = (entL E, failR 5)) := by show _ = _; rw [HC.out]; unfold createL; simp only [HPL.out, hF]; rfl
        refine (HAT.out _ HX2.out p).mono ?_
        rintro e w4 ⟨rfl, hx4⟩
        rw [isAt_some hr hgq]
        have HX4 := Lib.hid (HX2.out.trans hx4)
        clear hx4 hgq hF HC HPL
        go_wp2_with (fail)
        refine (fail10_any 5 _).mono ?_
        rintro e1 w8 ⟨rfl, hx8⟩
        have hB8 := HB.out.kp (HX4.out.trans hx8) (fun f => f)
        have HR8 := Lib.hid (HRB.out.ext (HX4.out.trans hx8))
        have HB8 := Lib.hid hB8
        have HX8 := Lib.hid (HXB.out.ext (HX4.out.trans hx8))
        unfold rsZ at hB8
        have c0 := hB8.cell 0 _ rfl
        have c1 := hB8.cell 1 _ rfl
        have c2 := hB8.cell 2 _ rfl
        have c3 := hB8.cell 3 _ rfl
        have c4 := hB8.cell 4 _ rfl
        have c5 := hB8.cell 5 _ rfl
        have c6 := hB8.cell 6 _ rfl
        have c7 := hB8.cell 7 _ rfl
        have c8 := hB8.cell 8 _ rfl
        have c9 := hB8.cell 9 _ rfl
        have c10 := hB8.cell 10 _ rfl
        have fc0 := hB8.free 0
        have fc1 := hB8.free 1
        have fc2 := hB8.free 2
        have fc3 := hB8.free 3
        have fc4 := hB8.free 4
        have fc5 := hB8.free 5
        have fc6 := hB8.free 6
        have fc7 := hB8.free 7
        have fc8 := hB8.free 8
        have fc9 := hB8.free 9
        have fc10 := hB8.free 10
        clear hB8 hx8
        unfold resA
        go_wp2_with (fail)
        go_light
        refine bodyPost_ret (v := resA 5 ⟨#[]⟩ ⟨#[]⟩ (.slice none 0 0) ndZ) (by simp [results, Tryz.results50, go_sem, resA, ndZ, c0, c1, c2, c3, c4, c5, c6, c7, c8, c9, c10]) rfl ?_
        have k11 := kp_set11 w8 (w.heap.size + 1) (.int .i64 5) (.string ⟨#[]⟩) (.string ⟨#[]⟩) (.slice none 0 0) (.int .i64 0) (.int .i64 0) (.int .i64 0) (.int .i64 0) (.int .i64 0) (.int .i64 0) (.int .i64 0)
        exact RDPost.fail HE.out (HR8.out.aside HB8.out k11) (HX8.out.next k11 (fun i hi e => by omega))
      | none =>
        refine (HAT.out _ HX2.out p).mono ?_
        rintro e w4 ⟨rfl, hx4⟩
        rw [isAt_none hgq]
        have HX4 := Lib.hid (HX2.out.trans hx4)
        clear hx4
        by_cases hrm : room ≤ (E.length : Int)
        · have hF : finQ room (entL E) p = (⟨#[]⟩, 9) := by unfold finQ; rw [hgq, if_neg (by simp), if_pos (by rw [HLE.out]; exact hrm)]
          have HE : Hid (X = (entL E, failR 9)) := by show _ = _; rw [HC.out]; unfold createL; simp only [HPL.out, hF]; rfl
          clear hgq hF HC HPL
          go_upto_region 16 with (fail)
          refine' wp_region_dag0 ((85, .val _) :: (86, .val _) :: (87, .val _) :: (88, .val _) :: (89, .val _) :: (90, .val _) :: (91, .val _) :: (92, .val _) :: (93, .val _) :: (94, .val _) :: []) (by exact ⟨fun _ _ _ _ _ => trivial, ⟨fun _ _ _ _ _ => trivial, ⟨fun _ _ _ _ _ => trivial, ⟨fun _ _ _ _ _ => trivial, ⟨fun _ _ _ _ _ => trivial, ⟨fun _ _ _ _ _ => trivial, ⟨fun _ _ _ _ _ => trivial, ⟨fun _ _ _ _ _ => trivial, ⟨fun _ _ _ _ _ => trivial, ⟨fun _ _ _ _ _ => trivial, trivial⟩⟩⟩⟩⟩⟩⟩⟩⟩⟩) (by kernel_rfl) (by kernel_rfl) (by kernel_rfl) ?_
          rotate_left 10
          repeat (first
            | (refine wpD_skipv ?_ ?_ ?_
               focus rfl
               focus rfl
               simp only [Act.put, List.setIfInBounds_toArray, List.set_cons_succ, List.set_cons_zero])
            | (refine' wpD_val (c := _) ?_ (fun w => Kp.refl _ w) ?_ (fun wq hwq hfq => ?_) ?_
               rotate_left
               focus rfl
               focus rfl
               focus ((have hbq := (HRB.out.ext (HX4.out.trans hwq)).blk; have r0 := hbq.cell 0 _ rfl; have r1 := hbq.cell 1 _ rfl); go_simp; first | done | rfl)
               simp only [Act.put, List.setIfInBounds_toArray, List.set_cons_succ, List.set_cons_zero])
            | (refine' wpD_con (c := _) ?_ ?_ (fun wq hwq hfq => ?_) ?_
               rotate_left
               focus rfl
               focus rfl
               focus ((have hbq := (HRB.out.ext (HX4.out.trans hwq)).blk; have r0 := hbq.cell 0 _ rfl; have r1 := hbq.cell 1 _ rfl); go_simp; (try (rw [dUpon_enter])); fail)
               simp only [Act.put, List.setIfInBounds_toArray, List.set_cons_succ, List.set_cons_zero])
            | fail)
          refine wpD_nil ?_
          intro w5 hx5 hend
          clear hend
          have HX5 := Lib.hid (HX4.out.trans hx5)
          clear hx5
          go_wp2_with (fail)
          refine (fail10_any 9 _).mono ?_
          rintro e1 w8 ⟨rfl, hx8⟩
          have hB8 := HB.out.kp (HX5.out.trans hx8) (fun f => f)
          have HR8 := Lib.hid (HRB.out.ext (HX5.out.trans hx8))
          have HB8 := Lib.hid hB8
          have HX8 := Lib.hid (HXB.out.ext (HX5.out.trans hx8))
          unfold rsZ at hB8
          have c0 := hB8.cell 0 _ rfl
          have c1 := hB8.cell 1 _ rfl
          have c2 := hB8.cell 2 _ rfl
          have c3 := hB8.cell 3 _ rfl
          have c4 := hB8.cell 4 _ rfl
          have c5 := hB8.cell 5 _ rfl
          have c6 := hB8.cell 6 _ rfl
          have c7 := hB8.cell 7 _ rfl
          have c8 := hB8.cell 8 _ rfl
          have c9 := hB8.cell 9 _ rfl
          have c10 := hB8.cell 10 _ rfl
          have fc0 := hB8.free 0
          have fc1 := hB8.free 1
          have fc2 := hB8.free 2
          have fc3 := hB8.free 3
          have fc4 := hB8.free 4
          have fc5 := hB8.free 5
          have fc6 := hB8.free 6
          have fc7 := hB8.free 7
          have fc8 := hB8.free 8
          have fc9 := hB8.free 9
          have fc10 := hB8.free 10
          clear hB8 hx8
          unfold resA
          go_wp2_with (fail)
          go_light
          refine bodyPost_ret (v := resA 9 ⟨#[]⟩ ⟨#[]⟩ (.slice none 0 0) ndZ) (by simp [results, Tryz.results50, go_sem, resA, ndZ, c0, c1, c2, c3, c4, c5, c6, c7, c8, c9, c10]) rfl ?_
          have k11 := kp_set11 w8 (w.heap.size + 1) (.int .i64 9) (.string ⟨#[]⟩) (.string ⟨#[]⟩) (.slice none 0 0) (.int .i64 0) (.int .i64 0) (.int .i64 0) (.int .i64 0) (.int .i64 0) (.int .i64 0) (.int .i64 0)
          exact RDPost.fail HE.out (HR8.out.aside HB8.out k11) (HX8.out.next k11 (fun i hi e => by omega))
        · have hF : finQ room (entL E) p = (p, 0) := by unfold finQ; rw [hgq, if_neg (by simp), if_neg (by rw [HLE.out]; exact hrm)]
          have HE : Hid (X = (putR (tellL ndAdd (entL E) p) (atR (tellL ndAdd (entL E) p) p) (p, ndNew z o d), ⟨0, p, ⟨#[]⟩, [], ndNew z o d⟩)) := by show _ = _; rw [HC.out]; unfold createL; simp only [HPL.out, hF, HOF.out]; rfl
          clear hgq hF HC HPL
          go_upto_region 16 with (fail)
          refine' wp_region_dag0 ((85, .val _) :: (86, .val _) :: (87, .val _) :: (88, .val _) :: (89, .val _) :: (90, .val _) :: (91, .val _) :: (92, .val _) :: (93, .val _) :: (94, .val _) :: []) (by exact ⟨fun _ _ _ _ _ => trivial, ⟨fun _ _ _ _ _ => trivial, ⟨fun _ _ _ _ _ => trivial, ⟨fun _ _ _ _ _ => trivial, ⟨fun _ _ _ _ _ => trivial, ⟨fun _ _ _ _ _ => trivial, ⟨fun _ _ _ _ _ => trivial, ⟨fun _ _ _ _ _ => trivial, ⟨fun _ _ _ _ _ => trivial, ⟨fun _ _ _ _ _ => trivial, trivial⟩⟩⟩⟩⟩⟩⟩⟩⟩⟩) (by kernel_rfl) (by kernel_rfl) (by kernel_rfl) ?_
          rotate_left 10
          repeat (first
            | (refine wpD_skipv ?_ ?_ ?_
               focus rfl
               focus rfl
               simp only [Act.put, List.setIfInBounds_toArray, List.set_cons_succ, List.set_cons_zero])
            | (refine' wpD_val (c := _) ?_ (fun w => Kp.refl _ w) ?_ (fun wq hwq hfq => ?_) ?_
               rotate_left
               focus rfl
               focus rfl
               focus ((have hbq := (HRB.out.ext (HX4.out.trans hwq)).blk; have r0 := hbq.cell 0 _ rfl; have r1 := hbq.cell 1 _ rfl); go_simp; first | done | rfl)
               simp only [Act.put, List.setIfInBounds_toArray, List.set_cons_succ, List.set_cons_zero])
            | (refine' wpD_con (c := _) ?_ ?_ (fun wq hwq hfq => ?_) ?_
               rotate_left
               focus rfl
               focus rfl
               focus ((have hbq := (HRB.out.ext (HX4.out.trans hwq)).blk; have r0 := hbq.cell 0 _ rfl; have r1 := hbq.cell 1 _ rfl); go_simp; (try (rw [dUpon_enter])); fail)
               simp only [Act.put, List.setIfInBounds_toArray, List.set_cons_succ, List.set_cons_zero])
            | fail)
          refine wpD_nil ?_
          intro w5 hx5 hend
          clear hend
          have HX5 := Lib.hid (HX4.out.trans hx5)
          clear hx5
          have hab5 := HAB.out.kp HX5.out (fun f => f)
          have i0 := hab5.cell 0 _ rfl
          have i1 := hab5.cell 1 _ rfl
          have i2 := hab5.cell 2 _ rfl
          have i3 := hab5.cell 3 _ rfl
          have i4 := hab5.cell 4 _ rfl
          clear hab5
          have HR6 := Lib.hid (HRB.out.ext HX5.out)
          have HB6 := Lib.hid (HB.out.kp HX5.out (fun f => f))
          have HKV : Hid (Kp (fun i => (Value.slice va E.length vc).ownBlock = some i) w w5) := (HXB.out.trans HX5.out).mono (fun i _ f => f.elim)
          have HLS : Hid (E.length ≤ 100000) := hE
          have HET : Hid (tellL ndAdd (entL E) p = entL E) := by
            show _ = _
            unfold tellL
            rw [HPQ.out]
          have y0 := i0
          clear i0
          have y1 := i1
          have y2 := i2
          have y3 := i3
          have y4 := i4
          clear i1 i2 i3 i4
          go_wp2_with (fail)
          refine (new10_ex _ _ _ _).mono ?_
          rintro e w7 ⟨n7, hn7, rfl, hx7⟩
          have HN7 := Lib.hid hn7
          have HX7 := Lib.hid hx7
          clear hn7 hx7 y0 y1 y2 y3 y4
          unfold ndA
          go_upto_region 24 with (fail)
          obtain ⟨wN, hWN⟩ : ∃ wN, w7.alloc (.cells #[.int .i64 n7.made, .int .i64 n7.chg, .int .i64 n7.ver, .int .i64 n7.kids, .int .i64 n7.own, .int .i64 n7.len, .int .i64 n7.cnt, .string n7.data, .int .i64 n7.next, .slice none 0 0] rnT) = wN := ⟨_, rfl⟩
          rw [hWN]
          have hxN : Ext w7 wN := by rw [← hWN]; exact (Kp.refl _ _).alloc _
          have hN : Blk wN w7.heap.size (ndA n7 (.slice none 0 0)) rnT := by rw [← hWN]; exact heap_alloc_new w7 _
          have HN := Lib.hid hN
          have HXN := Lib.hid (HX7.out.trans hxN)
          have HRN := Lib.hid (HR6.out.ext (HX7.out.trans hxN))
          have HBN := Lib.hid (HB6.out.kp (HX7.out.trans hxN) (fun f => f))
          have HNN : Hid (n7.names = []) := by show _ = _; rw [HN7.out]; rfl
          have HLAY := Lib.hid (lay_ref base g room (Value.slice va E.length vc) E p n7 (.slice none 0 0) wN HRN.out (by rw [HNN.out]; exact own_nil _) HLS.out)
          unfold entC at HLAY
          have hn := HN.out
          unfold ndA at hn
          have l0 := hn.cell 0 _ rfl
          have l1 := hn.cell 1 _ rfl
          have l2 := hn.cell 2 _ rfl
          have l3 := hn.cell 3 _ rfl
          have l4 := hn.cell 4 _ rfl
          have l5 := hn.cell 5 _ rfl
          have l6 := hn.cell 6 _ rfl
          have l7 := hn.cell 7 _ rfl
          have l8 := hn.cell 8 _ rfl
          have l9 := hn.cell 9 _ rfl
          clear hn hWN hxN hN
          go_wp2_with (fail)
          refine HLAY.out.mono ?_
          rintro e w8 ⟨u8, v8, rfl, hr8, hk8, hge8⟩
          have hgN : w7.heap.size ≠ g := fun e => by
            have h1 := HGW.out
            have h2 := HKV.out.size
            have h3 := HX7.out.size
            omega
          have hn8 := HN.out.kp hk8 hgN
          have HB8 := Lib.hid (HBN.out.kp hk8 (fun e => by have := HGW.out; omega))
          have HR8 := Lib.hid hr8
          have HK8 := Lib.hid hk8
          have HGE8 := Lib.hid hge8
          have hb8 := HB8.out
          unfold ndA at hn8
          unfold rsZ at hb8
          clear l0 l1 l2 l3 l4 l5 l6 l7 l8 l9 HLAY hr8 hk8 hge8
          have y0 := hn8.cell 0 _ rfl
          have y1 := hn8.cell 1 _ rfl
          have y2 := hn8.cell 2 _ rfl
          have y3 := hn8.cell 3 _ rfl
          have y4 := hn8.cell 4 _ rfl
          have y5 := hn8.cell 5 _ rfl
          have y6 := hn8.cell 6 _ rfl
          have y7 := hn8.cell 7 _ rfl
          have y8 := hn8.cell 8 _ rfl
          have y9 := hn8.cell 9 _ rfl
          have c0 := hb8.cell 0 _ rfl
          have c1 := hb8.cell 1 _ rfl
          have c2 := hb8.cell 2 _ rfl
          have c3 := hb8.cell 3 _ rfl
          have c4 := hb8.cell 4 _ rfl
          have c5 := hb8.cell 5 _ rfl
          have c6 := hb8.cell 6 _ rfl
          have c7 := hb8.cell 7 _ rfl
          have c8 := hb8.cell 8 _ rfl
          have c9 := hb8.cell 9 _ rfl
          have c10 := hb8.cell 10 _ rfl
          have fc0 := hb8.free 0
          have fc1 := hb8.free 1
          have fc2 := hb8.free 2
          have fc3 := hb8.free 3
          have fc4 := hb8.free 4
          have fc5 := hb8.free 5
          have fc6 := hb8.free 6
          have fc7 := hb8.free 7
          have fc8 := hb8.free 8
          have fc9 := hb8.free 9
          have fc10 := hb8.free 10
          clear hn8 hb8
          go_wp2_with (fail)
          go_light
          refine bodyPost_ret (v := resA 0 p ⟨#[]⟩ (.slice none 0 0) n7) (by simp [results, Tryz.results50, go_sem, resA, c0, c1, c2, c3, c4, c5, c6, c7, c8, c9, c10]) rfl ?_
          have k11 := kp_set11 w8 (w.heap.size + 1) (.int .i64 0) (.string p) (.string ⟨#[]⟩) (.slice none 0 0) (.int .i64 n7.made) (.int .i64 n7.chg) (.int .i64 n7.ver) (.int .i64 n7.kids) (.int .i64 n7.own) (.int .i64 n7.len) (.int .i64 n7.cnt)
          have eN : ndNew z o d = n7 := by rw [HN7.out, ← HOF.out]; rfl
          have eT := HET.out
          rw [HE.out, eN, eT]
          have hsz : w.heap.size ≤ wN.heap.size := Nat.le_trans HKV.out.size HXN.out.size
          refine ⟨v8, _, .slice none 0 0, rfl, own_nil _, HR8.out.aside HB8.out k11, ?_, ?_, fun i hi => .inr (Nat.le_trans hsz (HGE8.out i hi))⟩
          · unfold putR entL
            simp
          · have h1 : Kp (fun i => i = g ∨ (Value.slice va E.length vc).ownBlock = some i) w w8 := ((HKV.out.mono (fun i _ e => .inr e)).trans (HXN.out.mono (fun i _ f => f.elim))).trans (HK8.out.mono (fun i _ e => .inl e))
            exact h1.next k11 (fun i hi e => by omega)
  | some up =>
    obtain ⟨s, hs⟩ : ∃ s : ByteArray, ⟨up.toArray⟩ = s := ⟨_, rfl⟩
    have hopt : optS (some up) = s := by rw [← hs]; rfl
    rw [hup, hopt] at HPAR
    have HPL : Hid (placeP room (entL E) p f = match mget (entL E) s with
      | none => (⟨#[]⟩, 4)
      | some n => if n.own ≠ 0 then (⟨#[]⟩, 8) else if seqF f = true then (match numberL p.data.toList n.next with
        | none => (⟨#[]⟩, 1)
        | some q => finQ room (entL E) ⟨q.toArray⟩) else finQ room (entL E) p) := by show _ = _; unfold placeP; simp only [hup, hs]; rfl
    cases hg : mget (entL E) s with
    | none =>
      have HE : Hid (X = (entL E, failR 4)) := by show _ = _; rw [HC.out]; unfold createL; simp only [HPL.out, hg]; rfl
      have HAT1 := Lib.hid (fun W (hW : Ext wB W) => HAT.out W hW s)
      rw [isAt_none hg] at HAT1
      clear h hup hs hopt hg HPL HC hf0 hf3 hnum
      go_enter Tryz.func50, Tryz.ntmps50
      go_upto_region 1 with (fail)
      rw [HWA.out]
      rw [HWB.out]
      have hab := HAB.out
      have a0 := hab.cell 0 _ rfl
      have a1 := hab.cell 1 _ rfl
      have a2 := hab.cell 2 _ rfl
      have a3 := hab.cell 3 _ rfl
      have a4 := hab.cell 4 _ rfl
      clear hab
      go_wp2_with (fail)
      refine HPAR.out.mono ?_
      rintro e w1 ⟨rfl, hx1⟩
      simp only [Option.isSome_some]
      have HX1 := Lib.hid hx1
      clear hx1
      go_wp2_with (fail)
      refine (HAT1.out _ HX1.out).mono ?_
      rintro e w2 ⟨rfl, hx2⟩
      have HX2 := Lib.hid (HX1.out.trans hx2)
      clear hx2
      go_wp2_with (fail)
      refine (fail10_any 4 _).mono ?_
      rintro e1 w8 ⟨rfl, hx8⟩
      have hB8 := HB.out.kp (HX2.out.trans hx8) (fun f => f)
      have HR8 := Lib.hid (HRB.out.ext (HX2.out.trans hx8))
      have HB8 := Lib.hid hB8
      have HX8 := Lib.hid (HXB.out.ext (HX2.out.trans hx8))
      unfold rsZ at hB8
      have c0 := hB8.cell 0 _ rfl
      have c1 := hB8.cell 1 _ rfl
      have c2 := hB8.cell 2 _ rfl
      have c3 := hB8.cell 3 _ rfl
      have c4 := hB8.cell 4 _ rfl
      have c5 := hB8.cell 5 _ rfl
      have c6 := hB8.cell 6 _ rfl
      have c7 := hB8.cell 7 _ rfl
      have c8 := hB8.cell 8 _ rfl
      have c9 := hB8.cell 9 _ rfl
      have c10 := hB8.cell 10 _ rfl
      have fc0 := hB8.free 0
      have fc1 := hB8.free 1
      have fc2 := hB8.free 2
      have fc3 := hB8.free 3
      have fc4 := hB8.free 4
      have fc5 := hB8.free 5
      have fc6 := hB8.free 6
      have fc7 := hB8.free 7
      have fc8 := hB8.free 8
      have fc9 := hB8.free 9
      have fc10 := hB8.free 10
      clear hB8 hx8
      unfold resA
      go_wp2_with (fail)
      go_light
      refine bodyPost_ret (v := resA 4 ⟨#[]⟩ ⟨#[]⟩ (.slice none 0 0) ndZ) (by simp [results, Tryz.results50, go_sem, resA, ndZ, c0, c1, c2, c3, c4, c5, c6, c7, c8, c9, c10]) rfl ?_
      have k11 := kp_set11 w8 (w.heap.size + 1) (.int .i64 4) (.string ⟨#[]⟩) (.string ⟨#[]⟩) (.slice none 0 0) (.int .i64 0) (.int .i64 0) (.int .i64 0) (.int .i64 0) (.int .i64 0) (.int .i64 0) (.int .i64 0)
      exact RDPost.fail HE.out (HR8.out.aside HB8.out k11) (HX8.out.next k11 (fun i hi e => by omega))
    | some n =>
      have HAT1 := Lib.hid (fun W (hW : Ext wB W) => HAT.out W hW s)
      rw [isAt_some hr hg] at HAT1
      obtain ⟨hk, hkp, hkn⟩ := at_ent hr hg
      have hmem : E[atR (entL E) s] ∈ E := List.getElem_mem hk
      have hno := hok _ hmem
      have hnm : NmO w E[atR (entL E) s].nv E[atR (entL E) s].n.names := h.ents.ok _ hmem
      generalize hkk : atR (entL E) s = j at *
      rw [hkn] at hno hnm
      obtain ⟨nv, hnv⟩ : ∃ nv, E[j].nv = nv := ⟨_, rfl⟩
      rw [hnv] at hnm
      obtain ⟨na, nc, rfl⟩ := owns_slice hnm
      have HNM := Lib.hid hnm
      have HCELL : Hid (∃ q c, v = .slice (some ⟨q, 0, none⟩) E.length c ∧ RowB w q entT 11 c (E.flatMap entC)) := by
        obtain ⟨q, c, h1, h2, _⟩ := h.node hk n (.slice na n.names.length nc) hnm
        exact ⟨q, c, h1, h2⟩
      have HKE : Hid (entC E[j] = [.string s, .int .i64 n.made, .int .i64 n.chg, .int .i64 n.ver, .int .i64 n.kids, .int .i64 n.own, .int .i64 n.len, .int .i64 n.cnt, .string n.data, .int .i64 n.next, .slice na n.names.length nc]) := by show _ = _; unfold entC; rw [hkp, hkn, hnv]
      have HKP := Lib.hid hkp
      have HNOK := Lib.hid hno
      have HJ : Hid (atR (entL E) s = j) := hkk
      have HGW : Hid (g < w.heap.size) := h.blk.lt
      obtain ⟨o, ho⟩ : ∃ o, ownF f sess = o := ⟨_, rfl⟩
      have HOF := Lib.hid ho
      clear ho
      have HNUM := Lib.hid (fun W => refNumber_any p n.next W (by unfold maxLen; omega))
      simp only [hg] at HPL
      have HUP : Hid (parentL p.data.toList = some up ∧ (⟨up.toArray⟩ : ByteArray) = s ∧ mget (entL E) s = some n) := ⟨hup, hs, hg⟩
      clear hup hs hopt hg hkp hkn hmem hno hnm hnv hkk h
      obtain ⟨q, c, rfl, hrow⟩ := HCELL.out
      have HROW := Lib.hid hrow
      have HC2 : Hid (∀ W, Ext wB W → ∀ i u, i < 11 → [Value.string s, .int .i64 n.made, .int .i64 n.chg, .int .i64 n.ver, .int .i64 n.kids, .int .i64 n.own, .int .i64 n.len, .int .i64 n.cnt, .string n.data, .int .i64 n.next, .slice na n.names.length nc][i]? = some u → W.cell? ⟨q, j * 11 + i, none⟩ = some u) := fun W hW i u hi hu => rowE (HROW.out.kp (HXB.out.trans hW) (fun f => f)) hk HKE.out i u hi hu
      have hI1 : (0 : Int) ≤ (j : Int) := by omega
      have hI2 : (j : Int) < (E.length : Int) := by omega
      clear hrow HCELL
      by_cases hown : n.own = 0
      · rw [hown] at HC2
        rw [if_neg (by simp [hown])] at HPL
        have hfc : f = 0 ∨ f = 1 ∨ f = 2 ∨ f = 3 := by omega
        clear hf0 hf3 hnum
        by_cases hsq : seqF f = true
        · rw [if_pos hsq] at HPL
          cases hnl : numberL p.data.toList n.next with
          | none =>
            have HE : Hid (X = (entL E, failR 1)) := by show _ = _; rw [HC.out]; unfold createL; simp only [HPL.out, hnl]; rfl
            rw [hnl] at HNUM
            clear HPL HC hnl hown
            rcases hfc with rfl | rfl | rfl | rfl
            · exact absurd hsq (by decide)
            · exact absurd hsq (by decide)
            all_goals
              go_enter Tryz.func50, Tryz.ntmps50
              go_upto_region 1 with (fail)
              rw [HWA.out]
              rw [HWB.out]
              have hab := HAB.out
              have a0 := hab.cell 0 _ rfl
              have a1 := hab.cell 1 _ rfl
              have a2 := hab.cell 2 _ rfl
              have a3 := hab.cell 3 _ rfl
              have a4 := hab.cell 4 _ rfl
              clear hab
              go_wp2_with (fail)
              refine HPAR.out.mono ?_
              rintro e w1 ⟨rfl, hx1⟩
              simp only [Option.isSome_some]
              have HX1 := Lib.hid hx1
              clear hx1
              go_wp2_with (fail)
              refine (HAT1.out _ HX1.out).mono ?_
              rintro e w2 ⟨rfl, hx2⟩
              have HX2 := Lib.hid (HX1.out.trans hx2)
              clear hx2
              have c1 := (HRB.out.ext HX2.out).blk.cell 1 _ rfl
              have e5 := HC2.out _ HX2.out 5 _ (by decide) rfl
              have e9 := HC2.out _ HX2.out 9 _ (by decide) rfl
              have hab2 := HAB.out.kp HX2.out (fun f => f)
              have b0 := hab2.cell 0 _ rfl
              have b1 := hab2.cell 1 _ rfl
              have b2 := hab2.cell 2 _ rfl
              have b3 := hab2.cell 3 _ rfl
              have b4 := hab2.cell 4 _ rfl
              clear hab2
              go_wp2_with (fail)
              refine (HNUM.out _).mono ?_
              rintro e w3 ⟨rfl, hx3⟩
              simp only [Option.isSome_none]
              have HX3 := Lib.hid (HX2.out.trans hx3)
              clear hx3
              go_wp2_with (fail)
              refine (fail10_any 1 _).mono ?_
              rintro e1 w8 ⟨rfl, hx8⟩
              have hB8 := HB.out.kp (HX3.out.trans hx8) (fun f => f)
              have HR8 := Lib.hid (HRB.out.ext (HX3.out.trans hx8))
              have HB8 := Lib.hid hB8
              have HX8 := Lib.hid (HXB.out.ext (HX3.out.trans hx8))
              unfold rsZ at hB8
              have c0 := hB8.cell 0 _ rfl
              have c1 := hB8.cell 1 _ rfl
              have c2 := hB8.cell 2 _ rfl
              have c3 := hB8.cell 3 _ rfl
              have c4 := hB8.cell 4 _ rfl
              have c5 := hB8.cell 5 _ rfl
              have c6 := hB8.cell 6 _ rfl
              have c7 := hB8.cell 7 _ rfl
              have c8 := hB8.cell 8 _ rfl
              have c9 := hB8.cell 9 _ rfl
              have c10 := hB8.cell 10 _ rfl
              have fc0 := hB8.free 0
              have fc1 := hB8.free 1
              have fc2 := hB8.free 2
              have fc3 := hB8.free 3
              have fc4 := hB8.free 4
              have fc5 := hB8.free 5
              have fc6 := hB8.free 6
              have fc7 := hB8.free 7
              have fc8 := hB8.free 8
              have fc9 := hB8.free 9
              have fc10 := hB8.free 10
              clear hB8 hx8
              unfold resA
              go_wp2_with (fail)
              go_light
              refine bodyPost_ret (v := resA 1 ⟨#[]⟩ ⟨#[]⟩ (.slice none 0 0) ndZ) (by simp [results, Tryz.results50, go_sem, resA, ndZ, c0, c1, c2, c3, c4, c5, c6, c7, c8, c9, c10]) rfl ?_
              have k11 := kp_set11 w8 (w.heap.size + 1) (.int .i64 1) (.string ⟨#[]⟩) (.string ⟨#[]⟩) (.slice none 0 0) (.int .i64 0) (.int .i64 0) (.int .i64 0) (.int .i64 0) (.int .i64 0) (.int .i64 0) (.int .i64 0)
              exact RDPost.fail HE.out (HR8.out.aside HB8.out k11) (HX8.out.next k11 (fun i hi e => by omega))
          | some l =>
            obtain ⟨pq, hpq⟩ : ∃ pq : ByteArray, ⟨l.toArray⟩ = pq := ⟨_, rfl⟩
            have hoq : optS (some l) = pq := by rw [← hpq]; rfl
            have HPQ : Hid (parentL pq.data.toList = some up) := by
              obtain ⟨h1, _, _, h4, h5⟩ := number_some hnl
              show _ = _
              rw [← hpq]
              show parentL l = _
              rw [h4] at h5 ⊢
              rw [number_parent (fw_free 10 _) h1 h5]
              exact HUP.out.1
            have HSZ : Hid (pq.size ≤ 1000000) := by
              have h1 := path_small pq (by rw [← hpq]; exact (number_some hnl).2.2.2.2)
              show _ ≤ _
              omega
            simp only [hnl, hpq] at HPL
            rw [hnl, hoq] at HNUM
            clear hnl hown hoq
            rcases hfc with rfl | rfl | rfl | rfl
            · exact absurd hsq (by decide)
            · exact absurd hsq (by decide)
            all_goals
              go_enter Tryz.func50, Tryz.ntmps50
              go_upto_region 1 with (fail)
              rw [HWA.out]
              rw [HWB.out]
              have hab := HAB.out
              have a0 := hab.cell 0 _ rfl
              have a1 := hab.cell 1 _ rfl
              have a2 := hab.cell 2 _ rfl
              have a3 := hab.cell 3 _ rfl
              have a4 := hab.cell 4 _ rfl
              clear hab
              go_wp2_with (fail)
              refine HPAR.out.mono ?_
              rintro e w1 ⟨rfl, hx1⟩
              simp only [Option.isSome_some]
              have HX1 := Lib.hid hx1
              clear hx1
              go_wp2_with (fail)
              refine (HAT1.out _ HX1.out).mono ?_
              rintro e w2 ⟨rfl, hx2⟩
              have HX2 := Lib.hid (HX1.out.trans hx2)
              clear hx2
              have c1 := (HRB.out.ext HX2.out).blk.cell 1 _ rfl
              have e5 := HC2.out _ HX2.out 5 _ (by decide) rfl
              have e9 := HC2.out _ HX2.out 9 _ (by decide) rfl
              have hab2 := HAB.out.kp HX2.out (fun f => f)
              have b0 := hab2.cell 0 _ rfl
              have b1 := hab2.cell 1 _ rfl
              have b2 := hab2.cell 2 _ rfl
              have b3 := hab2.cell 3 _ rfl
              have b4 := hab2.cell 4 _ rfl
              clear hab2
              go_wp2_with (fail)
              refine (HNUM.out _).mono ?_
              rintro e w3 ⟨rfl, hx3⟩
              simp only [Option.isSome_some]
              have HX3 := Lib.hid (HX2.out.trans hx3)
              clear hx3
              go_wp2_with (fail)
              cases hgq : mget (entL E) pq with
              | some m5 =>
                have hF : finQ room (entL E) pq = (⟨#[]⟩, 5) := by unfold finQ; rw [hgq]; rfl
                have HE : Hid (X = (entL E, failR 5)) := by show _ = _; rw [HC.out]; unfold createL; simp only [HPL.out, hF]; rfl
                refine (HAT.out _ HX3.out pq).mono ?_
                rintro e w4 ⟨rfl, hx4⟩
                rw [isAt_some hr hgq]
                have HX4 := Lib.hid (HX3.out.trans hx4)
                clear hx4 hgq hF HC HPL
                go_wp2_with (fail)
                refine (fail10_any 5 _).mono ?_
                rintro e1 w8 ⟨rfl, hx8⟩
                have hB8 := HB.out.kp (HX4.out.trans hx8) (fun f => f)
                have HR8 := Lib.hid (HRB.out.ext (HX4.out.trans hx8))
                have HB8 := Lib.hid hB8
                have HX8 := Lib.hid (HXB.out.ext (HX4.out.trans hx8))
                unfold rsZ at hB8
                have c0 := hB8.cell 0 _ rfl
                have c1 := hB8.cell 1 _ rfl
                have c2 := hB8.cell 2 _ rfl
                have c3 := hB8.cell 3 _ rfl
                have c4 := hB8.cell 4 _ rfl
                have c5 := hB8.cell 5 _ rfl
                have c6 := hB8.cell 6 _ rfl
                have c7 := hB8.cell 7 _ rfl
                have c8 := hB8.cell 8 _ rfl
                have c9 := hB8.cell 9 _ rfl
                have c10 := hB8.cell 10 _ rfl
                have fc0 := hB8.free 0
                have fc1 := hB8.free 1
                have fc2 := hB8.free 2
                have fc3 := hB8.free 3
                have fc4 := hB8.free 4
                have fc5 := hB8.free 5
                have fc6 := hB8.free 6
                have fc7 := hB8.free 7
                have fc8 := hB8.free 8
                have fc9 := hB8.free 9
                have fc10 := hB8.free 10
                clear hB8 hx8
                unfold resA
                go_wp2_with (fail)
                go_light
                refine bodyPost_ret (v := resA 5 ⟨#[]⟩ ⟨#[]⟩ (.slice none 0 0) ndZ) (by simp [results, Tryz.results50, go_sem, resA, ndZ, c0, c1, c2, c3, c4, c5, c6, c7, c8, c9, c10]) rfl ?_
                have k11 := kp_set11 w8 (w.heap.size + 1) (.int .i64 5) (.string ⟨#[]⟩) (.string ⟨#[]⟩) (.slice none 0 0) (.int .i64 0) (.int .i64 0) (.int .i64 0) (.int .i64 0) (.int .i64 0) (.int .i64 0) (.int .i64 0)
                exact RDPost.fail HE.out (HR8.out.aside HB8.out k11) (HX8.out.next k11 (fun i hi e => by omega))
              | none =>
                refine (HAT.out _ HX3.out pq).mono ?_
                rintro e w4 ⟨rfl, hx4⟩
                rw [isAt_none hgq]
                have HX4 := Lib.hid (HX3.out.trans hx4)
                clear hx4
                by_cases hrm : room ≤ (E.length : Int)
                · have hF : finQ room (entL E) pq = (⟨#[]⟩, 9) := by unfold finQ; rw [hgq, if_neg (by simp), if_pos (by rw [HLE.out]; exact hrm)]
                  have HE : Hid (X = (entL E, failR 9)) := by show _ = _; rw [HC.out]; unfold createL; simp only [HPL.out, hF]; rfl
                  clear hgq hF HC HPL
                  go_upto_region 16 with (fail)
                  refine' wp_region_dag0 ((85, .val _) :: (86, .val _) :: (87, .val _) :: (88, .val _) :: (89, .val _) :: (90, .val _) :: (91, .val _) :: (92, .val _) :: (93, .val _) :: (94, .val _) :: []) (by exact ⟨fun _ _ _ _ _ => trivial, ⟨fun _ _ _ _ _ => trivial, ⟨fun _ _ _ _ _ => trivial, ⟨fun _ _ _ _ _ => trivial, ⟨fun _ _ _ _ _ => trivial, ⟨fun _ _ _ _ _ => trivial, ⟨fun _ _ _ _ _ => trivial, ⟨fun _ _ _ _ _ => trivial, ⟨fun _ _ _ _ _ => trivial, ⟨fun _ _ _ _ _ => trivial, trivial⟩⟩⟩⟩⟩⟩⟩⟩⟩⟩) (by kernel_rfl) (by kernel_rfl) (by kernel_rfl) ?_
                  rotate_left 10
                  repeat (first
                    | (refine wpD_skipv ?_ ?_ ?_
                       focus rfl
                       focus rfl
                       simp only [Act.put, List.setIfInBounds_toArray, List.set_cons_succ, List.set_cons_zero])
                    | (refine' wpD_val (c := _) ?_ (fun w => Kp.refl _ w) ?_ (fun wq hwq hfq => ?_) ?_
                       rotate_left
                       focus rfl
                       focus rfl
                       focus ((have hbq := (HRB.out.ext (HX4.out.trans hwq)).blk; have r0 := hbq.cell 0 _ rfl; have r1 := hbq.cell 1 _ rfl); go_simp; first | done | rfl)
                       simp only [Act.put, List.setIfInBounds_toArray, List.set_cons_succ, List.set_cons_zero])
                    | (refine' wpD_con (c := _) ?_ ?_ (fun wq hwq hfq => ?_) ?_
                       rotate_left
                       focus rfl
                       focus rfl
                       focus ((have hbq := (HRB.out.ext (HX4.out.trans hwq)).blk; have r0 := hbq.cell 0 _ rfl; have r1 := hbq.cell 1 _ rfl); go_simp; (try (rw [dUpon_enter])); fail)
                       simp only [Act.put, List.setIfInBounds_toArray, List.set_cons_succ, List.set_cons_zero])
                    | fail)
                  refine wpD_nil ?_
                  intro w5 hx5 hend
                  clear hend
                  have HX5 := Lib.hid (HX4.out.trans hx5)
                  clear hx5
                  go_wp2_with (fail)
                  refine (fail10_any 9 _).mono ?_
                  rintro e1 w8 ⟨rfl, hx8⟩
                  have hB8 := HB.out.kp (HX5.out.trans hx8) (fun f => f)
                  have HR8 := Lib.hid (HRB.out.ext (HX5.out.trans hx8))
                  have HB8 := Lib.hid hB8
                  have HX8 := Lib.hid (HXB.out.ext (HX5.out.trans hx8))
                  unfold rsZ at hB8
                  have c0 := hB8.cell 0 _ rfl
                  have c1 := hB8.cell 1 _ rfl
                  have c2 := hB8.cell 2 _ rfl
                  have c3 := hB8.cell 3 _ rfl
                  have c4 := hB8.cell 4 _ rfl
                  have c5 := hB8.cell 5 _ rfl
                  have c6 := hB8.cell 6 _ rfl
                  have c7 := hB8.cell 7 _ rfl
                  have c8 := hB8.cell 8 _ rfl
                  have c9 := hB8.cell 9 _ rfl
                  have c10 := hB8.cell 10 _ rfl
                  have fc0 := hB8.free 0
                  have fc1 := hB8.free 1
                  have fc2 := hB8.free 2
                  have fc3 := hB8.free 3
                  have fc4 := hB8.free 4
                  have fc5 := hB8.free 5
                  have fc6 := hB8.free 6
                  have fc7 := hB8.free 7
                  have fc8 := hB8.free 8
                  have fc9 := hB8.free 9
                  have fc10 := hB8.free 10
                  clear hB8 hx8
                  unfold resA
                  go_wp2_with (fail)
                  go_light
                  refine bodyPost_ret (v := resA 9 ⟨#[]⟩ ⟨#[]⟩ (.slice none 0 0) ndZ) (by simp [results, Tryz.results50, go_sem, resA, ndZ, c0, c1, c2, c3, c4, c5, c6, c7, c8, c9, c10]) rfl ?_
                  have k11 := kp_set11 w8 (w.heap.size + 1) (.int .i64 9) (.string ⟨#[]⟩) (.string ⟨#[]⟩) (.slice none 0 0) (.int .i64 0) (.int .i64 0) (.int .i64 0) (.int .i64 0) (.int .i64 0) (.int .i64 0) (.int .i64 0)
                  exact RDPost.fail HE.out (HR8.out.aside HB8.out k11) (HX8.out.next k11 (fun i hi e => by omega))
                · have hF : finQ room (entL E) pq = (pq, 0) := by unfold finQ; rw [hgq, if_neg (by simp), if_neg (by rw [HLE.out]; exact hrm)]
                  have HE : Hid (X = (putR (tellL ndAdd (entL E) pq) (atR (tellL ndAdd (entL E) pq) pq) (pq, ndNew z o d), ⟨0, pq, ⟨#[]⟩, [], ndNew z o d⟩)) := by show _ = _; rw [HC.out]; unfold createL; simp only [HPL.out, hF, HOF.out]; rfl
                  clear hgq hF HC HPL
                  go_upto_region 16 with (fail)
                  refine' wp_region_dag0 ((85, .val _) :: (86, .val _) :: (87, .val _) :: (88, .val _) :: (89, .val _) :: (90, .val _) :: (91, .val _) :: (92, .val _) :: (93, .val _) :: (94, .val _) :: []) (by exact ⟨fun _ _ _ _ _ => trivial, ⟨fun _ _ _ _ _ => trivial, ⟨fun _ _ _ _ _ => trivial, ⟨fun _ _ _ _ _ => trivial, ⟨fun _ _ _ _ _ => trivial, ⟨fun _ _ _ _ _ => trivial, ⟨fun _ _ _ _ _ => trivial, ⟨fun _ _ _ _ _ => trivial, ⟨fun _ _ _ _ _ => trivial, ⟨fun _ _ _ _ _ => trivial, trivial⟩⟩⟩⟩⟩⟩⟩⟩⟩⟩) (by kernel_rfl) (by kernel_rfl) (by kernel_rfl) ?_
                  rotate_left 10
                  repeat (first
                    | (refine wpD_skipv ?_ ?_ ?_
                       focus rfl
                       focus rfl
                       simp only [Act.put, List.setIfInBounds_toArray, List.set_cons_succ, List.set_cons_zero])
                    | (refine' wpD_val (c := _) ?_ (fun w => Kp.refl _ w) ?_ (fun wq hwq hfq => ?_) ?_
                       rotate_left
                       focus rfl
                       focus rfl
                       focus ((have hbq := (HRB.out.ext (HX4.out.trans hwq)).blk; have r0 := hbq.cell 0 _ rfl; have r1 := hbq.cell 1 _ rfl); go_simp; first | done | rfl)
                       simp only [Act.put, List.setIfInBounds_toArray, List.set_cons_succ, List.set_cons_zero])
                    | (refine' wpD_con (c := _) ?_ ?_ (fun wq hwq hfq => ?_) ?_
                       rotate_left
                       focus rfl
                       focus rfl
                       focus ((have hbq := (HRB.out.ext (HX4.out.trans hwq)).blk; have r0 := hbq.cell 0 _ rfl; have r1 := hbq.cell 1 _ rfl); go_simp; (try (rw [dUpon_enter])); fail)
                       simp only [Act.put, List.setIfInBounds_toArray, List.set_cons_succ, List.set_cons_zero])
                    | fail)
                  refine wpD_nil ?_
                  intro w5 hx5 hend
                  clear hend
                  have HX5 := Lib.hid (HX4.out.trans hx5)
                  clear hx5 c1 e5 e9
                  have hab5 := HAB.out.kp HX5.out (fun f => f)
                  have i0 := hab5.cell 0 _ rfl
                  have i1 := hab5.cell 1 _ rfl
                  have i2 := hab5.cell 2 _ rfl
                  have i3 := hab5.cell 3 _ rfl
                  have i4 := hab5.cell 4 _ rfl
                  clear hab5
                  have HRW5 := Lib.hid (HROW.out.kp (HXB.out.trans HX5.out) (fun f => f))
                  have HH5 := Lib.hid (HRB.out.ext HX5.out)
                  have HQL : Hid (q < w.heap.size) := HROW.out.lt
                  have HG5 : Hid (g < w5.heap.size) := HH5.out.blk.lt
                  have HGQ : Hid (g ≠ q) := fun e => by
                    subst e
                    obtain ⟨cur, h1, _⟩ := HRW5.out
                    have h2 : w5.heap[g]? = some (.cells _ rtT (0, 0)) := HH5.out.blk
                    rw [h1] at h2
                    simp only [Option.some.injEq, Obj.cells.injEq] at h2
                    exact absurd h2.2.1 (by decide)
                  have HGX : Hid (∀ W, Kp (fun i => w5.heap.size ≤ i ∨ i = q) w5 W → Blk W g _ rtT) := fun W hW => HH5.out.blk.kp hW (fun e => by
                    have h1 : g < w5.heap.size := HG5.out
                    rcases e with e | e
                    · omega
                    · exact HGQ.out e)
                  have HNO : Hid (∀ W, (∃ E', RowB W q entT 11 c E') → NoT W (fun i => i = q) strT) := fun W hW i e cur2 f hc => by
                    have e2 : i = q := e
                    subst e2
                    obtain ⟨_, cur, h1, _⟩ := hW
                    rw [h1] at hc
                    simp only [Option.some.injEq, Obj.cells.injEq] at hc
                    exact absurd hc.2.1 (by decide)
                  have HNMX : Hid (∀ W, Kp (fun i => w5.heap.size ≤ i ∨ i = q) w5 W → NmO W (.slice na n.names.length nc) n.names) := fun W hW => by
                    have h2 : NmO w5 (.slice na n.names.length nc) n.names := ownsRow.ext HNM.out (HXB.out.trans HX5.out)
                    refine ownsRow.kp h2 hW (fun i hi e => ?_)
                    have h3 := (own_in h2 hi).2
                    obtain ⟨cur, f, h4⟩ := own_type h2 hi
                    rcases e with e | e
                    · omega
                    · exact HNO.out w5 ⟨_, HRW5.out⟩ i e cur f h4
                  have HNAME := Lib.hid (fun W => refName_any pq W (by have := HSZ.out; unfold maxLen; omega))
                  obtain ⟨x, hx⟩ : ∃ x, lastL (pq).data.toList = x := ⟨_, rfl⟩
                  rw [hx] at HNAME
                  have HADD := Lib.hid (fun W (hW : NmO W (.slice na n.names.length nc) n.names) => add10_any n (.slice na n.names.length nc) x W hW HNOK.out.few HNOK.out.kids HNOK.out.next)
                  obtain ⟨M, hM⟩ : ∃ M, ndAdd n x = M := ⟨_, rfl⟩
                  rw [hM] at HADD
                  have HMX : Hid (ndAdd n x = M ∧ lastL (pq).data.toList = x) := ⟨hM, hx⟩
                  clear hM hx
                  go_upto_region 22 with (fail)
                  refine' Av.X.wp_region_dagP (fun i => i = q) 22 [(115, [900], []), (9999, [901], [900])] [900, 901] ((103, .val _) :: (104, .val _) :: (105, .val _) :: (106, .val _) :: (107, .val _) :: (108, .val _) :: (109, .val _) :: (110, .val _) :: (111, .val _) :: (112, .val _) :: (113, .val _) :: (114, .val _) :: (115, ⟨fun v => v = .agg #[.int .i64 n.made, .int .i64 n.chg, .int .i64 n.ver, .int .i64 n.kids, .int .i64 n.own, .int .i64 n.len, .int .i64 n.cnt, .string n.data, .int .i64 n.next, .slice na n.names.length nc], fun _ _ => True⟩) :: (116, .val _) :: (117, .val _) :: (118, ⟨fun v => ∃ a c u, v = .tuple #[.agg #[.int .i64 M.made, .int .i64 M.chg, .int .i64 M.ver, .int .i64 M.kids, .int .i64 M.own, .int .i64 M.len, .int .i64 M.cnt, .string M.data, .int .i64 M.next, .slice a M.names.length c], u], fun v w' => NdV M v w'⟩) :: (102, ⟨fun v => ∃ a c u, v = .tuple #[.agg #[.int .i64 M.made, .int .i64 M.chg, .int .i64 M.ver, .int .i64 M.kids, .int .i64 M.own, .int .i64 M.len, .int .i64 M.cnt, .string M.data, .int .i64 M.next, .slice a M.names.length c], u], fun v w' => NdV M v w'⟩) :: (119, ⟨fun v => ∃ a c, v = .agg #[.int .i64 M.made, .int .i64 M.chg, .int .i64 M.ver, .int .i64 M.kids, .int .i64 M.own, .int .i64 M.len, .int .i64 M.cnt, .string M.data, .int .i64 M.next, .slice a M.names.length c], fun v w' => NdU M v w'⟩) :: (120, ⟨fun _ => True, fun _ _ => True⟩) :: (121, .val _) :: (122, .val _) :: (900, ⟨fun _ => True, fun _ w' => RowB w' q entT 11 c (E.flatMap entC)⟩) :: (901, ⟨fun _ => True, fun _ w' => RowB w' q entT 11 c (E.flatMap entC)⟩) :: (9999, ⟨fun _ => True, fun _ w' => ∃ nv, RowB w' q entT 11 c ((E.set j ⟨s, M, nv⟩).flatMap entC) ∧ NmO w' nv M.names⟩) :: []) (by exact ⟨fun _ _ _ _ _ => trivial, ⟨fun _ _ _ _ _ => trivial, ⟨fun _ _ _ _ _ => trivial, ⟨fun _ _ _ _ _ => trivial, ⟨fun _ _ _ _ _ => trivial, ⟨fun _ _ _ _ _ => trivial, ⟨fun _ _ _ _ _ => trivial, ⟨fun _ _ _ _ _ => trivial, ⟨fun _ _ _ _ _ => trivial, ⟨fun _ _ _ _ _ => trivial, ⟨fun _ _ _ _ _ => trivial, ⟨fun _ _ _ _ _ => trivial, ⟨fun _ _ _ _ _ => trivial, ⟨fun _ _ _ _ _ => trivial, ⟨fun _ _ _ _ _ => trivial, ⟨fun _ _ _ hr hv => hv.ext hr, ⟨fun _ _ _ hr hv => hv.ext hr, ⟨fun _ _ _ hr hv => hv.ext hr, ⟨fun _ _ _ _ _ => trivial, ⟨fun _ _ _ _ _ => trivial, ⟨fun _ _ _ _ _ => trivial, ⟨fun _ _ _ hr hv => RowB.kp hv hr (fun f => f), ⟨fun _ _ _ hr hv => RowB.kp hv hr (fun f => f), ⟨fun _ _ _ hr hv => hv.elim fun nv h => ⟨nv, h.1.kp hr (fun f => f), ownsRow.ext h.2 hr⟩, trivial⟩⟩⟩⟩⟩⟩⟩⟩⟩⟩⟩⟩⟩⟩⟩⟩⟩⟩⟩⟩⟩⟩⟩⟩) (by exact ⟨⟨undef, RowB.kp HRW5.out (Kp.refl (fun _ => False) _).drew (fun f => f)⟩, ⟨⟨undef, RowB.kp HRW5.out (Kp.refl (fun _ => False) _).drew (fun f => f)⟩, trivial⟩⟩) (by kernel_rfl) (by kernel_rfl) (by kernel_rfl) ?_
                  rotate_left 16
                  simp only [List.take_succ_cons, List.take_zero]
                  repeat (first
                    | (refine Av.X.wpD_skipv ?_ ?_ ?_
                       focus rfl
                       focus rfl
                       simp only [Act.put, List.setIfInBounds_toArray, List.set_cons_succ, List.set_cons_zero])
                    | (refine' Av.X.wpD_val (c := _) ?_ (fun w => Kp.refl _ w) ?_ (fun wq hwq hfz => ?_) ?_
                       rotate_left
                       focus rfl
                       focus rfl
                       focus (have hfq := hfz.at_; have hcq := hfz.use; (have c1 := (HGX.out _ hwq).cell 1 _ rfl); go_simp; first | done | rfl)
                       simp only [Act.put, List.setIfInBounds_toArray, List.set_cons_succ, List.set_cons_zero])
                    | (refine' Av.X.wpD_con (c := _) ?_ ?_ (fun wq hwq hfz => ?_) ?_
                       rotate_left
                       focus rfl
                       focus rfl
                       focus (have hfq := hfz.at_; have hcq := hfz.use; (have c1 := (HGX.out _ hwq).cell 1 _ rfl); go_simp; (try (rw [dUpon_enter])); ((with_reducible refine (HNAME.out _).mono ?_); rintro e w' ⟨rfl, hx⟩; exact DEnd.con hx))
                       simp only [Act.put, List.setIfInBounds_toArray, List.set_cons_succ, List.set_cons_zero])
                    | (refine Av.X.wpD_used (A := fun v => v = .agg #[.int .i64 n.made, .int .i64 n.chg, .int .i64 n.ver, .int .i64 n.kids, .int .i64 n.own, .int .i64 n.len, .int .i64 n.cnt, .string n.data, .int .i64 n.next, .slice na n.names.length nc]) (V := fun _ _ => True) 115 ?_ ?_ ?_ ?_ (fun wq hwq hfz => ?_) (fun v115 h115 => ?_)
                       focus rfl
                       focus rfl
                       focus (exact ⟨_, rfl⟩)
                       focus rfl
                       focus (have hfq := hfz.at_; have hcq := hfz.use; (have c1 := (HGX.out _ hwq).cell 1 _ rfl); have hrow : RowB wq q entT 11 c (E.flatMap entC) := (hcq 900 rfl).elim (fun _ h => h); have e1 := rowE hrow hk HKE.out 1 _ (by decide) rfl; have e2 := rowE hrow hk HKE.out 2 _ (by decide) rfl; have e3 := rowE hrow hk HKE.out 3 _ (by decide) rfl; have e4 := rowE hrow hk HKE.out 4 _ (by decide) rfl; have e5 := rowE hrow hk HKE.out 5 _ (by decide) rfl; have e6 := rowE hrow hk HKE.out 6 _ (by decide) rfl; have e7 := rowE hrow hk HKE.out 7 _ (by decide) rfl; have e8 := rowE hrow hk HKE.out 8 _ (by decide) rfl; have e9 := rowE hrow hk HKE.out 9 _ (by decide) rfl; have e10 := rowE hrow hk HKE.out 10 _ (by decide) rfl; go_simp; rw [dUpon_value]; first | exact ⟨rfl, Kp.refl _ _, presL_refl _ _ _⟩ | exact ⟨rfl, trivial, Kp.refl _ _, presL_refl _ _ _⟩)
                       subst h115
                       simp only [Act.put, List.setIfInBounds_toArray, List.set_cons_succ, List.set_cons_zero])
                    | (refine Av.X.wpD_made (A := fun v => ∃ a c u, v = .tuple #[.agg #[.int .i64 M.made, .int .i64 M.chg, .int .i64 M.ver, .int .i64 M.kids, .int .i64 M.own, .int .i64 M.len, .int .i64 M.cnt, .string M.data, .int .i64 M.next, .slice a M.names.length c], u]) (V := fun v w' => NdV M v w') 118 ?_ ?_ ?_ ?_ (fun wq hwq hfz => ?_) (fun v118 h118 => ?_)
                       focus rfl
                       focus rfl
                       focus (exact ⟨_, none, 0, undef, rfl⟩)
                       focus rfl
                       focus (have hfq := hfz.at_; have hcq := hfz.use; (have c1 := (HGX.out _ hwq).cell 1 _ rfl); go_simp; (try (rw [dUpon_enter])); (refine (HADD.out _ (HNMX.out _ hwq)).mono ?_); rintro e w' ⟨nv', u, rfl, ho, hx⟩; obtain ⟨a, c, rfl⟩ := owns_slice ho; exact DEnd.made ⟨a, c, u, rfl⟩ ⟨a, c, u, rfl, ho⟩ hx)
                       obtain ⟨a118, c118, u118, rfl⟩ := h118
                       simp only [Act.put, List.setIfInBounds_toArray, List.set_cons_succ, List.set_cons_zero])
                    | (refine Av.X.wpD_made (A := fun v => ∃ a c u, v = .tuple #[.agg #[.int .i64 M.made, .int .i64 M.chg, .int .i64 M.ver, .int .i64 M.kids, .int .i64 M.own, .int .i64 M.len, .int .i64 M.cnt, .string M.data, .int .i64 M.next, .slice a M.names.length c], u]) (V := fun v w' => NdV M v w') 102 ?_ ?_ ?_ ?_ (fun wq hwq hfz => ?_) (fun v102 h102 => ?_)
                       focus rfl
                       focus rfl
                       focus (exact ⟨_, none, 0, undef, rfl⟩)
                       focus rfl
                       focus (have hfq := hfz.at_; have hcq := hfz.use; (have c1 := (HGX.out _ hwq).cell 1 _ rfl); go_simp; (try (rw [dUpon_enter])); rw [dUpon_value]; exact mPost ⟨_, _, _, rfl⟩ (hfq 118 rfl) (Kp.refl _ _))
                       obtain ⟨a102, c102, u102, rfl⟩ := h102
                       simp only [Act.put, List.setIfInBounds_toArray, List.set_cons_succ, List.set_cons_zero])
                    | (refine Av.X.wpD_made (A := fun v => ∃ a c, v = .agg #[.int .i64 M.made, .int .i64 M.chg, .int .i64 M.ver, .int .i64 M.kids, .int .i64 M.own, .int .i64 M.len, .int .i64 M.cnt, .string M.data, .int .i64 M.next, .slice a M.names.length c]) (V := fun v w' => NdU M v w') 119 ?_ ?_ ?_ ?_ (fun wq hwq hfz => ?_) (fun v119 h119 => ?_)
                       focus rfl
                       focus rfl
                       focus (exact ⟨_, none, 0, rfl⟩)
                       focus rfl
                       focus (have hfq := hfz.at_; have hcq := hfz.use; (have c1 := (HGX.out _ hwq).cell 1 _ rfl); go_simp; (try (rw [dUpon_enter])); rw [dUpon_value]; exact mPost ⟨_, _, rfl⟩ (NdV.one (hfq 102 rfl)) (Kp.refl _ _))
                       obtain ⟨a119, c119, rfl⟩ := h119
                       simp only [Act.put, List.setIfInBounds_toArray, List.set_cons_succ, List.set_cons_zero])
                    | (refine Av.X.wpD_made (A := fun _ => True) (V := fun _ _ => True) 120 ?_ ?_ ?_ ?_ (fun wq hwq hfz => ?_) (fun v120 h120 => ?_)
                       focus rfl
                       focus rfl
                       focus (exact ⟨undef, trivial⟩)
                       focus rfl
                       focus (have hfq := hfz.at_; have hcq := hfz.use; (have c1 := (HGX.out _ hwq).cell 1 _ rfl); go_simp; (try (rw [dUpon_enter])); rw [dUpon_value]; exact mPost trivial trivial (Kp.refl _ _))
                       clear h120
                       simp only [Act.put, List.setIfInBounds_toArray, List.set_cons_succ, List.set_cons_zero])
                    | (refine Av.X.wpD_put rfl ?_ (fun wq hwq hfz => ?_) ?_
                       focus rfl
                       focus (have hfq := hfz.at_; have hcq := hfz.use; (have c1 := (HGX.out _ hwq).cell 1 _ rfl); have hrow : RowB wq q entT 11 c (E.flatMap entC) := (hcq 901 rfl).elim (fun _ h => h); have h119 : NdU M _ wq := hfq 119 rfl; have e1 := rowE hrow hk HKE.out 1 _ (by decide) rfl; have e2 := rowE hrow hk HKE.out 2 _ (by decide) rfl; have e3 := rowE hrow hk HKE.out 3 _ (by decide) rfl; have e4 := rowE hrow hk HKE.out 4 _ (by decide) rfl; have e5 := rowE hrow hk HKE.out 5 _ (by decide) rfl; have e6 := rowE hrow hk HKE.out 6 _ (by decide) rfl; have e7 := rowE hrow hk HKE.out 7 _ (by decide) rfl; have e8 := rowE hrow hk HKE.out 8 _ (by decide) rfl; have e9 := rowE hrow hk HKE.out 9 _ (by decide) rfl; have e10 := rowE hrow hk HKE.out 10 _ (by decide) rfl; have f1 := hrow.free (j * 11 + 1); have f2 := hrow.free (j * 11 + 2); have f3 := hrow.free (j * 11 + 3); have f4 := hrow.free (j * 11 + 4); have f5 := hrow.free (j * 11 + 5); have f6 := hrow.free (j * 11 + 6); have f7 := hrow.free (j * 11 + 7); have f8 := hrow.free (j * 11 + 8); have f9 := hrow.free (j * 11 + 9); have f10 := hrow.free (j * 11 + 10); go_simp; have hk' : Kp (fun i => i = q) wq (wq.setCells q (j * 11 + 1) (ndL M (.slice a119 M.names.length c119))) := kp_setCells _ _ _; have hp := put_node hrow hk M (.slice a119 M.names.length c119); rw [HKP.out] at hp; have hno := HNO.out wq ⟨_, hrow⟩; have hV : ∃ nv, RowB (wq.setCells q (j * 11 + 1) (ndL M (.slice a119 M.names.length c119))) q entT 11 c ((E.set j ⟨s, M, nv⟩).flatMap entC) ∧ NmO (wq.setCells q (j * 11 + 1) (ndL M (.slice a119 M.names.length c119))) nv M.names := ⟨_, hp, (NdU.kp h119 hk' hno).own⟩; rw [dUpon_skip]; refine ⟨hk'.mono (fun i _ e => .inr e), hV, ?_⟩; repeat (first | exact PresL.nil | (with_reducible refine PresL.val ?_) | (refine PresL.out rfl ?_) | (refine PresL.keep (fun u hu => trivial) ?_) | (refine PresL.keep (fun u hu => NdV.kp hu hk' hno) ?_) | (refine PresL.keep (fun u hu => NdU.kp hu hk' hno) ?_) | (refine PresL.keep (fun u hu => hV) ?_))))
                    | fail)
                  refine Av.X.wpD_nil ?_
                  intro w6 hx6 hend hput
                  refine wpList_nil ?_
                  have hq6 : ∃ nv, RowB w6 q entT 11 c ((E.set j ⟨s, M, nv⟩).flatMap entC) ∧ NmO w6 nv M.names := hput (by kernel_rfl)
                  clear hend hput
                  obtain ⟨nv6, hr6, hn6⟩ := hq6
                  have HS5 : Hid (w.heap.size + 1 < w5.heap.size) := (HB.out.kp HX5.out (fun f => f)).lt
                  have HNW : Hid (∀ i, w.heap.size ≤ i → i < w5.heap.size → ¬ (w5.heap.size ≤ i ∨ i = q)) := fun i h1 h2 e => by
                    have := HQL.out
                    omega
                  have HR6 := Lib.hid (HH5.out.node2 hx6 hr6 hn6)
                  have HK6 : Hid (Kp (fun i => i = q) w w6) := ((HXB.out.trans HX5.out).mono (fun i _ f => f.elim)).trans (hx6.mono (fun i hi e => by
                    rcases e with e | e
                    · omega
                    · exact e))
                  have hab6 := (HAB.out.kp HX5.out (fun f => f)).kp hx6 (HNW.out _ (Nat.le_refl _) (by have := HS5.out; omega))
                  have HB6 := Lib.hid ((HB.out.kp HX5.out (fun f => f)).kp hx6 (HNW.out _ (Nat.le_succ _) HS5.out))
                  clear hr6 hn6 hx6 i0 i1 i2 i3 i4
                  have y0 := hab6.cell 0 _ rfl
                  have y1 := hab6.cell 1 _ rfl
                  have y2 := hab6.cell 2 _ rfl
                  have y3 := hab6.cell 3 _ rfl
                  have y4 := hab6.cell 4 _ rfl
                  clear hab6
                  have HKV : Hid (Kp (fun i => (Value.slice (some ⟨q, 0, none⟩) E.length c).ownBlock = some i) w w6) := HK6.out.mono (fun i _ e => by rw [e]; rfl)
                  have HLS : Hid ((E.set j ⟨s, M, nv6⟩).length ≤ 100000) := by show _ ≤ _; rw [List.length_set]; exact hE
                  have HET : Hid (tellL ndAdd (entL E) pq = entL (E.set j ⟨s, M, nv6⟩)) := by
                    show _ = _
                    rw [entL_set]
                    unfold tellL
                    rw [HPQ.out]
                    simp only [HUP.out.2.1, HUP.out.2.2, HJ.out, HMX.out.1, HMX.out.2]
                  go_wp2_with (fail)
                  refine (new10_ex _ _ _ _).mono ?_
                  rintro e w7 ⟨n7, hn7, rfl, hx7⟩
                  have HN7 := Lib.hid hn7
                  have HX7 := Lib.hid hx7
                  clear hn7 hx7 y0 y1 y2 y3 y4
                  unfold ndA
                  go_upto_region 24 with (fail)
                  obtain ⟨wN, hWN⟩ : ∃ wN, w7.alloc (.cells #[.int .i64 n7.made, .int .i64 n7.chg, .int .i64 n7.ver, .int .i64 n7.kids, .int .i64 n7.own, .int .i64 n7.len, .int .i64 n7.cnt, .string n7.data, .int .i64 n7.next, .slice none 0 0] rnT) = wN := ⟨_, rfl⟩
                  rw [hWN]
                  have hxN : Ext w7 wN := by rw [← hWN]; exact (Kp.refl _ _).alloc _
                  have hN : Blk wN w7.heap.size (ndA n7 (.slice none 0 0)) rnT := by rw [← hWN]; exact heap_alloc_new w7 _
                  have HN := Lib.hid hN
                  have HXN := Lib.hid (HX7.out.trans hxN)
                  have HRN := Lib.hid (HR6.out.ext (HX7.out.trans hxN))
                  have HBN := Lib.hid (HB6.out.kp (HX7.out.trans hxN) (fun f => f))
                  have HNN : Hid (n7.names = []) := by show _ = _; rw [HN7.out]; rfl
                  have HLAY := Lib.hid (lay_ref base g room (Value.slice (some ⟨q, 0, none⟩) E.length c) (E.set j ⟨s, M, nv6⟩) pq n7 (.slice none 0 0) wN HRN.out (by rw [HNN.out]; exact own_nil _) HLS.out)
                  unfold entC at HLAY
                  have hn := HN.out
                  unfold ndA at hn
                  have l0 := hn.cell 0 _ rfl
                  have l1 := hn.cell 1 _ rfl
                  have l2 := hn.cell 2 _ rfl
                  have l3 := hn.cell 3 _ rfl
                  have l4 := hn.cell 4 _ rfl
                  have l5 := hn.cell 5 _ rfl
                  have l6 := hn.cell 6 _ rfl
                  have l7 := hn.cell 7 _ rfl
                  have l8 := hn.cell 8 _ rfl
                  have l9 := hn.cell 9 _ rfl
                  clear hn hWN hxN hN
                  go_wp2_with (fail)
                  refine HLAY.out.mono ?_
                  rintro e w8 ⟨u8, v8, rfl, hr8, hk8, hge8⟩
                  have hgN : w7.heap.size ≠ g := fun e => by
                    have h1 := HGW.out
                    have h2 := HKV.out.size
                    have h3 := HX7.out.size
                    omega
                  have hn8 := HN.out.kp hk8 hgN
                  have HB8 := Lib.hid (HBN.out.kp hk8 (fun e => by have := HGW.out; omega))
                  have HR8 := Lib.hid hr8
                  have HK8 := Lib.hid hk8
                  have HGE8 := Lib.hid hge8
                  have hb8 := HB8.out
                  unfold ndA at hn8
                  unfold rsZ at hb8
                  clear l0 l1 l2 l3 l4 l5 l6 l7 l8 l9 HLAY hr8 hk8 hge8
                  have y0 := hn8.cell 0 _ rfl
                  have y1 := hn8.cell 1 _ rfl
                  have y2 := hn8.cell 2 _ rfl
                  have y3 := hn8.cell 3 _ rfl
                  have y4 := hn8.cell 4 _ rfl
                  have y5 := hn8.cell 5 _ rfl
                  have y6 := hn8.cell 6 _ rfl
                  have y7 := hn8.cell 7 _ rfl
                  have y8 := hn8.cell 8 _ rfl
                  have y9 := hn8.cell 9 _ rfl
                  have c0 := hb8.cell 0 _ rfl
                  have c1 := hb8.cell 1 _ rfl
                  have c2 := hb8.cell 2 _ rfl
                  have c3 := hb8.cell 3 _ rfl
                  have c4 := hb8.cell 4 _ rfl
                  have c5 := hb8.cell 5 _ rfl
                  have c6 := hb8.cell 6 _ rfl
                  have c7 := hb8.cell 7 _ rfl
                  have c8 := hb8.cell 8 _ rfl
                  have c9 := hb8.cell 9 _ rfl
                  have c10 := hb8.cell 10 _ rfl
                  have fc0 := hb8.free 0
                  have fc1 := hb8.free 1
                  have fc2 := hb8.free 2
                  have fc3 := hb8.free 3
                  have fc4 := hb8.free 4
                  have fc5 := hb8.free 5
                  have fc6 := hb8.free 6
                  have fc7 := hb8.free 7
                  have fc8 := hb8.free 8
                  have fc9 := hb8.free 9
                  have fc10 := hb8.free 10
                  clear hn8 hb8
                  go_wp2_with (fail)
                  go_light
                  refine bodyPost_ret (v := resA 0 pq ⟨#[]⟩ (.slice none 0 0) n7) (by simp [results, Tryz.results50, go_sem, resA, c0, c1, c2, c3, c4, c5, c6, c7, c8, c9, c10]) rfl ?_
                  have k11 := kp_set11 w8 (w.heap.size + 1) (.int .i64 0) (.string pq) (.string ⟨#[]⟩) (.slice none 0 0) (.int .i64 n7.made) (.int .i64 n7.chg) (.int .i64 n7.ver) (.int .i64 n7.kids) (.int .i64 n7.own) (.int .i64 n7.len) (.int .i64 n7.cnt)
                  have eN : ndNew z o d = n7 := by rw [HN7.out, ← HOF.out]; rfl
                  have eT := HET.out
                  rw [HE.out, eN, eT]
                  have hsz : w.heap.size ≤ wN.heap.size := Nat.le_trans HKV.out.size HXN.out.size
                  refine ⟨v8, _, .slice none 0 0, rfl, own_nil _, HR8.out.aside HB8.out k11, ?_, ?_, fun i hi => .inr (Nat.le_trans hsz (HGE8.out i hi))⟩
                  · unfold putR entL
                    simp
                  · have h1 : Kp (fun i => i = g ∨ (Value.slice (some ⟨q, 0, none⟩) E.length c).ownBlock = some i) w w8 := ((HKV.out.mono (fun i _ e => .inr e)).trans (HXN.out.mono (fun i _ f => f.elim))).trans (HK8.out.mono (fun i _ e => .inl e))
                    exact h1.next k11 (fun i hi e => by omega)
        · rw [if_neg hsq] at HPL
          have HSZ : Hid (p.size ≤ 1000000) := hp
          have HPQ : Hid (parentL p.data.toList = some up) := HUP.out.1
          clear hown HNUM
          rcases hfc with rfl | rfl | rfl | rfl
          rotate_left 2
          · exact absurd rfl hsq
          · exact absurd rfl hsq
          all_goals
            go_enter Tryz.func50, Tryz.ntmps50
            go_upto_region 1 with (fail)
            rw [HWA.out]
            rw [HWB.out]
            have hab := HAB.out
            have a0 := hab.cell 0 _ rfl
            have a1 := hab.cell 1 _ rfl
            have a2 := hab.cell 2 _ rfl
            have a3 := hab.cell 3 _ rfl
            have a4 := hab.cell 4 _ rfl
            clear hab
            go_wp2_with (fail)
            refine HPAR.out.mono ?_
            rintro e w1 ⟨rfl, hx1⟩
            simp only [Option.isSome_some]
            have HX1 := Lib.hid hx1
            clear hx1
            go_wp2_with (fail)
            refine (HAT1.out _ HX1.out).mono ?_
            rintro e w2 ⟨rfl, hx2⟩
            have HX2 := Lib.hid (HX1.out.trans hx2)
            clear hx2
            have c1 := (HRB.out.ext HX2.out).blk.cell 1 _ rfl
            have e5 := HC2.out _ HX2.out 5 _ (by decide) rfl
            have e9 := HC2.out _ HX2.out 9 _ (by decide) rfl
            have hab2 := HAB.out.kp HX2.out (fun f => f)
            have b0 := hab2.cell 0 _ rfl
            have b1 := hab2.cell 1 _ rfl
            have b2 := hab2.cell 2 _ rfl
            have b3 := hab2.cell 3 _ rfl
            have b4 := hab2.cell 4 _ rfl
            clear hab2
            go_wp2_with (fail)
            cases hgq : mget (entL E) p with
            | some m5 =>
              have hF : finQ room (entL E) p = (⟨#[]⟩, 5) := by unfold finQ; rw [hgq]; rfl
              have HE : Hid (X = (entL E, failR 5)) := by show _ = _; rw [HC.out]; unfold createL; simp only [HPL.out, hF]; rfl
              refine (HAT.out _ HX2.out p).mono ?_
              rintro e w4 ⟨rfl, hx4⟩
              rw [isAt_some hr hgq]
              have HX4 := Lib.hid (HX2.out.trans hx4)
              clear hx4 hgq hF HC HPL
              go_wp2_with (fail)
              refine (fail10_any 5 _).mono ?_
              rintro e1 w8 ⟨rfl, hx8⟩
              have hB8 := HB.out.kp (HX4.out.trans hx8) (fun f => f)
              have HR8 := Lib.hid (HRB.out.ext (HX4.out.trans hx8))
              have HB8 := Lib.hid hB8
              have HX8 := Lib.hid (HXB.out.ext (HX4.out.trans hx8))
              unfold rsZ at hB8
              have c0 := hB8.cell 0 _ rfl
              have c1 := hB8.cell 1 _ rfl
              have c2 := hB8.cell 2 _ rfl
              have c3 := hB8.cell 3 _ rfl
              have c4 := hB8.cell 4 _ rfl
              have c5 := hB8.cell 5 _ rfl
              have c6 := hB8.cell 6 _ rfl
              have c7 := hB8.cell 7 _ rfl
              have c8 := hB8.cell 8 _ rfl
              have c9 := hB8.cell 9 _ rfl
              have c10 := hB8.cell 10 _ rfl
              have fc0 := hB8.free 0
              have fc1 := hB8.free 1
              have fc2 := hB8.free 2
              have fc3 := hB8.free 3
              have fc4 := hB8.free 4
              have fc5 := hB8.free 5
              have fc6 := hB8.free 6
              have fc7 := hB8.free 7
              have fc8 := hB8.free 8
              have fc9 := hB8.free 9
              have fc10 := hB8.free 10
              clear hB8 hx8
              unfold resA
              go_wp2_with (fail)
              go_light
              refine bodyPost_ret (v := resA 5 ⟨#[]⟩ ⟨#[]⟩ (.slice none 0 0) ndZ) (by simp [results, Tryz.results50, go_sem, resA, ndZ, c0, c1, c2, c3, c4, c5, c6, c7, c8, c9, c10]) rfl ?_
              have k11 := kp_set11 w8 (w.heap.size + 1) (.int .i64 5) (.string ⟨#[]⟩) (.string ⟨#[]⟩) (.slice none 0 0) (.int .i64 0) (.int .i64 0) (.int .i64 0) (.int .i64 0) (.int .i64 0) (.int .i64 0) (.int .i64 0)
              exact RDPost.fail HE.out (HR8.out.aside HB8.out k11) (HX8.out.next k11 (fun i hi e => by omega))
            | none =>
              refine (HAT.out _ HX2.out p).mono ?_
              rintro e w4 ⟨rfl, hx4⟩
              rw [isAt_none hgq]
              have HX4 := Lib.hid (HX2.out.trans hx4)
              clear hx4
              by_cases hrm : room ≤ (E.length : Int)
              · have hF : finQ room (entL E) p = (⟨#[]⟩, 9) := by unfold finQ; rw [hgq, if_neg (by simp), if_pos (by rw [HLE.out]; exact hrm)]
                have HE : Hid (X = (entL E, failR 9)) := by show _ = _; rw [HC.out]; unfold createL; simp only [HPL.out, hF]; rfl
                clear hgq hF HC HPL
                go_upto_region 16 with (fail)
                refine' wp_region_dag0 ((85, .val _) :: (86, .val _) :: (87, .val _) :: (88, .val _) :: (89, .val _) :: (90, .val _) :: (91, .val _) :: (92, .val _) :: (93, .val _) :: (94, .val _) :: []) (by exact ⟨fun _ _ _ _ _ => trivial, ⟨fun _ _ _ _ _ => trivial, ⟨fun _ _ _ _ _ => trivial, ⟨fun _ _ _ _ _ => trivial, ⟨fun _ _ _ _ _ => trivial, ⟨fun _ _ _ _ _ => trivial, ⟨fun _ _ _ _ _ => trivial, ⟨fun _ _ _ _ _ => trivial, ⟨fun _ _ _ _ _ => trivial, ⟨fun _ _ _ _ _ => trivial, trivial⟩⟩⟩⟩⟩⟩⟩⟩⟩⟩) (by kernel_rfl) (by kernel_rfl) (by kernel_rfl) ?_
                rotate_left 10
                repeat (first
                  | (refine wpD_skipv ?_ ?_ ?_
                     focus rfl
                     focus rfl
                     simp only [Act.put, List.setIfInBounds_toArray, List.set_cons_succ, List.set_cons_zero])
                  | (refine' wpD_val (c := _) ?_ (fun w => Kp.refl _ w) ?_ (fun wq hwq hfq => ?_) ?_
                     rotate_left
                     focus rfl
                     focus rfl
                     focus ((have hbq := (HRB.out.ext (HX4.out.trans hwq)).blk; have r0 := hbq.cell 0 _ rfl; have r1 := hbq.cell 1 _ rfl); go_simp; first | done | rfl)
                     simp only [Act.put, List.setIfInBounds_toArray, List.set_cons_succ, List.set_cons_zero])
                  | (refine' wpD_con (c := _) ?_ ?_ (fun wq hwq hfq => ?_) ?_
                     rotate_left
                     focus rfl
                     focus rfl
                     focus ((have hbq := (HRB.out.ext (HX4.out.trans hwq)).blk; have r0 := hbq.cell 0 _ rfl; have r1 := hbq.cell 1 _ rfl); go_simp; (try (rw [dUpon_enter])); fail)
                     simp only [Act.put, List.setIfInBounds_toArray, List.set_cons_succ, List.set_cons_zero])
                  | fail)
                refine wpD_nil ?_
                intro w5 hx5 hend
                clear hend
                have HX5 := Lib.hid (HX4.out.trans hx5)
                clear hx5
                go_wp2_with (fail)
                refine (fail10_any 9 _).mono ?_
                rintro e1 w8 ⟨rfl, hx8⟩
                have hB8 := HB.out.kp (HX5.out.trans hx8) (fun f => f)
                have HR8 := Lib.hid (HRB.out.ext (HX5.out.trans hx8))
                have HB8 := Lib.hid hB8
                have HX8 := Lib.hid (HXB.out.ext (HX5.out.trans hx8))
                unfold rsZ at hB8
                have c0 := hB8.cell 0 _ rfl
                have c1 := hB8.cell 1 _ rfl
                have c2 := hB8.cell 2 _ rfl
                have c3 := hB8.cell 3 _ rfl
                have c4 := hB8.cell 4 _ rfl
                have c5 := hB8.cell 5 _ rfl
                have c6 := hB8.cell 6 _ rfl
                have c7 := hB8.cell 7 _ rfl
                have c8 := hB8.cell 8 _ rfl
                have c9 := hB8.cell 9 _ rfl
                have c10 := hB8.cell 10 _ rfl
                have fc0 := hB8.free 0
                have fc1 := hB8.free 1
                have fc2 := hB8.free 2
                have fc3 := hB8.free 3
                have fc4 := hB8.free 4
                have fc5 := hB8.free 5
                have fc6 := hB8.free 6
                have fc7 := hB8.free 7
                have fc8 := hB8.free 8
                have fc9 := hB8.free 9
                have fc10 := hB8.free 10
                clear hB8 hx8
                unfold resA
                go_wp2_with (fail)
                go_light
                refine bodyPost_ret (v := resA 9 ⟨#[]⟩ ⟨#[]⟩ (.slice none 0 0) ndZ) (by simp [results, Tryz.results50, go_sem, resA, ndZ, c0, c1, c2, c3, c4, c5, c6, c7, c8, c9, c10]) rfl ?_
                have k11 := kp_set11 w8 (w.heap.size + 1) (.int .i64 9) (.string ⟨#[]⟩) (.string ⟨#[]⟩) (.slice none 0 0) (.int .i64 0) (.int .i64 0) (.int .i64 0) (.int .i64 0) (.int .i64 0) (.int .i64 0) (.int .i64 0)
                exact RDPost.fail HE.out (HR8.out.aside HB8.out k11) (HX8.out.next k11 (fun i hi e => by omega))
              · have hF : finQ room (entL E) p = (p, 0) := by unfold finQ; rw [hgq, if_neg (by simp), if_neg (by rw [HLE.out]; exact hrm)]
                have HE : Hid (X = (putR (tellL ndAdd (entL E) p) (atR (tellL ndAdd (entL E) p) p) (p, ndNew z o d), ⟨0, p, ⟨#[]⟩, [], ndNew z o d⟩)) := by show _ = _; rw [HC.out]; unfold createL; simp only [HPL.out, hF, HOF.out]; rfl
                clear hgq hF HC HPL
                go_upto_region 16 with (fail)
                refine' wp_region_dag0 ((85, .val _) :: (86, .val _) :: (87, .val _) :: (88, .val _) :: (89, .val _) :: (90, .val _) :: (91, .val _) :: (92, .val _) :: (93, .val _) :: (94, .val _) :: []) (by exact ⟨fun _ _ _ _ _ => trivial, ⟨fun _ _ _ _ _ => trivial, ⟨fun _ _ _ _ _ => trivial, ⟨fun _ _ _ _ _ => trivial, ⟨fun _ _ _ _ _ => trivial, ⟨fun _ _ _ _ _ => trivial, ⟨fun _ _ _ _ _ => trivial, ⟨fun _ _ _ _ _ => trivial, ⟨fun _ _ _ _ _ => trivial, ⟨fun _ _ _ _ _ => trivial, trivial⟩⟩⟩⟩⟩⟩⟩⟩⟩⟩) (by kernel_rfl) (by kernel_rfl) (by kernel_rfl) ?_
                rotate_left 10
                repeat (first
                  | (refine wpD_skipv ?_ ?_ ?_
                     focus rfl
                     focus rfl
                     simp only [Act.put, List.setIfInBounds_toArray, List.set_cons_succ, List.set_cons_zero])
                  | (refine' wpD_val (c := _) ?_ (fun w => Kp.refl _ w) ?_ (fun wq hwq hfq => ?_) ?_
                     rotate_left
                     focus rfl
                     focus rfl
                     focus ((have hbq := (HRB.out.ext (HX4.out.trans hwq)).blk; have r0 := hbq.cell 0 _ rfl; have r1 := hbq.cell 1 _ rfl); go_simp; first | done | rfl)
                     simp only [Act.put, List.setIfInBounds_toArray, List.set_cons_succ, List.set_cons_zero])
                  | (refine' wpD_con (c := _) ?_ ?_ (fun wq hwq hfq => ?_) ?_
                     rotate_left
                     focus rfl
                     focus rfl
                     focus ((have hbq := (HRB.out.ext (HX4.out.trans hwq)).blk; have r0 := hbq.cell 0 _ rfl; have r1 := hbq.cell 1 _ rfl); go_simp; (try (rw [dUpon_enter])); fail)
                     simp only [Act.put, List.setIfInBounds_toArray, List.set_cons_succ, List.set_cons_zero])
                  | fail)
                refine wpD_nil ?_
                intro w5 hx5 hend
                clear hend
                have HX5 := Lib.hid (HX4.out.trans hx5)
                clear hx5 c1 e5 e9
                have hab5 := HAB.out.kp HX5.out (fun f => f)
                have i0 := hab5.cell 0 _ rfl
                have i1 := hab5.cell 1 _ rfl
                have i2 := hab5.cell 2 _ rfl
                have i3 := hab5.cell 3 _ rfl
                have i4 := hab5.cell 4 _ rfl
                clear hab5
                have HRW5 := Lib.hid (HROW.out.kp (HXB.out.trans HX5.out) (fun f => f))
                have HH5 := Lib.hid (HRB.out.ext HX5.out)
                have HQL : Hid (q < w.heap.size) := HROW.out.lt
                have HG5 : Hid (g < w5.heap.size) := HH5.out.blk.lt
                have HGQ : Hid (g ≠ q) := fun e => by
                  subst e
                  obtain ⟨cur, h1, _⟩ := HRW5.out
                  have h2 : w5.heap[g]? = some (.cells _ rtT (0, 0)) := HH5.out.blk
                  rw [h1] at h2
                  simp only [Option.some.injEq, Obj.cells.injEq] at h2
                  exact absurd h2.2.1 (by decide)
                have HGX : Hid (∀ W, Kp (fun i => w5.heap.size ≤ i ∨ i = q) w5 W → Blk W g _ rtT) := fun W hW => HH5.out.blk.kp hW (fun e => by
                  have h1 : g < w5.heap.size := HG5.out
                  rcases e with e | e
                  · omega
                  · exact HGQ.out e)
                have HNO : Hid (∀ W, (∃ E', RowB W q entT 11 c E') → NoT W (fun i => i = q) strT) := fun W hW i e cur2 f hc => by
                  have e2 : i = q := e
                  subst e2
                  obtain ⟨_, cur, h1, _⟩ := hW
                  rw [h1] at hc
                  simp only [Option.some.injEq, Obj.cells.injEq] at hc
                  exact absurd hc.2.1 (by decide)
                have HNMX : Hid (∀ W, Kp (fun i => w5.heap.size ≤ i ∨ i = q) w5 W → NmO W (.slice na n.names.length nc) n.names) := fun W hW => by
                  have h2 : NmO w5 (.slice na n.names.length nc) n.names := ownsRow.ext HNM.out (HXB.out.trans HX5.out)
                  refine ownsRow.kp h2 hW (fun i hi e => ?_)
                  have h3 := (own_in h2 hi).2
                  obtain ⟨cur, f, h4⟩ := own_type h2 hi
                  rcases e with e | e
                  · omega
                  · exact HNO.out w5 ⟨_, HRW5.out⟩ i e cur f h4
                have HNAME := Lib.hid (fun W => refName_any p W (by have := HSZ.out; unfold maxLen; omega))
                obtain ⟨x, hx⟩ : ∃ x, lastL (p).data.toList = x := ⟨_, rfl⟩
                rw [hx] at HNAME
                have HADD := Lib.hid (fun W (hW : NmO W (.slice na n.names.length nc) n.names) => add10_any n (.slice na n.names.length nc) x W hW HNOK.out.few HNOK.out.kids HNOK.out.next)
                obtain ⟨M, hM⟩ : ∃ M, ndAdd n x = M := ⟨_, rfl⟩
                rw [hM] at HADD
                have HMX : Hid (ndAdd n x = M ∧ lastL (p).data.toList = x) := ⟨hM, hx⟩
                clear hM hx
                go_upto_region 22 with (fail)
                refine' Av.X.wp_region_dagP (fun i => i = q) 22 [(115, [900], []), (9999, [901], [900])] [900, 901] ((103, .val _) :: (104, .val _) :: (105, .val _) :: (106, .val _) :: (107, .val _) :: (108, .val _) :: (109, .val _) :: (110, .val _) :: (111, .val _) :: (112, .val _) :: (113, .val _) :: (114, .val _) :: (115, ⟨fun v => v = .agg #[.int .i64 n.made, .int .i64 n.chg, .int .i64 n.ver, .int .i64 n.kids, .int .i64 n.own, .int .i64 n.len, .int .i64 n.cnt, .string n.data, .int .i64 n.next, .slice na n.names.length nc], fun _ _ => True⟩) :: (116, .val _) :: (117, .val _) :: (118, ⟨fun v => ∃ a c u, v = .tuple #[.agg #[.int .i64 M.made, .int .i64 M.chg, .int .i64 M.ver, .int .i64 M.kids, .int .i64 M.own, .int .i64 M.len, .int .i64 M.cnt, .string M.data, .int .i64 M.next, .slice a M.names.length c], u], fun v w' => NdV M v w'⟩) :: (102, ⟨fun v => ∃ a c u, v = .tuple #[.agg #[.int .i64 M.made, .int .i64 M.chg, .int .i64 M.ver, .int .i64 M.kids, .int .i64 M.own, .int .i64 M.len, .int .i64 M.cnt, .string M.data, .int .i64 M.next, .slice a M.names.length c], u], fun v w' => NdV M v w'⟩) :: (119, ⟨fun v => ∃ a c, v = .agg #[.int .i64 M.made, .int .i64 M.chg, .int .i64 M.ver, .int .i64 M.kids, .int .i64 M.own, .int .i64 M.len, .int .i64 M.cnt, .string M.data, .int .i64 M.next, .slice a M.names.length c], fun v w' => NdU M v w'⟩) :: (120, ⟨fun _ => True, fun _ _ => True⟩) :: (121, .val _) :: (122, .val _) :: (900, ⟨fun _ => True, fun _ w' => RowB w' q entT 11 c (E.flatMap entC)⟩) :: (901, ⟨fun _ => True, fun _ w' => RowB w' q entT 11 c (E.flatMap entC)⟩) :: (9999, ⟨fun _ => True, fun _ w' => ∃ nv, RowB w' q entT 11 c ((E.set j ⟨s, M, nv⟩).flatMap entC) ∧ NmO w' nv M.names⟩) :: []) (by exact ⟨fun _ _ _ _ _ => trivial, ⟨fun _ _ _ _ _ => trivial, ⟨fun _ _ _ _ _ => trivial, ⟨fun _ _ _ _ _ => trivial, ⟨fun _ _ _ _ _ => trivial, ⟨fun _ _ _ _ _ => trivial, ⟨fun _ _ _ _ _ => trivial, ⟨fun _ _ _ _ _ => trivial, ⟨fun _ _ _ _ _ => trivial, ⟨fun _ _ _ _ _ => trivial, ⟨fun _ _ _ _ _ => trivial, ⟨fun _ _ _ _ _ => trivial, ⟨fun _ _ _ _ _ => trivial, ⟨fun _ _ _ _ _ => trivial, ⟨fun _ _ _ _ _ => trivial, ⟨fun _ _ _ hr hv => hv.ext hr, ⟨fun _ _ _ hr hv => hv.ext hr, ⟨fun _ _ _ hr hv => hv.ext hr, ⟨fun _ _ _ _ _ => trivial, ⟨fun _ _ _ _ _ => trivial, ⟨fun _ _ _ _ _ => trivial, ⟨fun _ _ _ hr hv => RowB.kp hv hr (fun f => f), ⟨fun _ _ _ hr hv => RowB.kp hv hr (fun f => f), ⟨fun _ _ _ hr hv => hv.elim fun nv h => ⟨nv, h.1.kp hr (fun f => f), ownsRow.ext h.2 hr⟩, trivial⟩⟩⟩⟩⟩⟩⟩⟩⟩⟩⟩⟩⟩⟩⟩⟩⟩⟩⟩⟩⟩⟩⟩⟩) (by exact ⟨⟨undef, RowB.kp HRW5.out (Kp.refl (fun _ => False) _).drew (fun f => f)⟩, ⟨⟨undef, RowB.kp HRW5.out (Kp.refl (fun _ => False) _).drew (fun f => f)⟩, trivial⟩⟩) (by kernel_rfl) (by kernel_rfl) (by kernel_rfl) ?_
                rotate_left 16
                simp only [List.take_succ_cons, List.take_zero]
                repeat (first
                  | (refine Av.X.wpD_skipv ?_ ?_ ?_
                     focus rfl
                     focus rfl
                     simp only [Act.put, List.setIfInBounds_toArray, List.set_cons_succ, List.set_cons_zero])
                  | (refine' Av.X.wpD_val (c := _) ?_ (fun w => Kp.refl _ w) ?_ (fun wq hwq hfz => ?_) ?_
                     rotate_left
                     focus rfl
                     focus rfl
                     focus (have hfq := hfz.at_; have hcq := hfz.use; (have c1 := (HGX.out _ hwq).cell 1 _ rfl); go_simp; first | done | rfl)
                     simp only [Act.put, List.setIfInBounds_toArray, List.set_cons_succ, List.set_cons_zero])
                  | (refine' Av.X.wpD_con (c := _) ?_ ?_ (fun wq hwq hfz => ?_) ?_
                     rotate_left
                     focus rfl
                     focus rfl
                     focus (have hfq := hfz.at_; have hcq := hfz.use; (have c1 := (HGX.out _ hwq).cell 1 _ rfl); go_simp; (try (rw [dUpon_enter])); ((with_reducible refine (HNAME.out _).mono ?_); rintro e w' ⟨rfl, hx⟩; exact DEnd.con hx))
                     simp only [Act.put, List.setIfInBounds_toArray, List.set_cons_succ, List.set_cons_zero])
                  | (refine Av.X.wpD_used (A := fun v => v = .agg #[.int .i64 n.made, .int .i64 n.chg, .int .i64 n.ver, .int .i64 n.kids, .int .i64 n.own, .int .i64 n.len, .int .i64 n.cnt, .string n.data, .int .i64 n.next, .slice na n.names.length nc]) (V := fun _ _ => True) 115 ?_ ?_ ?_ ?_ (fun wq hwq hfz => ?_) (fun v115 h115 => ?_)
                     focus rfl
                     focus rfl
                     focus (exact ⟨_, rfl⟩)
                     focus rfl
                     focus (have hfq := hfz.at_; have hcq := hfz.use; (have c1 := (HGX.out _ hwq).cell 1 _ rfl); have hrow : RowB wq q entT 11 c (E.flatMap entC) := (hcq 900 rfl).elim (fun _ h => h); have e1 := rowE hrow hk HKE.out 1 _ (by decide) rfl; have e2 := rowE hrow hk HKE.out 2 _ (by decide) rfl; have e3 := rowE hrow hk HKE.out 3 _ (by decide) rfl; have e4 := rowE hrow hk HKE.out 4 _ (by decide) rfl; have e5 := rowE hrow hk HKE.out 5 _ (by decide) rfl; have e6 := rowE hrow hk HKE.out 6 _ (by decide) rfl; have e7 := rowE hrow hk HKE.out 7 _ (by decide) rfl; have e8 := rowE hrow hk HKE.out 8 _ (by decide) rfl; have e9 := rowE hrow hk HKE.out 9 _ (by decide) rfl; have e10 := rowE hrow hk HKE.out 10 _ (by decide) rfl; go_simp; rw [dUpon_value]; first | exact ⟨rfl, Kp.refl _ _, presL_refl _ _ _⟩ | exact ⟨rfl, trivial, Kp.refl _ _, presL_refl _ _ _⟩)
                     subst h115
                     simp only [Act.put, List.setIfInBounds_toArray, List.set_cons_succ, List.set_cons_zero])
                  | (refine Av.X.wpD_made (A := fun v => ∃ a c u, v = .tuple #[.agg #[.int .i64 M.made, .int .i64 M.chg, .int .i64 M.ver, .int .i64 M.kids, .int .i64 M.own, .int .i64 M.len, .int .i64 M.cnt, .string M.data, .int .i64 M.next, .slice a M.names.length c], u]) (V := fun v w' => NdV M v w') 118 ?_ ?_ ?_ ?_ (fun wq hwq hfz => ?_) (fun v118 h118 => ?_)
                     focus rfl
                     focus rfl
                     focus (exact ⟨_, none, 0, undef, rfl⟩)
                     focus rfl
                     focus (have hfq := hfz.at_; have hcq := hfz.use; (have c1 := (HGX.out _ hwq).cell 1 _ rfl); go_simp; (try (rw [dUpon_enter])); (refine (HADD.out _ (HNMX.out _ hwq)).mono ?_); rintro e w' ⟨nv', u, rfl, ho, hx⟩; obtain ⟨a, c, rfl⟩ := owns_slice ho; exact DEnd.made ⟨a, c, u, rfl⟩ ⟨a, c, u, rfl, ho⟩ hx)
                     obtain ⟨a118, c118, u118, rfl⟩ := h118
                     simp only [Act.put, List.setIfInBounds_toArray, List.set_cons_succ, List.set_cons_zero])
                  | (refine Av.X.wpD_made (A := fun v => ∃ a c u, v = .tuple #[.agg #[.int .i64 M.made, .int .i64 M.chg, .int .i64 M.ver, .int .i64 M.kids, .int .i64 M.own, .int .i64 M.len, .int .i64 M.cnt, .string M.data, .int .i64 M.next, .slice a M.names.length c], u]) (V := fun v w' => NdV M v w') 102 ?_ ?_ ?_ ?_ (fun wq hwq hfz => ?_) (fun v102 h102 => ?_)
                     focus rfl
                     focus rfl
                     focus (exact ⟨_, none, 0, undef, rfl⟩)
                     focus rfl
                     focus (have hfq := hfz.at_; have hcq := hfz.use; (have c1 := (HGX.out _ hwq).cell 1 _ rfl); go_simp; (try (rw [dUpon_enter])); rw [dUpon_value]; exact mPost ⟨_, _, _, rfl⟩ (hfq 118 rfl) (Kp.refl _ _))
                     obtain ⟨a102, c102, u102, rfl⟩ := h102
                     simp only [Act.put, List.setIfInBounds_toArray, List.set_cons_succ, List.set_cons_zero])
                  | (refine Av.X.wpD_made (A := fun v => ∃ a c, v = .agg #[.int .i64 M.made, .int .i64 M.chg, .int .i64 M.ver, .int .i64 M.kids, .int .i64 M.own, .int .i64 M.len, .int .i64 M.cnt, .string M.data, .int .i64 M.next, .slice a M.names.length c]) (V := fun v w' => NdU M v w') 119 ?_ ?_ ?_ ?_ (fun wq hwq hfz => ?_) (fun v119 h119 => ?_)
                     focus rfl
                     focus rfl
                     focus (exact ⟨_, none, 0, rfl⟩)
                     focus rfl
                     focus (have hfq := hfz.at_; have hcq := hfz.use; (have c1 := (HGX.out _ hwq).cell 1 _ rfl); go_simp; (try (rw [dUpon_enter])); rw [dUpon_value]; exact mPost ⟨_, _, rfl⟩ (NdV.one (hfq 102 rfl)) (Kp.refl _ _))
                     obtain ⟨a119, c119, rfl⟩ := h119
                     simp only [Act.put, List.setIfInBounds_toArray, List.set_cons_succ, List.set_cons_zero])
                  | (refine Av.X.wpD_made (A := fun _ => True) (V := fun _ _ => True) 120 ?_ ?_ ?_ ?_ (fun wq hwq hfz => ?_) (fun v120 h120 => ?_)
                     focus rfl
                     focus rfl
                     focus (exact ⟨undef, trivial⟩)
                     focus rfl
                     focus (have hfq := hfz.at_; have hcq := hfz.use; (have c1 := (HGX.out _ hwq).cell 1 _ rfl); go_simp; (try (rw [dUpon_enter])); rw [dUpon_value]; exact mPost trivial trivial (Kp.refl _ _))
                     clear h120
                     simp only [Act.put, List.setIfInBounds_toArray, List.set_cons_succ, List.set_cons_zero])
                  | (refine Av.X.wpD_put rfl ?_ (fun wq hwq hfz => ?_) ?_
                     focus rfl
                     focus (have hfq := hfz.at_; have hcq := hfz.use; (have c1 := (HGX.out _ hwq).cell 1 _ rfl); have hrow : RowB wq q entT 11 c (E.flatMap entC) := (hcq 901 rfl).elim (fun _ h => h); have h119 : NdU M _ wq := hfq 119 rfl; have e1 := rowE hrow hk HKE.out 1 _ (by decide) rfl; have e2 := rowE hrow hk HKE.out 2 _ (by decide) rfl; have e3 := rowE hrow hk HKE.out 3 _ (by decide) rfl; have e4 := rowE hrow hk HKE.out 4 _ (by decide) rfl; have e5 := rowE hrow hk HKE.out 5 _ (by decide) rfl; have e6 := rowE hrow hk HKE.out 6 _ (by decide) rfl; have e7 := rowE hrow hk HKE.out 7 _ (by decide) rfl; have e8 := rowE hrow hk HKE.out 8 _ (by decide) rfl; have e9 := rowE hrow hk HKE.out 9 _ (by decide) rfl; have e10 := rowE hrow hk HKE.out 10 _ (by decide) rfl; have f1 := hrow.free (j * 11 + 1); have f2 := hrow.free (j * 11 + 2); have f3 := hrow.free (j * 11 + 3); have f4 := hrow.free (j * 11 + 4); have f5 := hrow.free (j * 11 + 5); have f6 := hrow.free (j * 11 + 6); have f7 := hrow.free (j * 11 + 7); have f8 := hrow.free (j * 11 + 8); have f9 := hrow.free (j * 11 + 9); have f10 := hrow.free (j * 11 + 10); go_simp; have hk' : Kp (fun i => i = q) wq (wq.setCells q (j * 11 + 1) (ndL M (.slice a119 M.names.length c119))) := kp_setCells _ _ _; have hp := put_node hrow hk M (.slice a119 M.names.length c119); rw [HKP.out] at hp; have hno := HNO.out wq ⟨_, hrow⟩; have hV : ∃ nv, RowB (wq.setCells q (j * 11 + 1) (ndL M (.slice a119 M.names.length c119))) q entT 11 c ((E.set j ⟨s, M, nv⟩).flatMap entC) ∧ NmO (wq.setCells q (j * 11 + 1) (ndL M (.slice a119 M.names.length c119))) nv M.names := ⟨_, hp, (NdU.kp h119 hk' hno).own⟩; rw [dUpon_skip]; refine ⟨hk'.mono (fun i _ e => .inr e), hV, ?_⟩; repeat (first | exact PresL.nil | (with_reducible refine PresL.val ?_) | (refine PresL.out rfl ?_) | (refine PresL.keep (fun u hu => trivial) ?_) | (refine PresL.keep (fun u hu => NdV.kp hu hk' hno) ?_) | (refine PresL.keep (fun u hu => NdU.kp hu hk' hno) ?_) | (refine PresL.keep (fun u hu => hV) ?_))))
                  | fail)
                refine Av.X.wpD_nil ?_
                intro w6 hx6 hend hput
                refine wpList_nil ?_
                have hq6 : ∃ nv, RowB w6 q entT 11 c ((E.set j ⟨s, M, nv⟩).flatMap entC) ∧ NmO w6 nv M.names := hput (by kernel_rfl)
                clear hend hput
                obtain ⟨nv6, hr6, hn6⟩ := hq6
                have HS5 : Hid (w.heap.size + 1 < w5.heap.size) := (HB.out.kp HX5.out (fun f => f)).lt
                have HNW : Hid (∀ i, w.heap.size ≤ i → i < w5.heap.size → ¬ (w5.heap.size ≤ i ∨ i = q)) := fun i h1 h2 e => by
                  have := HQL.out
                  omega
                have HR6 := Lib.hid (HH5.out.node2 hx6 hr6 hn6)
                have HK6 : Hid (Kp (fun i => i = q) w w6) := ((HXB.out.trans HX5.out).mono (fun i _ f => f.elim)).trans (hx6.mono (fun i hi e => by
                  rcases e with e | e
                  · omega
                  · exact e))
                have hab6 := (HAB.out.kp HX5.out (fun f => f)).kp hx6 (HNW.out _ (Nat.le_refl _) (by have := HS5.out; omega))
                have HB6 := Lib.hid ((HB.out.kp HX5.out (fun f => f)).kp hx6 (HNW.out _ (Nat.le_succ _) HS5.out))
                clear hr6 hn6 hx6 i0 i1 i2 i3 i4
                have y0 := hab6.cell 0 _ rfl
                have y1 := hab6.cell 1 _ rfl
                have y2 := hab6.cell 2 _ rfl
                have y3 := hab6.cell 3 _ rfl
                have y4 := hab6.cell 4 _ rfl
                clear hab6
                have HKV : Hid (Kp (fun i => (Value.slice (some ⟨q, 0, none⟩) E.length c).ownBlock = some i) w w6) := HK6.out.mono (fun i _ e => by rw [e]; rfl)
                have HLS : Hid ((E.set j ⟨s, M, nv6⟩).length ≤ 100000) := by show _ ≤ _; rw [List.length_set]; exact hE
                have HET : Hid (tellL ndAdd (entL E) p = entL (E.set j ⟨s, M, nv6⟩)) := by
                  show _ = _
                  rw [entL_set]
                  unfold tellL
                  rw [HPQ.out]
                  simp only [HUP.out.2.1, HUP.out.2.2, HJ.out, HMX.out.1, HMX.out.2]
                go_wp2_with (fail)
                refine (new10_ex _ _ _ _).mono ?_
                rintro e w7 ⟨n7, hn7, rfl, hx7⟩
                have HN7 := Lib.hid hn7
                have HX7 := Lib.hid hx7
                clear hn7 hx7 y0 y1 y2 y3 y4
                unfold ndA
                go_upto_region 24 with (fail)
                obtain ⟨wN, hWN⟩ : ∃ wN, w7.alloc (.cells #[.int .i64 n7.made, .int .i64 n7.chg, .int .i64 n7.ver, .int .i64 n7.kids, .int .i64 n7.own, .int .i64 n7.len, .int .i64 n7.cnt, .string n7.data, .int .i64 n7.next, .slice none 0 0] rnT) = wN := ⟨_, rfl⟩
                rw [hWN]
                have hxN : Ext w7 wN := by rw [← hWN]; exact (Kp.refl _ _).alloc _
                have hN : Blk wN w7.heap.size (ndA n7 (.slice none 0 0)) rnT := by rw [← hWN]; exact heap_alloc_new w7 _
                have HN := Lib.hid hN
                have HXN := Lib.hid (HX7.out.trans hxN)
                have HRN := Lib.hid (HR6.out.ext (HX7.out.trans hxN))
                have HBN := Lib.hid (HB6.out.kp (HX7.out.trans hxN) (fun f => f))
                have HNN : Hid (n7.names = []) := by show _ = _; rw [HN7.out]; rfl
                have HLAY := Lib.hid (lay_ref base g room (Value.slice (some ⟨q, 0, none⟩) E.length c) (E.set j ⟨s, M, nv6⟩) p n7 (.slice none 0 0) wN HRN.out (by rw [HNN.out]; exact own_nil _) HLS.out)
                unfold entC at HLAY
                have hn := HN.out
                unfold ndA at hn
                have l0 := hn.cell 0 _ rfl
                have l1 := hn.cell 1 _ rfl
                have l2 := hn.cell 2 _ rfl
                have l3 := hn.cell 3 _ rfl
                have l4 := hn.cell 4 _ rfl
                have l5 := hn.cell 5 _ rfl
                have l6 := hn.cell 6 _ rfl
                have l7 := hn.cell 7 _ rfl
                have l8 := hn.cell 8 _ rfl
                have l9 := hn.cell 9 _ rfl
                clear hn hWN hxN hN
                go_wp2_with (fail)
                refine HLAY.out.mono ?_
                rintro e w8 ⟨u8, v8, rfl, hr8, hk8, hge8⟩
                have hgN : w7.heap.size ≠ g := fun e => by
                  have h1 := HGW.out
                  have h2 := HKV.out.size
                  have h3 := HX7.out.size
                  omega
                have hn8 := HN.out.kp hk8 hgN
                have HB8 := Lib.hid (HBN.out.kp hk8 (fun e => by have := HGW.out; omega))
                have HR8 := Lib.hid hr8
                have HK8 := Lib.hid hk8
                have HGE8 := Lib.hid hge8
                have hb8 := HB8.out
                unfold ndA at hn8
                unfold rsZ at hb8
                clear l0 l1 l2 l3 l4 l5 l6 l7 l8 l9 HLAY hr8 hk8 hge8
                have y0 := hn8.cell 0 _ rfl
                have y1 := hn8.cell 1 _ rfl
                have y2 := hn8.cell 2 _ rfl
                have y3 := hn8.cell 3 _ rfl
                have y4 := hn8.cell 4 _ rfl
                have y5 := hn8.cell 5 _ rfl
                have y6 := hn8.cell 6 _ rfl
                have y7 := hn8.cell 7 _ rfl
                have y8 := hn8.cell 8 _ rfl
                have y9 := hn8.cell 9 _ rfl
                have c0 := hb8.cell 0 _ rfl
                have c1 := hb8.cell 1 _ rfl
                have c2 := hb8.cell 2 _ rfl
                have c3 := hb8.cell 3 _ rfl
                have c4 := hb8.cell 4 _ rfl
                have c5 := hb8.cell 5 _ rfl
                have c6 := hb8.cell 6 _ rfl
                have c7 := hb8.cell 7 _ rfl
                have c8 := hb8.cell 8 _ rfl
                have c9 := hb8.cell 9 _ rfl
                have c10 := hb8.cell 10 _ rfl
                have fc0 := hb8.free 0
                have fc1 := hb8.free 1
                have fc2 := hb8.free 2
                have fc3 := hb8.free 3
                have fc4 := hb8.free 4
                have fc5 := hb8.free 5
                have fc6 := hb8.free 6
                have fc7 := hb8.free 7
                have fc8 := hb8.free 8
                have fc9 := hb8.free 9
                have fc10 := hb8.free 10
                clear hn8 hb8
                go_wp2_with (fail)
                go_light
                refine bodyPost_ret (v := resA 0 p ⟨#[]⟩ (.slice none 0 0) n7) (by simp [results, Tryz.results50, go_sem, resA, c0, c1, c2, c3, c4, c5, c6, c7, c8, c9, c10]) rfl ?_
                have k11 := kp_set11 w8 (w.heap.size + 1) (.int .i64 0) (.string p) (.string ⟨#[]⟩) (.slice none 0 0) (.int .i64 n7.made) (.int .i64 n7.chg) (.int .i64 n7.ver) (.int .i64 n7.kids) (.int .i64 n7.own) (.int .i64 n7.len) (.int .i64 n7.cnt)
                have eN : ndNew z o d = n7 := by rw [HN7.out, ← HOF.out]; rfl
                have eT := HET.out
                rw [HE.out, eN, eT]
                have hsz : w.heap.size ≤ wN.heap.size := Nat.le_trans HKV.out.size HXN.out.size
                refine ⟨v8, _, .slice none 0 0, rfl, own_nil _, HR8.out.aside HB8.out k11, ?_, ?_, fun i hi => .inr (Nat.le_trans hsz (HGE8.out i hi))⟩
                · unfold putR entL
                  simp
                · have h1 : Kp (fun i => i = g ∨ (Value.slice (some ⟨q, 0, none⟩) E.length c).ownBlock = some i) w w8 := ((HKV.out.mono (fun i _ e => .inr e)).trans (HXN.out.mono (fun i _ f => f.elim))).trans (HK8.out.mono (fun i _ e => .inl e))
                  exact h1.next k11 (fun i hi e => by omega)
      · have HE : Hid (X = (entL E, failR 8)) := by show _ = _; rw [HC.out]; unfold createL; simp only [HPL.out, if_pos hown]; rfl
        clear HPL HC hf0 hf3 hnum HNUM
        go_enter Tryz.func50, Tryz.ntmps50
        go_upto_region 1 with (fail)
        rw [HWA.out]
        rw [HWB.out]
        have hab := HAB.out
        have a0 := hab.cell 0 _ rfl
        have a1 := hab.cell 1 _ rfl
        have a2 := hab.cell 2 _ rfl
        have a3 := hab.cell 3 _ rfl
        have a4 := hab.cell 4 _ rfl
        clear hab
        go_wp2_with (fail)
        refine HPAR.out.mono ?_
        rintro e w1 ⟨rfl, hx1⟩
        simp only [Option.isSome_some]
        have HX1 := Lib.hid hx1
        clear hx1
        go_wp2_with (fail)
        refine (HAT1.out _ HX1.out).mono ?_
        rintro e w2 ⟨rfl, hx2⟩
        have HX2 := Lib.hid (HX1.out.trans hx2)
        clear hx2
        have c1 := (HRB.out.ext HX2.out).blk.cell 1 _ rfl
        have e5 := HC2.out _ HX2.out 5 _ (by decide) rfl
        have e9 := HC2.out _ HX2.out 9 _ (by decide) rfl
        have hab2 := HAB.out.kp HX2.out (fun f => f)
        have b0 := hab2.cell 0 _ rfl
        have b1 := hab2.cell 1 _ rfl
        have b2 := hab2.cell 2 _ rfl
        have b3 := hab2.cell 3 _ rfl
        have b4 := hab2.cell 4 _ rfl
        clear hab2
        go_wp2_with (fail)
        refine (fail10_any 8 _).mono ?_
        rintro e1 w8 ⟨rfl, hx8⟩
        have hB8 := HB.out.kp (HX2.out.trans hx8) (fun f => f)
        have HR8 := Lib.hid (HRB.out.ext (HX2.out.trans hx8))
        have HB8 := Lib.hid hB8
        have HX8 := Lib.hid (HXB.out.ext (HX2.out.trans hx8))
        unfold rsZ at hB8
        have c0 := hB8.cell 0 _ rfl
        have c1 := hB8.cell 1 _ rfl
        have c2 := hB8.cell 2 _ rfl
        have c3 := hB8.cell 3 _ rfl
        have c4 := hB8.cell 4 _ rfl
        have c5 := hB8.cell 5 _ rfl
        have c6 := hB8.cell 6 _ rfl
        have c7 := hB8.cell 7 _ rfl
        have c8 := hB8.cell 8 _ rfl
        have c9 := hB8.cell 9 _ rfl
        have c10 := hB8.cell 10 _ rfl
        have fc0 := hB8.free 0
        have fc1 := hB8.free 1
        have fc2 := hB8.free 2
        have fc3 := hB8.free 3
        have fc4 := hB8.free 4
        have fc5 := hB8.free 5
        have fc6 := hB8.free 6
        have fc7 := hB8.free 7
        have fc8 := hB8.free 8
        have fc9 := hB8.free 9
        have fc10 := hB8.free 10
        clear hB8 hx8
        unfold resA
        go_wp2_with (fail)
        go_light
        refine bodyPost_ret (v := resA 8 ⟨#[]⟩ ⟨#[]⟩ (.slice none 0 0) ndZ) (by simp [results, Tryz.results50, go_sem, resA, ndZ, c0, c1, c2, c3, c4, c5, c6, c7, c8, c9, c10]) rfl ?_
        have k11 := kp_set11 w8 (w.heap.size + 1) (.int .i64 8) (.string ⟨#[]⟩) (.string ⟨#[]⟩) (.slice none 0 0) (.int .i64 0) (.int .i64 0) (.int .i64 0) (.int .i64 0) (.int .i64 0) (.int .i64 0) (.int .i64 0)
        exact RDPost.fail HE.out (HR8.out.aside HB8.out k11) (HX8.out.next k11 (fun i hi e => by omega))
end Go.Proofs.YtdagikbdpeblhaaGreatDoor
