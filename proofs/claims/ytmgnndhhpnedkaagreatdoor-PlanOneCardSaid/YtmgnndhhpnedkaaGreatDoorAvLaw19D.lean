/- Walks of package aviarylaw19: PlanOne. -/
import Derived.Test.YtmgnndhhpnedkaaGreatDoorAvWhole
import Derived.Test.YtmgnndhhpnedkaaGreatDoorAvWTops
namespace Go.Proofs.YtmgnndhhpnedkaaGreatDoor
set_option maxRecDepth 100000
open Go.RowKit Av

theorem mem_one {l : List Bs} (h : l.length ≤ 1) {a b : Bs} (ha : a ∈ l) (hb : b ∈ l) : a = b := by
  match l, h, ha, hb with
  | [x], _, ha, hb =>
    simp only [List.mem_singleton] at ha hb
    rw [ha, hb]
  | x :: y :: r, h, _, _ => simp at h
theorem one_const {sh : Nat} {mv : Moved} {s n : Int} {xs : List OpV} (hm : mayR s n xs = 0) (ht : TabOk sh mv) (h : ¬ (1 < (topsOf (xs.map fun o => topL o.path.data.toList)).length ∧ 1 < sh)) : ∃ c : Nat, c < sh ∧ ∀ i, i < xs.length → fT sh mv xs i = (c : Int) := by
  have hf := fT_in (mv := mv) hm ht
  have hn := (mayR_len hm).1
  obtain ⟨h1, h2⟩ := hf 0 hn
  refine ⟨(fT sh mv xs 0).toNat, by omega, fun i hi => ?_⟩
  obtain ⟨h3, h4⟩ := hf i hi
  by_cases hs : sh = 1
  · omega
  · have hs4 := ht.sh1
    have hl : (topsOf (xs.map fun o => topL o.path.data.toList)).length ≤ 1 := by
      rcases Nat.lt_or_ge 1 (topsOf (xs.map fun o => topL o.path.data.toList)).length with h5 | h5
      · exact absurd ⟨h5, by omega⟩ h
      · exact h5
    have mem : ∀ (j : Nat) (hj : j < xs.length), topL xs[j].path.data.toList ∈ topsOf (xs.map fun o => topL o.path.data.toList) := fun j hj =>
      (topsOf_mem _ _).2 ⟨List.mem_map.2 ⟨xs[j], List.getElem_mem hj, rfl⟩, top_ne (good_kind ((mayR_ok hm).2.2.2.2.1 _ (List.getElem_mem hj))).2.2.1⟩
    have m0 := mem 0 hn
    have mi := mem i hi
    have e : topL xs[i].path.data.toList = topL xs[0].path.data.toList := by
      exact mem_one hl mi m0
    have e2 : fT sh mv xs i = fT sh mv xs 0 := by
      rw [fT_at hi, fT_at hn]
      exact ofT_top e
    omega
theorem sel_range (xs : List OpV) : (opsSel xs (List.range xs.length)).length = xs.length := by
  rw [sel_len (fun k hk => List.mem_range.1 hk), List.length_range]
set_option maxHeartbeats 6400000 in
theorem planOne_any (sh s n : Int) (mvv u : Value) (ms : List Int) (xs : List OpV) (w : World) (hG : GT w) (hm : IntsR w mvv ms) (ho : OpsAt w u xs) :
    Calls Tryz.prog 4 #[.int .i64 sh, mvv, .agg #[.int .i64 s, .int .i64 n, u]] w fun e w' => e = .returned (.bool true) ∧ Ext w w' := by
  obtain ⟨ua, uc, rfl⟩ := ops_slice ho
  obtain ⟨wA, hWA⟩ : ∃ wA, w.alloc (.cells #[.int .i64 s, .int .i64 n, .slice ua xs.length uc] 25) = wA := ⟨_, rfl⟩
  have hxA : Ext w wA := by rw [← hWA]; exact (Kp.refl _ _).alloc _
  have hbA : Blk wA w.heap.size #[.int .i64 s, .int .i64 n, .slice ua xs.length uc] 25 := by rw [← hWA]; exact heap_alloc_new w _
  have HRQ := Lib.hid (fun W (hx : Ext wA W) => blk3 (Blk.kp hbA hx (fun f => f)))
  have HGT := Lib.hid (fun W (hx : Ext wA W) => hG.ext (hxA.ext hx))
  have HOP := Lib.hid (fun W (hx : Ext wA W) => (ho.ext hxA).ext hx)
  have HMS := Lib.hid (fun W (hx : Ext wA W) => (hm.ext hxA).ext hx)
  have HWA := Lib.hid hWA
  have HXA := Lib.hid hxA
  have HAW := Lib.hid (awake_any wA (hG.ext hxA))
  clear hG hm ho hWA hxA hbA
  go_enter Tryz.func4, Tryz.ntmps4
  go_upto_region 1 with (fail)
  rw [HWA.out]
  go_wp2_with (fail)
  refine HAW.out.mono ?_
  rintro e w1 ⟨rfl, hx1⟩
  obtain ⟨r0, r1, r2⟩ := HRQ.out w1 hx1
  have HX1 := Lib.hid hx1
  clear hx1 HAW
  by_cases h1 : sh < 1
  · go_wp2_with (fail)
    go_ret
    exact ⟨ret_bool rfl, HXA.out.ext HX1.out⟩
  by_cases h4 : 4 < sh
  · go_wp2_with (fail)
    go_ret
    exact ⟨ret_bool rfl, HXA.out.ext HX1.out⟩
  obtain ⟨shn, rfl⟩ := Int.eq_ofNat_of_zero_le (show 0 ≤ sh by omega)
  have HL := Lib.hid (long_any _ xs w1 (HOP.out w1 HX1.out))
  go_wp2_with (fail)
  refine HL.out.mono ?_
  rintro e w2 ⟨⟨lb, rfl, hlb⟩, rfl⟩
  cases lb with
  | true =>
    clear hlb
    go_wp2_with (fail)
    go_ret
    exact ⟨ret_bool rfl, HXA.out.ext HX1.out⟩
  | false =>
  have HSH := Lib.hid (hlb rfl)
  clear hlb HL
  have HCT := Lib.hid (table_any shn _ ms w1 (by omega) (by omega) (HGT.out w1 HX1.out).gl (HMS.out w1 HX1.out))
  go_wp2_with (fail)
  refine HCT.out.mono ?_
  rintro e w2 ⟨b, m, rb, lv, rfl, ht, hr, hx2, _, _, _, _, _, _⟩
  have HT := Lib.hid ht
  have HX2 := Lib.hid (HX1.out.ext hx2)
  clear ht hr hx2 HCT HX1 r0 r1 r2 h1 h4
  obtain ⟨r0, r1, r2⟩ := HRQ.out w2 HX2.out
  by_cases hmay : mayR s n xs = 0
  · have HCM := Lib.hid (make_any b m shn _ s n _ xs w2 HT.out (HGT.out w2 HX2.out) (HOP.out w2 HX2.out) (ShortO.sz HSH.out) hmay)
    have hl20 := mayR_len hmay
    have hone := one_const (sh := shn) (mv := mvTo shn ms (min ms.length 5)) hmay HT.out.ok
    have HTB := Lib.hid HT.out
    obtain ⟨mv, hmv⟩ : ∃ mv, mvTo shn ms (min ms.length 5) = mv := ⟨_, rfl⟩
    rw [hmv] at HCM hone HTB
    have HONE := Lib.hid hone
    clear hmay hmv HT hone
    go_wp2_with (fail)
    refine HCM.out.mono ?_
    rintro e w3 ⟨⟨ov, sv, plv, rfl, hp⟩, hx3⟩
    have HAL := Lib.hid hx3
    obtain ⟨ss, hss⟩ : ∃ ss, shardsOf (fT shn mv xs) xs.length shn = ss := ⟨_, rfl⟩
    obtain ⟨pl, hpl⟩ : ∃ pl, placesOf (fT shn mv xs) xs.length shn = pl := ⟨_, rfl⟩
    rw [hss, hpl] at hp
    have HSS := Lib.hid hss
    have HPL := Lib.hid hpl
    obtain ⟨⟨a1, c1, rfl⟩, ⟨a2, c2, rfl⟩, a3, c3, rfl⟩ := hp.open
    obtain ⟨w4, hW4⟩ : ∃ w4, w3.alloc (.cells #[.int .i64 s, .int .i64 n, .slice a1 xs.length c1, .slice a2 ss.length c2, .slice a3 pl.length c3] plT) = w4 := ⟨_, rfl⟩
    have hx4 : Ext w3 w4 := by rw [← hW4]; exact (Kp.refl _ _).alloc _
    have hb4 : Blk w4 w3.heap.size #[.int .i64 s, .int .i64 n, .slice a1 xs.length c1, .slice a2 ss.length c2, .slice a3 pl.length c3] plT := by rw [← hW4]; exact heap_alloc_new w3 _
    have HB4 := Lib.hid hb4
    have HP4 := Lib.hid (hp.ext hx4)
    have HX4 := Lib.hid ((HX2.out.ext hx3).ext hx4)
    have HTB4 := Lib.hid (HTB.out.ext (hx3.ext hx4))
    have HW4 := Lib.hid hW4
    clear hp hx3 hx4 hb4 hW4 r0 r1 r2 HTB HAL hss hpl HCM
    go_upto_region 7 with (fail)
    rw [HW4.out]
    obtain ⟨r0, r1, r2⟩ := HRQ.out w4 HX4.out
    have HCT := Lib.hid (tops_any _ xs w4 (HGT.out w4 HX4.out) (HOP.out w4 HX4.out) (ShortO.sz HSH.out) (by have := HSH.out.1; omega))
    generalize topsOf (xs.map fun o => topL o.path.data.toList) = tps at HCT HONE
    go_wp2_with (fail)
    refine HCT.out.mono ?_
    rintro e w5 ⟨v, rfl, hv, hx5⟩
    obtain ⟨ta, tc, rfl⟩ : ∃ a c, v = .slice a tps.length c := by obtain ⟨a, c, e, _⟩ := Sl.open hv.1; exact ⟨a, c, e⟩
    have HX5 := Lib.hid hx5
    clear hv hx5 HCT r0 r1 r2
    by_cases hbig : 1 < tps.length ∧ 1 < shn
    · have k1 : (1 : Int) < tps.length := by omega
      have k2 : (1 : Int) < shn := by omega
      clear hbig HONE
      go_wp2_with (fail)
      go_ret
      go_light
      exact ⟨ret_bool rfl, HXA.out.ext (HX4.out.ext HX5.out)⟩
    · obtain ⟨c, hc, hall⟩ := HONE.out hbig
      have hss : ss = [c] := by rw [← HSS.out, shards_const hl20.1 hall, if_pos hc]
      have hpl : pl = [List.range xs.length] := by
        rw [← HPL.out]
        unfold placesOf
        rw [shards_const hl20.1 hall, if_pos hc]
        simp [split_const hall]
      subst hss hpl
      have hrow : rowOf [c] [List.range xs.length] (c : Int) = List.range xs.length := by
        unfold rowOf
        have e : idxP (eqN (c : Int)) [c] = (0 : Nat) := idxP_at (xs := [c]) (k := 0) (by simp) (by simp) (by simp [eqN])
        rw [e, plAt_nat]; rfl
      have hof : ofT shn mv (xs[0]'hl20.1).path = (c : Int) := by rw [← fT_at hl20.1]; exact hall 0 hl20.1
      have HPX : Hid (∀ W, Ext w5 W → PlanR W (.slice a1 xs.length c1) (.slice a2 1 c2) (.slice a3 1 c3) xs [c] [List.range xs.length]) := fun W hx => HP4.out.ext (HX5.out.ext hx)
      have HLO : Hid (∀ W, Ext w5 W → Calls Tryz.prog 11 #[planV s n (.slice a1 xs.length c1) (.slice a2 1 c2) (.slice a3 1 c3)] W fun r w' => r = .returned (.bool true) ∧ Ext W w') := fun W hx => planLocal_any s n _ _ _ xs [c] [List.range xs.length] W (HPX.out W hx)
      have HFI : Hid (∀ W, Ext w5 W → Calls Tryz.prog 12 #[planV s n (.slice a1 xs.length c1) (.slice a2 1 c2) (.slice a3 1 c3)] W fun r w' => r = .returned (.int .i64 (c : Int)) ∧ Ext W w') := fun W hx => planFirst_any s n _ _ _ xs [c] [List.range xs.length] W (HPX.out W hx)
      have HOPS := Lib.hid (fun W (hx : Ext w5 W) => planOps_any s n (c : Int) _ _ _ xs [c] [List.range xs.length] W (HPX.out W hx) (by rw [hrow, List.length_range]; omega))
      rw [hrow] at HOPS
      have HOF := Lib.hid (fun W (hx : Ext w5 W) => rouOf_any b m shn mv (xs[0]'hl20.1).path W (HTB4.out.ext (HX5.out.ext hx)) (HGT.out W (HX4.out.ext (HX5.out.ext hx))).gl (ShortO.sz HSH.out _ (List.getElem_mem hl20.1)).1)
      rw [hof] at HOF
      have hsr := sel_range xs
      obtain ⟨oa, oc, eo, _, _, hoo⟩ := OpsAt.open (HOP.out w5 (HX4.out.ext HX5.out))
      simp only [Value.slice.injEq, true_and] at eo
      obtain ⟨rfl, rfl⟩ := eo
      obtain ⟨ob, ooff, rfl, _, hoc⟩ := hoo (by omega)
      obtain ⟨_, o1, _, _, _⟩ := hoc 0 hl20.1
      have HO1 := Lib.hid o1
      have HR2 := Lib.hid (HRQ.out w5 (HX4.out.ext HX5.out)).2.2
      have HBR : Hid (Blk w5 w3.heap.size #[.int .i64 s, .int .i64 n, .slice a1 xs.length c1, .slice a2 1 c2, .slice a3 1 c3] plT) := HB4.out.kp HX5.out (fun f => f)
      have P0 : Hid ((0 : Int) < xs.length ∧ 0 < xs.length ∧ ¬ xs = [] ∧ ¬ xs.length = 0) := ⟨by omega, by omega, fun e => by rw [e] at hl20; simp at hl20, by omega⟩
      have hnb : ¬ ((1 : Int) < tps.length ∧ (1 : Int) < shn) := by omega
      have HNB := Lib.hid hnb
      generalize opsSel xs (List.range xs.length) = sel at HOPS hsr
      have HSR := Lib.hid hsr
      generalize (xs[0]'hl20.1).path = pj at HO1 HOF
      clear o1 hoo hoc hof hrow hall hc hbig hnb HSS HPL hsr HONE
      have hcs : ¬ (1 : Int) < tps.length ∨ ((1 : Int) < tps.length ∧ ¬ (1 : Int) < shn) := by have := HNB.out; omega
      rcases hcs with k1 | ⟨k1, k2⟩
      all_goals
        go_upto_region 9 with (fail)
        refine' wp_region_dag0 ((49, .val _) :: (50, .val _) :: (51, .val _) :: (52, .val _) :: (53, .val _) :: (54, .val _) :: (55, .val _) :: (56, .val _) :: (57, .val _) :: (58, .val _) :: (59, .val _) :: (60, .val _) :: (61, .val _) :: (62, .val _) :: (63, .val _) :: (64, .val _) :: (65, .val _) :: (66, .val _) :: (67, .val _) :: (68, .val _) :: (69, .val _) :: (70, .val _) :: (71, .val _) :: (72, .val _) :: (73, ⟨fun v => ∃ a c, v = .slice a xs.length c, fun _ _ => True⟩) :: (74, .val _) :: (75, .val _) :: (76, .val _) :: (77, .val _) :: (78, .val _) :: (79, .val _) :: (6, .val _) :: []) (by exact ⟨fun _ _ _ _ _ => trivial, ⟨fun _ _ _ _ _ => trivial, ⟨fun _ _ _ _ _ => trivial, ⟨fun _ _ _ _ _ => trivial, ⟨fun _ _ _ _ _ => trivial, ⟨fun _ _ _ _ _ => trivial, ⟨fun _ _ _ _ _ => trivial, ⟨fun _ _ _ _ _ => trivial, ⟨fun _ _ _ _ _ => trivial, ⟨fun _ _ _ _ _ => trivial, ⟨fun _ _ _ _ _ => trivial, ⟨fun _ _ _ _ _ => trivial, ⟨fun _ _ _ _ _ => trivial, ⟨fun _ _ _ _ _ => trivial, ⟨fun _ _ _ _ _ => trivial, ⟨fun _ _ _ _ _ => trivial, ⟨fun _ _ _ _ _ => trivial, ⟨fun _ _ _ _ _ => trivial, ⟨fun _ _ _ _ _ => trivial, ⟨fun _ _ _ _ _ => trivial, ⟨fun _ _ _ _ _ => trivial, ⟨fun _ _ _ _ _ => trivial, ⟨fun _ _ _ _ _ => trivial, ⟨fun _ _ _ _ _ => trivial, ⟨fun _ _ _ _ _ => trivial, ⟨fun _ _ _ _ _ => trivial, ⟨fun _ _ _ _ _ => trivial, ⟨fun _ _ _ _ _ => trivial, ⟨fun _ _ _ _ _ => trivial, ⟨fun _ _ _ _ _ => trivial, ⟨fun _ _ _ _ _ => trivial, ⟨fun _ _ _ _ _ => trivial, trivial⟩⟩⟩⟩⟩⟩⟩⟩⟩⟩⟩⟩⟩⟩⟩⟩⟩⟩⟩⟩⟩⟩⟩⟩⟩⟩⟩⟩⟩⟩⟩⟩) (by kernel_rfl) (by kernel_rfl) (by kernel_rfl) ?_
        rotate_left 31
        repeat (first
          | (refine wpD_skipv ?_ ?_ ?_
             focus rfl
             focus rfl
             simp only [Act.put, List.setIfInBounds_toArray, List.set_cons_succ, List.set_cons_zero])
          | (refine' wpD_val (c := _) ?_ (fun w => Kp.refl _ w) ?_ (fun wq hwq hfq => ?_) ?_
             rotate_left
             focus rfl
             focus rfl
             focus ((have hb := HBR.out.kp hwq (fun f => f); have q0 := hb.cell 0 _ rfl; have q1 := hb.cell 1 _ rfl; have q2 := hb.cell 2 _ rfl; have q3 := hb.cell 3 _ rfl; have q4 := hb.cell 4 _ rfl; have r2 := hwq.cell HR2.out (fun f => f); have o1 := hwq.cell HO1.out (fun f => f); obtain ⟨p0, p1, p2, p3⟩ := P0.out); go_simp; first | done | rfl)
             simp only [Act.put, List.setIfInBounds_toArray, List.set_cons_succ, List.set_cons_zero])
          | (refine' wpD_con (c := _) ?_ ?_ (fun wq hwq hfq => ?_) ?_
             rotate_left
             focus rfl
             focus rfl
             focus ((have hb := HBR.out.kp hwq (fun f => f); have q0 := hb.cell 0 _ rfl; have q1 := hb.cell 1 _ rfl; have q2 := hb.cell 2 _ rfl; have q3 := hb.cell 3 _ rfl; have q4 := hb.cell 4 _ rfl; have r2 := hwq.cell HR2.out (fun f => f); have o1 := hwq.cell HO1.out (fun f => f); obtain ⟨p0, p1, p2, p3⟩ := P0.out); go_simp; (try (rw [dUpon_enter])); (first | ((with_reducible refine (HLO.out _ hwq).mono ?_); rintro e w' ⟨rfl, hx⟩; exact DEnd.con hx) | ((with_reducible refine (HFI.out _ hwq).mono ?_); rintro e w' ⟨rfl, hx⟩; exact DEnd.con hx) | ((with_reducible refine (HOF.out _ hwq).mono ?_); rintro e w' ⟨rfl, hx⟩; exact DEnd.con hx)))
             simp only [Act.put, List.setIfInBounds_toArray, List.set_cons_succ, List.set_cons_zero])
          | (refine wpD_made (A := fun v => ∃ a c, v = .slice a xs.length c) (V := fun _ _ => True) 73 ?_ ?_ ?_ ?_ (fun wq hwq hfq => ?_) (fun v73 h73 => ?_)
             focus rfl
             focus rfl
             focus (exact ⟨.slice none xs.length 0, none, 0, rfl⟩)
             focus rfl
             focus ((have hb := HBR.out.kp hwq (fun f => f); have q0 := hb.cell 0 _ rfl; have q1 := hb.cell 1 _ rfl; have q2 := hb.cell 2 _ rfl; have q3 := hb.cell 3 _ rfl; have q4 := hb.cell 4 _ rfl; have r2 := hwq.cell HR2.out (fun f => f); have o1 := hwq.cell HO1.out (fun f => f); obtain ⟨p0, p1, p2, p3⟩ := P0.out); go_simp; (try (rw [dUpon_enter])); (with_reducible refine (HOPS.out _ hwq).mono ?_); rintro e w' ⟨v, rfl, hn, hx⟩; exact DEnd.made (by obtain ⟨a, c, e⟩ := ops_slice hn; rw [HSR.out] at e; exact ⟨a, c, e⟩) trivial hx)
             obtain ⟨a73, c73, rfl⟩ := h73
             simp only [Act.put, List.setIfInBounds_toArray, List.set_cons_succ, List.set_cons_zero])
          | fail)
        refine wpD_nil ?_
        intro w6 hx6 hend
        clear hend
        have HX6 := Lib.hid hx6
        clear hx6
        go_wp2_with (fail)
        go_ret
        go_light
        exact ⟨ret_bool rfl, HXA.out.ext (HX4.out.ext (HX5.out.ext HX6.out))⟩
  · have HCM := Lib.hid (makeBad_any b s n _ xs w2 (HGT.out w2 HX2.out) (HOP.out w2 HX2.out) (ShortO.sz HSH.out) hmay)
    generalize mayR s n xs = mr at HCM hmay
    go_wp2_with (fail)
    refine HCM.out.mono ?_
    rintro e w3 ⟨rfl, hx3⟩
    have HX3 := Lib.hid (HX2.out.ext hx3)
    clear hx3
    go_wp2_with (fail)
    go_ret
    go_light
    exact ⟨ret_bool rfl, (HXA.out.ext HX3.out).alloc _⟩
end Go.Proofs.YtmgnndhhpnedkaaGreatDoor
