/- Walks of package aviarylaw19: PlanWhole. -/
import Derived.Test.YtmgnndhhpnedkaaDoorAvWhole
namespace Go.Proofs.YtmgnndhhpnedkaaDoor
set_option maxRecDepth 100000
open Go.RowKit Av

def WhRel (w4 : World) (xs : List OpV) (pl : List (List Nat)) (lv n i : Value) (W : World) : Prop :=
  ∃ (k : Nat) (vs : List Value), k ≤ pl.length ∧ i = .int .i64 k ∧ n = .int .i64 (((pl.take k).map List.length).sum : Nat) ∧ RowsW w4.heap.size W lv vs (rowsP rsP xs (pl.take k)) ∧ Ext w4 W
def WhIn (w5 : World) (os : List OpV) (mvv i : Value) (W : World) : Prop :=
  ∃ j : Nat, j ≤ os.length ∧ i = .int .i64 j ∧ W.ownsRow w5.heap.size reT 11 mvv j (((os.take j).map rsP).flatMap rsC) ∧ Ext w5 W
def WhEnd (w9 : World) (xs : List OpV) (i : Value) (W : World) : Prop := ∃ j : Nat, j ≤ xs.length ∧ i = .int .i64 j ∧ Ext w9 W
set_option maxHeartbeats 6400000 in
theorem planWhole_any (sh s n : Int) (mvv u : Value) (ms : List Int) (xs : List OpV) (w : World) (hG : GT w) (hm : IntsR w mvv ms) (ho : OpsAt w u xs) :
    Calls Tryd.prog 5 #[.int .i64 sh, mvv, .agg #[.int .i64 s, .int .i64 n, u]] w fun e w' => e = .returned (.bool true) ∧ Ext w w' := by
  obtain ⟨ua, uc, rfl⟩ := ops_slice ho
  obtain ⟨wA, hWA⟩ : ∃ wA, w.alloc (.cells #[.int .i64 s, .int .i64 n, .slice ua xs.length uc] 25) = wA := ⟨_, rfl⟩
  have hxA : Ext w wA := by rw [← hWA]; exact (Kp.refl _ _).alloc _
  have hbA : Blk wA w.heap.size #[.int .i64 s, .int .i64 n, .slice ua xs.length uc] 25 := by rw [← hWA]; exact heap_alloc_new w _
  have HRQ := Lib.hid (fun W (hx : Ext wA W) => blk3 (Blk.kp hbA hx (fun f => f)))
  have HGT := Lib.hid (fun W (hx : Ext wA W) => hG.ext (hxA.ext hx))
  have HOP := Lib.hid (fun W (hx : Ext wA W) => (ho.ext hxA).ext hx)
  have HMS := Lib.hid (fun W (hx : Ext wA W) => (hm.ext hxA).ext hx)
  have HWA := Lib.hid hWA
  have HXA := Lib.hid hxA
  have HAW := Lib.hid (awake_any wA (hG.ext hxA))
  clear hG hm ho hWA hxA hbA
  go_enter Tryd.func5, Tryd.ntmps5
  go_upto_region 1 with (fail)
  rw [HWA.out]
  go_wp2_with (fail)
  refine HAW.out.mono ?_
  rintro e w1 ⟨rfl, hx1⟩
  obtain ⟨r0, r1, r2⟩ := HRQ.out w1 hx1
  have HX1 := Lib.hid hx1
  clear hx1 HAW
  by_cases h1 : sh < 1
  · go_wp2_with (fail)
    go_ret
    exact ⟨ret_bool rfl, HXA.out.ext HX1.out⟩
  by_cases h4 : 4 < sh
  · go_wp2_with (fail)
    go_ret
    exact ⟨ret_bool rfl, HXA.out.ext HX1.out⟩
  obtain ⟨shn, rfl⟩ := Int.eq_ofNat_of_zero_le (show 0 ≤ sh by omega)
  have HL := Lib.hid (long_any _ xs w1 (HOP.out w1 HX1.out))
  go_wp2_with (fail)
  refine HL.out.mono ?_
  rintro e w2 ⟨⟨lb, rfl, hlb⟩, rfl⟩
  cases lb with
  | true =>
    clear hlb
    go_wp2_with (fail)
    go_ret
    exact ⟨ret_bool rfl, HXA.out.ext HX1.out⟩
  | false =>
  have HSH := Lib.hid (hlb rfl)
  clear hlb HL
  have HCT := Lib.hid (table_any shn _ ms w1 (by omega) (by omega) (HGT.out w1 HX1.out).gl (HMS.out w1 HX1.out))
  go_wp2_with (fail)
  refine HCT.out.mono ?_
  rintro e w2 ⟨b, m, rb, lv, rfl, ht, hr, hx2, _, _, _, _, _, _⟩
  have HT := Lib.hid ht
  have HX2 := Lib.hid (HX1.out.ext hx2)
  clear ht hr hx2 HCT HX1 r0 r1 r2 h1 h4
  obtain ⟨r0, r1, r2⟩ := HRQ.out w2 HX2.out
  by_cases hmay : mayR s n xs = 0
  · have HCM := Lib.hid (make_any b m shn _ s n _ xs w2 HT.out (HGT.out w2 HX2.out) (HOP.out w2 HX2.out) (ShortO.sz HSH.out) hmay)
    have hl20 := mayR_len hmay
    have hpo := planOk hmay HT.out.ok
    have HTB := Lib.hid HT.out
    obtain ⟨mv, hmv⟩ : ∃ mv, mvTo shn ms (min ms.length 5) = mv := ⟨_, rfl⟩
    rw [hmv] at HCM hpo HTB
    clear hmay hmv HT
    go_wp2_with (fail)
    refine HCM.out.mono ?_
    rintro e w3 ⟨⟨ov, sv, plv, rfl, hp⟩, hx3⟩
    obtain ⟨ss, hss⟩ : ∃ ss, shardsOf (fT shn mv xs) xs.length shn = ss := ⟨_, rfl⟩
    obtain ⟨pl, hpl⟩ : ∃ pl, placesOf (fT shn mv xs) xs.length shn = pl := ⟨_, rfl⟩
    rw [hss, hpl] at hp hpo
    have HPO := Lib.hid hpo
    have hlen := hpo.len
    clear HCM hss hpl hpo
    obtain ⟨⟨a1, c1, rfl⟩, ⟨a2, c2, rfl⟩, a3, c3, rfl⟩ := hp.open
    rw [hlen]
    obtain ⟨w4, hW4⟩ : ∃ w4, w3.alloc (.cells #[.int .i64 s, .int .i64 n, .slice a1 xs.length c1, .slice a2 pl.length c2, .slice a3 pl.length c3] plT) = w4 := ⟨_, rfl⟩
    have hx4 : Ext w3 w4 := by rw [← hW4]; exact (Kp.refl _ _).alloc _
    have hb4 : Blk w4 w3.heap.size #[.int .i64 s, .int .i64 n, .slice a1 xs.length c1, .slice a2 pl.length c2, .slice a3 pl.length c3] plT := by rw [← hW4]; exact heap_alloc_new w3 _
    rw [hlen] at hp
    have HB4 := Lib.hid hb4
    have HP4 := Lib.hid (hp.ext hx4)
    have HX4 := Lib.hid ((HX2.out.ext hx3).ext hx4)
    have HTB4 := Lib.hid (HTB.out.ext (hx3.ext hx4))
    have HW4 := Lib.hid hW4
    clear hp hx3 hx4 hb4 hW4 r0 r1 r2 HTB hlen
    go_upto_region 6 with (fail)
    rw [HW4.out]
    go_wp2_with (fail)
    go_loopw [11, 12, 13] (fun lv n i W => WhRel w4 xs pl lv n i W) (fun _ _ i _ => pl.length - (intOf i).toNat)
    case atStart => exact ⟨0, [], Nat.zero_le _, rfl, rfl, RowsW.nil _ _, Kp.refl _ _⟩
    case round =>
      obtain ⟨k, vs, hk, rfl, rfl, hrw, hxr⟩ := hrel
      obtain ⟨va, vc, rfl⟩ := owns_slice hrw.own
      have hk4 : k ≤ 4 := by have := HPO.out.few; omega
      have HRW := Lib.hid hrw
      have HXR := Lib.hid hxr
      have hbr := HB4.out.kp hxr (fun f => f)
      have g3 := hbr.cell 3 _ rfl
      have HBR := Lib.hid hbr
      have HPR := Lib.hid (HP4.out.ext hxr)
      clear hrw hxr hbr
      by_cases hlt : k < pl.length
      · have hlts : k < ss.length := by have := HPO.out.len; omega
        have k1 : (k : Int) < pl.length := by omega
        have hrow := HPO.out.row hlts hlt
        have hsel := sel_len (HPO.out.inr _ (List.getElem_mem hlt))
        have hpl20 := HPO.out.short _ (List.getElem_mem hlt)
        have HOPS := Lib.hid (fun W (hx : Ext w4 W) => planOps_any s n (ss[k] : Int) _ _ _ xs ss pl W (HP4.out.ext hx) (by rw [hrow]; omega))
        rw [hrow] at HOPS
        have HAT := Lib.hid (fun j (hj : j < (opsSel xs pl[k]).length) => show ofT shn mv (opsSel xs pl[k])[j].path = (ss[k] : Int) by
          obtain ⟨h1, h2, h3⟩ := sel_at (HPO.out.inr _ (List.getElem_mem hlt)) hj
          have := (HPO.out.mem k hlts hlt _ (List.getElem_mem h1)).2
          rw [fT_at h2] at this
          rw [h3]; exact this)
        have hsz : OpsSz (opsSel xs pl[k]) := fun o ho => by
          obtain ⟨q, _, hq⟩ := List.mem_filterMap.1 ho
          exact (ShortO.sz HSH.out) o (List.mem_of_getElem? hq)
        have HSZ := Lib.hid hsz
        have HSTEP : Hid (rowsP rsP xs (pl.take (k + 1)) = rowsP rsP xs (pl.take k) ++ [(opsSel xs pl[k]).map rsP]) := by
          show _ = _
          unfold rowsP
          rw [List.take_succ_eq_append_getElem hlt, List.map_append]
          rfl
        have HSUM : Hid (((pl.take (k + 1)).map List.length).sum = ((pl.take k).map List.length).sum + (opsSel xs pl[k]).length) := by
          show _ = _
          rw [List.take_succ_eq_append_getElem hlt, List.map_append, List.sum_append, hsel]
          simp
        have hsum16 : Hid (((pl.take k).map List.length).sum ≤ xs.length) := by
          show _ ≤ _
          have h1 := HPO.out.sum
          have h2 : ((pl.take k).map List.length).sum + ((pl.drop k).map List.length).sum = (pl.map List.length).sum := by
            rw [← List.sum_append, ← List.map_append, List.take_append_drop]
          omega
        have hsr := HPR.out.shs.open
        obtain ⟨sa, sc, es, _, _, hso⟩ := hsr
        simp only [Value.slice.injEq] at es
        obtain ⟨rfl, es2, rfl⟩ := es
        obtain ⟨sb, soff, rfl, _, hsc⟩ := hso (by omega)
        have HSC := Lib.hid (hsc k hlts)
        have HNL : Hid ((opsSel xs pl[k]).length ≤ 20) := by show _ ≤ _; rw [hsel]; omega
        have P1 : Hid ((0 : Int) ≤ k ∧ (k : Int) < pl.length) := ⟨by omega, by omega⟩
        generalize (ss[k] : Int) = sk at HOPS HAT HSC
        generalize opsSel xs pl[k] = os at HOPS HAT HSTEP HSUM HNL HSZ
        clear hrow hsel hpl20 hsz hso hsc es2
        generalize ((pl.take k).map List.length).sum = tot at hsum16 HSUM ⊢
        go_upto_region 14 with (fail)
        refine' wp_region_dag0 ((54, .val _) :: (55, .val _) :: (56, .val _) :: (57, .val _) :: (58, .val _) :: (59, .val _) :: (60, ⟨fun v => ∃ a c, v = .slice a os.length c, fun v w => OpsAt w v os⟩) :: (14, ⟨fun v => ∃ a c, v = .slice a os.length c, fun v w => OpsAt w v os⟩) :: []) (by exact ⟨fun _ _ _ _ _ => trivial, ⟨fun _ _ _ _ _ => trivial, ⟨fun _ _ _ _ _ => trivial, ⟨fun _ _ _ _ _ => trivial, ⟨fun _ _ _ _ _ => trivial, ⟨fun _ _ _ _ _ => trivial, ⟨fun _ _ _ hr hv => hv.ext hr, ⟨fun _ _ _ hr hv => hv.ext hr, trivial⟩⟩⟩⟩⟩⟩⟩⟩) (by kernel_rfl) (by kernel_rfl) (by kernel_rfl) ?_
        rotate_left 6
        repeat (first
          | (refine wpD_skipv ?_ ?_ ?_
             focus rfl
             focus rfl
             simp only [Act.put, List.setIfInBounds_toArray, List.set_cons_succ, List.set_cons_zero])
          | (refine' wpD_val (c := _) ?_ (fun w => Kp.refl _ w) ?_ (fun wq hwq hfq => ?_) ?_
             rotate_left
             focus rfl
             focus rfl
             focus ((have hb := HBR.out.kp hwq (fun f => f); have q0 := hb.cell 0 _ rfl; have q1 := hb.cell 1 _ rfl; have q2 := hb.cell 2 _ rfl; have q3 := hb.cell 3 _ rfl; have q4 := hb.cell 4 _ rfl; have sc := hwq.cell HSC.out (fun f => f); have p1 := P1.out); go_simp; first | done | rfl)
             simp only [Act.put, List.setIfInBounds_toArray, List.set_cons_succ, List.set_cons_zero])
          | (refine' wpD_con (c := _) ?_ ?_ (fun wq hwq hfq => ?_) ?_
             rotate_left
             focus rfl
             focus rfl
             focus ((have hb := HBR.out.kp hwq (fun f => f); have q0 := hb.cell 0 _ rfl; have q1 := hb.cell 1 _ rfl; have q2 := hb.cell 2 _ rfl; have q3 := hb.cell 3 _ rfl; have q4 := hb.cell 4 _ rfl; have sc := hwq.cell HSC.out (fun f => f); have p1 := P1.out); go_simp; (try (rw [dUpon_enter])); fail)
             simp only [Act.put, List.setIfInBounds_toArray, List.set_cons_succ, List.set_cons_zero])
          | (refine wpD_made (A := fun v => ∃ a c, v = .slice a os.length c) (V := fun v w => OpsAt w v os) 60 ?_ ?_ ?_ ?_ (fun wq hwq hfq => ?_) (fun v60 h60 => ?_)
             focus rfl
             focus rfl
             focus (exact ⟨.slice none os.length 0, none, 0, rfl⟩)
             focus rfl
             focus ((have hb := HBR.out.kp hwq (fun f => f); have q0 := hb.cell 0 _ rfl; have q1 := hb.cell 1 _ rfl; have q2 := hb.cell 2 _ rfl; have q3 := hb.cell 3 _ rfl; have q4 := hb.cell 4 _ rfl; have sc := hwq.cell HSC.out (fun f => f); have p1 := P1.out); go_simp; (try (rw [dUpon_enter])); (with_reducible refine (HOPS.out _ (HXR.out.ext hwq)).mono ?_); rintro e w' ⟨v, rfl, hn, hx⟩; exact DEnd.made (ops_slice hn) hn hx)
             obtain ⟨a60, c60, rfl⟩ := h60
             simp only [Act.put, List.setIfInBounds_toArray, List.set_cons_succ, List.set_cons_zero])
          | (refine wpD_made (A := fun v => ∃ a c, v = .slice a os.length c) (V := fun v w => OpsAt w v os) 14 ?_ ?_ ?_ ?_ (fun wq hwq hfq => ?_) (fun v14 h14 => ?_)
             focus rfl
             focus rfl
             focus (exact ⟨.slice none os.length 0, none, 0, rfl⟩)
             focus rfl
             focus ((have hb := HBR.out.kp hwq (fun f => f); have q0 := hb.cell 0 _ rfl; have q1 := hb.cell 1 _ rfl; have q2 := hb.cell 2 _ rfl; have q3 := hb.cell 3 _ rfl; have q4 := hb.cell 4 _ rfl; have sc := hwq.cell HSC.out (fun f => f); have p1 := P1.out); go_simp; (try (rw [dUpon_enter])); rw [dUpon_value]; exact mPost ⟨_, _, rfl⟩ (hfq 60 rfl) (Kp.refl _ _))
             obtain ⟨a14, c14, rfl⟩ := h14
             simp only [Act.put, List.setIfInBounds_toArray, List.set_cons_succ, List.set_cons_zero])
          | fail)
        refine wpD_nil ?_
        intro w5 hx5 hend
        have hos : OpsAt w5 (.slice a14 os.length c14) os := hend 14 (by kernel_rfl)
        clear hend HOPS g3
        have HOS := Lib.hid hos
        have HX5 := Lib.hid hx5
        clear hos hx5
        go_wp2_with (fail)
        obtain ⟨wo, HWo⟩ : ∃ wo : World, wo = wr := ⟨_, rfl⟩
        rw [← HWo] at HX5 HXR HBR HPR HRW HSC
        clear HWo
        go_loopw [15, 16] (fun v i W => WhIn w5 os v i W) (fun _ i _ => os.length - (intOf i).toNat)
        case atStart => exact ⟨0, Nat.zero_le _, rfl, ⟨rfl, .inl ⟨rfl, rfl⟩⟩, Kp.refl _ _⟩
        case round =>
          obtain ⟨j, hj, rfl, hown, hxr⟩ := hrel
          obtain ⟨ma, mc, rfl⟩ := owns_slice hown
          have hj20 : j ≤ 20 := by have := HNL.out; omega
          have HOWN := Lib.hid hown
          have HXJ := Lib.hid hxr
          clear hown hxr
          by_cases hjl : j < os.length
          · have k2 : (j : Int) < os.length := by omega
            obtain ⟨oa, oc, eo, _, _, hoo⟩ := OpsAt.open (HOS.out.ext HXJ.out)
            simp only [Value.slice.injEq, true_and] at eo
            obtain ⟨rfl, rfl⟩ := eo
            obtain ⟨ob, ooff, rfl, _, hoc⟩ := hoo (by omega)
            obtain ⟨_, o1, _, _, _⟩ := hoc j hjl
            have hat := HAT.out j hjl
            have hxp := (HX4.out.ext HXR.out).ext (HX5.out.ext HXJ.out)
            have hpsz : os[j].path.size ≤ maxLen := (HSZ.out _ (List.getElem_mem hjl)).1
            have HOF := Lib.hid (fun W (hx : Ext wr W) => rouOf_any b m shn mv os[j].path W (HTB4.out.ext ((HXR.out.ext (HX5.out.ext HXJ.out)).ext hx)) (HGT.out W (hxp.ext hx)).gl hpsz)
            rw [hat] at HOF
            have HO1 := Lib.hid o1
            have HSCJ := Lib.hid ((HX5.out.ext HXJ.out).cell HSC.out (fun f => f))
            have HBJ := Lib.hid ((HBR.out.kp HX5.out (fun f => f)).kp HXJ.out (fun f => f))
            have P2 : Hid ((0 : Int) ≤ j ∧ (j : Int) < os.length) := ⟨by omega, by omega⟩
            have HNXT : Hid ((((os.take (j + 1)).map rsP).flatMap rsC) = (((os.take j).map rsP).flatMap rsC) ++ [.int .i64 0, .string os[j].path, .string ⟨#[]⟩, .slice none 0 0, .int .i64 0, .int .i64 0, .int .i64 0, .int .i64 0, .int .i64 0, .int .i64 0, .int .i64 0]) := by
              show _ = _
              rw [List.take_succ_eq_append_getElem hjl, List.map_append, List.flatMap_append]
              rfl
            have hone := rs_one [rsP os[j]]
            have HONE : Hid (∀ y ∈ [Value.int .i64 0, .string os[j].path, .string ⟨#[]⟩, .slice none 0 0, .int .i64 0, .int .i64 0, .int .i64 0, .int .i64 0, .int .i64 0, .int .i64 0, .int .i64 0], y.oneCell' = true) := by
              intro y hy
              exact hone y (by simpa [rsP, rsC] using hy)
            generalize os[j].path = pj at HOF HO1 HNXT HONE
            clear hoo hoc hat hxp hpsz o1 hone
            go_upto_region 19 with (fail)
            refine' wp_region_dag0 ((67, .val _) :: (68, .val _) :: (69, .val _) :: (70, .val _) :: (71, .val _) :: (72, .val _) :: (73, .val _) :: (74, .val _) :: (75, .val _) :: (76, .val _) :: (77, .val _) :: (78, .val _) :: (79, .val _) :: []) (by exact ⟨fun _ _ _ _ _ => trivial, ⟨fun _ _ _ _ _ => trivial, ⟨fun _ _ _ _ _ => trivial, ⟨fun _ _ _ _ _ => trivial, ⟨fun _ _ _ _ _ => trivial, ⟨fun _ _ _ _ _ => trivial, ⟨fun _ _ _ _ _ => trivial, ⟨fun _ _ _ _ _ => trivial, ⟨fun _ _ _ _ _ => trivial, ⟨fun _ _ _ _ _ => trivial, ⟨fun _ _ _ _ _ => trivial, ⟨fun _ _ _ _ _ => trivial, ⟨fun _ _ _ _ _ => trivial, trivial⟩⟩⟩⟩⟩⟩⟩⟩⟩⟩⟩⟩⟩) (by kernel_rfl) (by kernel_rfl) (by kernel_rfl) ?_
            rotate_left 13
            repeat (first
              | (refine wpD_skipv ?_ ?_ ?_
                 focus rfl
                 focus rfl
                 simp only [Act.put, List.setIfInBounds_toArray, List.set_cons_succ, List.set_cons_zero])
              | (refine' wpD_val (c := _) ?_ (fun w => Kp.refl _ w) ?_ (fun wq hwq hfq => ?_) ?_
                 rotate_left
                 focus rfl
                 focus rfl
                 focus ((have o1 := hwq.cell HO1.out (fun f => f); have sc := hwq.cell HSCJ.out (fun f => f); have hb := HBJ.out.kp hwq (fun f => f); have q3 := hb.cell 3 _ rfl; have p1 := P1.out; have p2 := P2.out); go_simp; first | done | rfl)
                 simp only [Act.put, List.setIfInBounds_toArray, List.set_cons_succ, List.set_cons_zero])
              | (refine' wpD_con (c := _) ?_ ?_ (fun wq hwq hfq => ?_) ?_
                 rotate_left
                 focus rfl
                 focus rfl
                 focus ((have o1 := hwq.cell HO1.out (fun f => f); have sc := hwq.cell HSCJ.out (fun f => f); have hb := HBJ.out.kp hwq (fun f => f); have q3 := hb.cell 3 _ rfl; have p1 := P1.out; have p2 := P2.out); go_simp; (try (rw [dUpon_enter])); ((with_reducible refine (HOF.out _ hwq).mono ?_); rintro e w' ⟨rfl, hx⟩; exact DEnd.con hx))
                 simp only [Act.put, List.setIfInBounds_toArray, List.set_cons_succ, List.set_cons_zero])
              | fail)
            refine wpD_nil ?_
            intro w6 hx6 hend
            clear hend
            have o1 := hx6.cell HO1.out (fun f => f)
            have HX6 := Lib.hid hx6
            have HOW6 := Lib.hid (ownsRow.ext HOWN.out hx6)
            have e2 : (((os.take j).map rsP).flatMap rsC).length = j * 11 := by
              rw [rows_len rsC 11 (fun _ => rfl), List.length_map, List.length_take, Nat.min_eq_left (by omega)]
            have hone := HONE.out
            have hp2 := P2.out
            clear hx6 HOF
            go_wp2_with (at_builtin; refine wpList_appAt rsT reT 11 (by decide) res_facts rfl _ _ rfl w5.heap.size _ _ _ rfl (ownsRow.ext HOW6.out ((Kp.refl _ w6).alloc _)) w6.heap.size 1 [.int .i64 0, .string pj, .string ⟨#[]⟩, .slice none 0 0, .int .i64 0, .int .i64 0, .int .i64 0, .int .i64 0, .int .i64 0, .int .i64 0, .int .i64 0] rfl (heap_alloc_new w6 _) rfl hone ?c1 ?c2 ?_)
            case c1 => omega
            case c2 => have := HXJ.out.size; have := HX6.out.size; rw [World.size_alloc]; omega
            intro v1 w7 g1 g2 g3
            have hx7 : Ext w5 w7 := ((HXJ.out.ext HX6.out).alloc _).next g2 (fun i hi e => by have := (own_in HOWN.out e).1; omega)
            have HX7 := Lib.hid hx7
            have HG1 := Lib.hid g1
            obtain ⟨a6, c6, rfl⟩ := owns_slice g1
            clear g1 g2 g3 hx7 hone e2 o1 hp2
            go_wp2_with (fail)
            go_light
            exact ⟨⟨j + 1, by omega, by go_num, by rw [HNXT.out]; have := HG1.out; rw [List.map_take]; exact this, HX7.out⟩, by simp [intOf]; omega⟩
          · have hje : j = os.length := by omega
            have k2 : ¬ (j : Int) < os.length := by omega
            have hres : ResAt wr (.slice ma j mc) (os.map rsP) := by
              have ho := HOWN.out
              rw [hje, List.take_of_length_le (Nat.le_refl _)] at ho
              rw [hje]
              exact ⟨by rw [List.length_map]; exact Sl.of_owns ho, shp_owns ho⟩
            have hlow : ∀ i, (Value.slice ma j mc).ownBlock = some i → i < wr.heap.size ∧ (Value.slice va vs.length vc).ownBlock ≠ some i := by
              intro i hi
              have h1 := own_in HOWN.out hi
              refine ⟨h1.2, fun e => ?_⟩
              have h2 := (own_in HRW.out.own e).2
              have h3 := HX5.out.size
              omega
            have HRJ := Lib.hid (HRW.out.ext (HX5.out.ext HXJ.out))
            have HRES := Lib.hid hres
            have HLOW := Lib.hid hlow
            have HVL : Hid (vs.length = k) := by
              show _ = _
              have := HRW.out.len
              simp only [rowsP, List.length_map, List.length_take] at this
              omega
            have HSZJ := Lib.hid ((HXR.out.ext (HX5.out.ext HXJ.out)).size)
            have HXX := Lib.hid (HXR.out.ext (HX5.out.ext HXJ.out))
            have hone : ∀ y ∈ [Value.slice ma j mc], y.oneCell' = true := by intro y hy; simp only [List.mem_singleton] at hy; subst hy; rfl
            have hts : tot ≤ 16 := by have := hsum16.out; omega
            clear hres hlow hje hjl
            go_wp2_with (at_builtin; refine wpList_appAt lrT rsT 1 (by decide) lr_facts rfl _ _ rfl w4.heap.size _ _ _ rfl (ownsRow.ext HRJ.out.own ((Kp.refl _ wr).alloc _)) wr.heap.size 1 [.slice ma j mc] rfl (heap_alloc_new wr _) rfl hone ?c1 ?c2 ?_)
            case c1 => have := HVL.out; omega
            case c2 => have := HSZJ.out; omega
            intro v1 w7 g1 g2 g3
            have hst := RowsW.step (HRJ.out.ext ((Kp.refl _ wr).alloc (.cells [Value.slice ma j mc].toArray rsT))) (HRES.out.ext ((Kp.refl _ wr).alloc _)) (fun i hi => ⟨by have := (HLOW.out i hi).1; rw [World.size_alloc]; omega, (HLOW.out i hi).2⟩) g1 g2 (by
              rcases g3 with g3 | g3
              · exact .inl g3
              · exact .inr ⟨_, g3, by simp⟩)
            have hx7 : Ext w4 w7 := (HXX.out.alloc _).next g2 (fun i hi e => by have := (own_in HRW.out.own e).1; omega)
            have HX7 := Lib.hid hx7
            have HST := Lib.hid hst
            obtain ⟨a6, c6, rfl⟩ := owns_slice g1
            clear g1 g2 g3 hx7 hone hst
            go_wp2_with (fail)
            go_light
            exact ⟨⟨k + 1, _, by omega, by go_num, by rw [HSUM.out]; go_num, by rw [HSTEP.out]; exact HST.out, HX7.out⟩, by simp [intOf]; omega⟩
      · have hke : k = pl.length := by omega
        have k1 : ¬ (k : Int) < pl.length := by omega
        have htot : ((pl.take k).map List.length).sum = xs.length := by
          rw [hke, List.take_of_length_le (Nat.le_refl _)]
          exact HPO.out.sum
        rw [htot]
        have HRD := HRW.out.read
        rw [hke, List.take_of_length_le (Nat.le_refl _)] at HRD
        have HCR := Lib.hid (planResults_any s n _ _ _ _ xs ss pl (rowsP rsP xs pl) vs wr HPR.out HPO.out.len (by omega) (by omega) HRD)
        have q0 := HBR.out.cell 0 _ rfl
        have q1 := HBR.out.cell 1 _ rfl
        have q2 := HBR.out.cell 2 _ rfl
        have q4 := HBR.out.cell 4 _ rfl
        clear htot hke HRD hlt
        go_wp2_with (fail)
        refine HCR.out.mono ?_
        rintro e w9 ⟨hpost, hx9⟩
        rcases hpost with ⟨_, v, rfl, hv⟩ | ⟨hno, _⟩
        rotate_left
        · exact absurd (rowsP_fits rsP HPO.out) hno
        rw [rowsP_put rsP HPO.out] at hv
        obtain ⟨za, zc, rfl, _, _, hzo⟩ := hv.open
        have HX9 := Lib.hid (HX4.out.ext (HXR.out.ext hx9))
        have HZO := Lib.hid hzo
        obtain ⟨r0, r1, r2⟩ := HRQ.out w9 HX9.out
        rw [List.length_map]
        have hoo := HOP.out w9 HX9.out
        obtain ⟨oa, oc, eo, _, _, hop⟩ := OpsAt.open hoo
        simp only [Value.slice.injEq, true_and] at eo
        obtain ⟨rfl, rfl⟩ := eo
        have HOO := Lib.hid hop
        clear hx9 hv hzo q0 q1 q2 q4 g3 HCR r0 r1 hoo hop
        go_wp2_with (fail)
        go_loopw [19] (fun i W => WhEnd w9 xs i W) (fun i _ => xs.length - (intOf i).toNat)
        case atStart => exact ⟨0, Nat.zero_le _, rfl, Kp.refl _ _⟩
        case round =>
          obtain ⟨j, hj, rfl, hxj⟩ := hrel
          have HXJ := Lib.hid hxj
          clear hxj
          by_cases hjl : j < xs.length
          · have k2 : (j : Int) < xs.length := by omega
            have hml : j < (xs.map rsP).length := by rw [List.length_map]; exact hjl
            obtain ⟨zb, zoff, rfl, _, hzc⟩ := HZO.out (by omega)
            have z1 := HXJ.out.cell (hzc j hml 1 (.string xs[j].path) (by decide) (by rw [List.getElem_map]; rfl)) (fun f => f)
            obtain ⟨ob, ooff, rfl, _, hoc⟩ := HOO.out (by omega)
            obtain ⟨_, o1', _, _, _⟩ := hoc j hjl
            have o1 := HXJ.out.cell o1' (fun f => f)
            have r2' := HXJ.out.cell r2 (fun f => f)
            have HZ1 := Lib.hid z1
            have HO1 := Lib.hid o1
            have HR2 := Lib.hid r2'
            have P2 : Hid ((0 : Int) ≤ j ∧ (j : Int) < xs.length) := ⟨by omega, by omega⟩
            generalize xs[j].path = pj at HZ1 HO1
            clear hzc hoc z1 o1 r2 o1' r2' HZO HOO
            go_upto_region 30 with (fail)
            refine' wp_region_dag0 ((123, .val _) :: (124, .val _) :: (125, .val _) :: (126, .val _) :: (127, .val _) :: (128, .val _) :: (129, .val _) :: (130, .val _) :: (131, .val _) :: (132, .val _) :: (133, .val _) :: (134, .val _) :: []) (by exact ⟨fun _ _ _ _ _ => trivial, ⟨fun _ _ _ _ _ => trivial, ⟨fun _ _ _ _ _ => trivial, ⟨fun _ _ _ _ _ => trivial, ⟨fun _ _ _ _ _ => trivial, ⟨fun _ _ _ _ _ => trivial, ⟨fun _ _ _ _ _ => trivial, ⟨fun _ _ _ _ _ => trivial, ⟨fun _ _ _ _ _ => trivial, ⟨fun _ _ _ _ _ => trivial, ⟨fun _ _ _ _ _ => trivial, ⟨fun _ _ _ _ _ => trivial, trivial⟩⟩⟩⟩⟩⟩⟩⟩⟩⟩⟩⟩) (by kernel_rfl) (by kernel_rfl) (by kernel_rfl) ?_
            rotate_left 12
            repeat (first
              | (refine wpD_skipv ?_ ?_ ?_
                 focus rfl
                 focus rfl
                 simp only [Act.put, List.setIfInBounds_toArray, List.set_cons_succ, List.set_cons_zero])
              | (refine' wpD_val (c := _) ?_ (fun w => Kp.refl _ w) ?_ (fun wq hwq hfq => ?_) ?_
                 rotate_left
                 focus rfl
                 focus rfl
                 focus ((have o1 := hwq.cell HO1.out (fun f => f); have z1 := hwq.cell HZ1.out (fun f => f); have r2 := hwq.cell HR2.out (fun f => f); have p2 := P2.out); go_simp; first | done | rfl)
                 simp only [Act.put, List.setIfInBounds_toArray, List.set_cons_succ, List.set_cons_zero])
              | (refine' wpD_con (c := _) ?_ ?_ (fun wq hwq hfq => ?_) ?_
                 rotate_left
                 focus rfl
                 focus rfl
                 focus ((have o1 := hwq.cell HO1.out (fun f => f); have z1 := hwq.cell HZ1.out (fun f => f); have r2 := hwq.cell HR2.out (fun f => f); have p2 := P2.out); go_simp; (try (rw [dUpon_enter])); fail)
                 simp only [Act.put, List.setIfInBounds_toArray, List.set_cons_succ, List.set_cons_zero])
              | fail)
            refine wpD_nil ?_
            intro w10 hx10 hend
            clear hend
            have HX10 := Lib.hid (HXJ.out.ext hx10)
            have hj16 : j ≤ 16 := by omega
            clear hx10
            go_wp2_with (fail)
            go_light
            exact ⟨⟨j + 1, by omega, by go_num, HX10.out⟩, by simp [intOf]; omega⟩
          · have k2 : ¬ (j : Int) < xs.length := by omega
            go_wp2_with (fail)
            go_ret
            exact ⟨ret_bool rfl, HXA.out.ext (HX9.out.ext HXJ.out)⟩
  · have HCM := Lib.hid (makeBad_any b s n _ xs w2 (HGT.out w2 HX2.out) (HOP.out w2 HX2.out) (ShortO.sz HSH.out) hmay)
    generalize mayR s n xs = mr at HCM hmay
    go_wp2_with (fail)
    refine HCM.out.mono ?_
    rintro e w3 ⟨rfl, hx3⟩
    have HX3 := Lib.hid (HX2.out.ext hx3)
    clear hx3
    go_wp2_with (fail)
    go_ret
    go_light
    exact ⟨ret_bool rfl, (HXA.out.ext HX3.out).alloc _⟩
end Go.Proofs.YtmgnndhhpnedkaaDoor
