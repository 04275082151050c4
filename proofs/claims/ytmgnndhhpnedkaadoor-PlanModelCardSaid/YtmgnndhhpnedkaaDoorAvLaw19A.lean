/- Walks of package aviarylaw19: PlanModel. -/
import Derived.Test.YtmgnndhhpnedkaaDoorAvModel
namespace Go.Proofs.YtmgnndhhpnedkaaDoor
set_option maxRecDepth 100000
open Go.RowKit Av

theorem rem3 (n : Nat) : Int.tmod (n : Int) 3 = ((n % 3 : Nat) : Int) := by rw [Int.tmod_eq_emod_of_nonneg (by omega)]; omega
def MdF (bs : List Bool) (N : Nat) (fst i : Value) : Prop := ∃ k : Nat, k ≤ N ∧ i = .int .i64 k ∧ fst = .int .i64 (firstTo (badB bs) k)
def MdV (wp : World) (bs : List Bool) (pl : List (List Nat)) (v i : Value) (W : World) : Prop :=
  ∃ k : Nat, k ≤ pl.length ∧ i = .int .i64 k ∧ W.ownsRow wp.heap.size voT 2 v k (((pl.take k).map (voteOf (badB bs))).flatMap voC) ∧ Ext wp W
def MdX (W1 : World) (gx : Nat) (bs : List Bool) (l : List Nat) (i : Value) (W : World) : Prop :=
  ∃ k : Nat, k ≤ l.length ∧ i = .int .i64 k ∧ Blk W gx (voC (voteTo (badB bs) l k)).toArray voT ∧ Kp (fun i => i = gx) W1 W
set_option maxHeartbeats 6400000 in
theorem planModel_any (sh s n : Int) (mvv u bv : Value) (ms : List Int) (xs : List OpV) (bs : List Bool) (w : World) (hG : GT w) (hm : IntsR w mvv ms) (ho : OpsAt w u xs) (hb : BoolsR w bv bs) :
    Calls Tryd.prog 3 #[.int .i64 sh, mvv, .agg #[.int .i64 s, .int .i64 n, u], bv] w fun e w' => e = .returned (.bool true) ∧ Ext w w' := by
  obtain ⟨ua, uc, rfl⟩ := ops_slice ho
  obtain ⟨ba, bc, rfl, hbc, hbm, hbo⟩ := hb.open
  obtain ⟨wA, hWA⟩ : ∃ wA, w.alloc (.cells #[.int .i64 s, .int .i64 n, .slice ua xs.length uc] 25) = wA := ⟨_, rfl⟩
  have hxA : Ext w wA := by rw [← hWA]; exact (Kp.refl _ _).alloc _
  have hbA : Blk wA w.heap.size #[.int .i64 s, .int .i64 n, .slice ua xs.length uc] 25 := by rw [← hWA]; exact heap_alloc_new w _
  have HRQ := Lib.hid (fun W (hx : Ext wA W) => blk3 (Blk.kp hbA hx (fun f => f)))
  have HGT := Lib.hid (fun W (hx : Ext wA W) => hG.ext (hxA.ext hx))
  have HOP := Lib.hid (fun W (hx : Ext wA W) => (ho.ext hxA).ext hx)
  have HMS := Lib.hid (fun W (hx : Ext wA W) => (hm.ext hxA).ext hx)
  have HBO := Lib.hid (fun W (hx : Ext wA W) i (hi : i < bs.length) => show ∃ b off, ba = some ⟨b, off, none⟩ ∧ W.cell? ⟨b, off + i, none⟩ = some (.bool bs[i]) by
    obtain ⟨b, off, e, _, hc⟩ := hbo (by omega)
    exact ⟨b, off, e, (hxA.ext hx).cell (hc i hi) (fun f => f)⟩)
  have HWA := Lib.hid hWA
  have HXA := Lib.hid hxA
  have HAW := Lib.hid (awake_any wA (hG.ext hxA))
  unfold maxLen at hbm
  clear hG hm ho hb hbo hWA hxA hbA
  go_enter Tryd.func3, Tryd.ntmps3
  go_upto_region 1 with (fail)
  rw [HWA.out]
  go_wp2_with (fail)
  refine HAW.out.mono ?_
  rintro e w1 ⟨rfl, hx1⟩
  obtain ⟨r0, r1, r2⟩ := HRQ.out w1 hx1
  have HX1 := Lib.hid hx1
  clear hx1 HAW
  by_cases h1 : sh < 1
  · go_wp2_with (fail)
    go_ret
    exact ⟨ret_bool rfl, HXA.out.ext HX1.out⟩
  by_cases h4 : 4 < sh
  · go_wp2_with (fail)
    go_ret
    exact ⟨ret_bool rfl, HXA.out.ext HX1.out⟩
  obtain ⟨shn, rfl⟩ := Int.eq_ofNat_of_zero_le (show 0 ≤ sh by omega)
  have HL := Lib.hid (long_any _ xs w1 (HOP.out w1 HX1.out))
  go_wp2_with (fail)
  refine HL.out.mono ?_
  rintro e w2 ⟨⟨lb, rfl, hlb⟩, rfl⟩
  cases lb with
  | true =>
    clear hlb
    go_wp2_with (fail)
    go_ret
    exact ⟨ret_bool rfl, HXA.out.ext HX1.out⟩
  | false =>
  have HSH := Lib.hid (hlb rfl)
  clear hlb HL
  by_cases hb20 : 20 < bs.length
  · have e1 : (20 : Int) < bs.length := by omega
    go_wp2_with (fail)
    go_ret
    exact ⟨ret_bool rfl, HXA.out.ext HX1.out⟩
  have e1 : ¬ (20 : Int) < bs.length := by omega
  have HCT := Lib.hid (table_any shn _ ms w1 (by omega) (by omega) (HGT.out w1 HX1.out).gl (HMS.out w1 HX1.out))
  go_wp2_with (fail)
  refine HCT.out.mono ?_
  rintro e w2 ⟨b, m, rb, lv, rfl, ht, hr, hx2, _, _, _, _, _, _⟩
  have HT := Lib.hid ht
  have HX2 := Lib.hid (HX1.out.ext hx2)
  clear ht hr hx2 HCT HX1 r0 r1 r2 e1 h1 h4
  obtain ⟨r0, r1, r2⟩ := HRQ.out w2 HX2.out
  by_cases hmay : mayR s n xs = 0
  · have HCM := Lib.hid (make_any b m shn _ s n _ xs w2 HT.out (HGT.out w2 HX2.out) (HOP.out w2 HX2.out) (ShortO.sz HSH.out) hmay)
    have HLAW := Lib.hid (planModel_law (badB bs) (fT shn (mvTo shn ms (min ms.length 5)) xs) xs.length shn (fT_in hmay HT.out.ok))
    have hl20 : xs.length ≤ 20 := HSH.out.1
    have HMAY := Lib.hid hmay
    clear hmay
    go_wp2_with (fail)
    refine HCM.out.mono ?_
    rintro e w3 ⟨⟨ov, sv, plv, rfl, hp⟩, hx3⟩
    obtain ⟨ss, hss⟩ : ∃ ss, shardsOf (fT shn (mvTo shn ms (min ms.length 5)) xs) xs.length shn = ss := ⟨_, rfl⟩
    obtain ⟨pl, hpl⟩ : ∃ pl, placesOf (fT shn (mvTo shn ms (min ms.length 5)) xs) xs.length shn = pl := ⟨_, rfl⟩
    have hlen : ss.length = pl.length := by rw [← hss, ← hpl]; simp [placesOf]
    have hpl4 : pl.length ≤ 4 := by
      have := shardsOf_len (fT shn (mvTo shn ms (min ms.length 5)) xs) xs.length shn
      rw [hss] at this
      omega
    have hnt : ∀ l ∈ pl, l.length ≤ 20 := by
      intro l hl
      rw [← hpl] at hl
      obtain ⟨q, _, rfl⟩ := List.mem_map.1 hl
      have := splitTo_len (fT shn (mvTo shn ms (min ms.length 5)) xs) xs.length q
      omega
    rw [hpl] at HLAW
    rw [hss, hpl] at hp
    have HNT := Lib.hid hnt
    have HLEN := Lib.hid hlen
    clear HCM hss hpl hnt
    obtain ⟨⟨a1, c1, rfl⟩, ⟨a2, c2, rfl⟩, a3, c3, rfl⟩ := hp.open
    rw [hlen]
    obtain ⟨w4, hW4⟩ : ∃ w4, w3.alloc (.cells #[.int .i64 s, .int .i64 n, .slice a1 xs.length c1, .slice a2 pl.length c2, .slice a3 pl.length c3] plT) = w4 := ⟨_, rfl⟩
    have hx4 : Ext w3 w4 := by rw [← hW4]; exact (Kp.refl _ _).alloc _
    have hb4 : Blk w4 w3.heap.size #[.int .i64 s, .int .i64 n, .slice a1 xs.length c1, .slice a2 pl.length c2, .slice a3 pl.length c3] plT := by rw [← hW4]; exact heap_alloc_new w3 _
    have g3 := hb4.cell 3 _ rfl
    rw [hlen] at hp
    have HB4 := Lib.hid hb4
    have HP4 := Lib.hid (hp.ext hx4)
    have HX4 := Lib.hid ((HX2.out.ext hx3).ext hx4)
    have HW4 := Lib.hid hW4
    clear hp hx3 hx4 hb4 hW4 hlen r0 r1 r2 HT
    go_upto_region 6 with (fail)
    rw [HW4.out]
    have r2 := (HRQ.out w4 HX4.out).2.2
    go_wp2_with (fail)
    go_loop [13, 14] (fun a i => MdF bs xs.length a i) (fun _ i => xs.length - (intOf i).toNat)
    case atStart => exact ⟨0, Nat.zero_le _, rfl, rfl⟩
    case round =>
      obtain ⟨k, hk, rfl, rfl⟩ := hrel
      have hk20 : k ≤ 20 := by omega
      obtain ⟨fv, hfv⟩ : ∃ fv, firstTo (badB bs) k = fv := ⟨_, rfl⟩
      rw [hfv]
      by_cases hlt : k < xs.length
      · have k1 : (k : Int) < xs.length := by omega
        have HNO : badB bs k = false → Hid (firstTo (badB bs) (k + 1) = fv) := fun h => by show _ = _; rw [firstTo_not h, hfv]
        have HHAD : ¬ fv < 0 → Hid (firstTo (badB bs) (k + 1) = fv) := fun h => by show _ = _; rw [firstTo_had (by rw [hfv]; exact h), hfv]
        have HYES : badB bs k = true → fv < 0 → Hid (firstTo (badB bs) (k + 1) = (k : Int)) := fun h h2 => firstTo_yes h (by rw [hfv]; exact h2)
        clear hfv
        by_cases hkb : k < bs.length
        · have k2 : (k : Int) < bs.length := by omega
          obtain ⟨bb, off, rfl, hcb⟩ := HBO.out w4 HX4.out k hkb
          rw [← badB_in hkb] at hcb
          cases hbk : badB bs k with
          | false =>
            rw [hbk] at hcb
            have HN := HNO hbk
            clear HNO HHAD HYES hbk
            go_wp2_with (fail)
            go_light
            exact ⟨⟨k + 1, by omega, by go_num, by rw [HN.out]⟩, by simp [intOf]; omega⟩
          | true =>
            rw [hbk] at hcb
            by_cases hf0 : fv < 0
            · have HN := HYES hbk hf0
              clear HNO HHAD HYES hbk
              go_wp2_with (fail)
              go_light
              exact ⟨⟨k + 1, by omega, by go_num, by rw [HN.out]⟩, by simp [intOf]; omega⟩
            · have HN := HHAD hf0
              clear HNO HHAD HYES hbk
              go_wp2_with (fail)
              go_light
              exact ⟨⟨k + 1, by omega, by go_num, by rw [HN.out]⟩, by simp [intOf]; omega⟩
        · have k2 : ¬ (k : Int) < bs.length := by omega
          have HN := HNO (badB_out (by omega))
          clear HNO HHAD HYES
          go_wp2_with (fail)
          go_light
          exact ⟨⟨k + 1, by omega, by go_num, by rw [HN.out]⟩, by simp [intOf]; omega⟩
      · have hke : k = xs.length := by omega
        have k1 : ¬ (k : Int) < xs.length := by omega
        have HFB : Hid (-1 ≤ fv ∧ fv < 20) := by
          show _ ∧ _
          rcases firstTo_spec (badB bs) k with ⟨_, h⟩ | ⟨q, h1, _, _, h⟩
          · rw [hfv] at h; omega
          · rw [hfv] at h; omega
        rw [← hke, hfv] at HLAW
        have HKE := Lib.hid hke
        clear hfv hke hlt
        go_wp2_with (fail)
        clear k1 r2
        go_loopw [15, 16] (fun v i W => MdV w4 bs pl v i W) (fun _ i _ => pl.length - (intOf i).toNat)
        case atStart => exact ⟨0, Nat.zero_le _, rfl, ⟨rfl, .inl ⟨rfl, rfl⟩⟩, Kp.refl _ _⟩
        case round =>
          obtain ⟨k, hk, rfl, hown, hxr⟩ := hrel
          have hk4 : k ≤ 4 := by omega
          obtain ⟨va, vc, rfl⟩ := owns_slice hown
          have HOWN := Lib.hid hown
          have HXR := Lib.hid hxr
          have hbr := HB4.out.kp hxr (fun f => f)
          have g3 := hbr.cell 3 _ rfl
          have HBR := Lib.hid hbr
          have HPR := Lib.hid (HP4.out.ext hxr)
          clear hown hxr hbr
          by_cases hlt : k < pl.length
          · have k1 : (k : Int) < pl.length := by omega
            obtain ⟨pb, poff, a', c', rfl, hrow, hnr⟩ := HPR.out.row k hlt
            have hl20 : pl[k].length ≤ 20 := HNT.out _ (List.getElem_mem hlt)
            obtain ⟨W1, hW1⟩ : ∃ W1, wr.alloc (.cells #[.int .i64 0, .int .i64 (-1)] voT) = W1 := ⟨_, rfl⟩
            have hx1 : Ext wr W1 := by rw [← hW1]; exact (Kp.refl _ _).alloc _
            have hbx : Blk W1 wr.heap.size #[.int .i64 0, .int .i64 (-1)] voT := by rw [← hW1]; exact heap_alloc_new wr _
            have hz1 : W1.heap.size = wr.heap.size + 1 := by rw [← hW1]; simp
            have hzr := HXR.out.size
            have HSTEP : Hid ((((pl.take (k + 1)).map (voteOf (badB bs))).flatMap voC) = (((pl.take k).map (voteOf (badB bs))).flatMap voC) ++ voC (voteTo (badB bs) pl[k] pl[k].length)) := by
              show _ = _
              rw [List.take_succ_eq_append_getElem hlt, List.map_append, List.flatMap_append]
              simp [voteOf]
            have HNR := Lib.hid hnr
            obtain ⟨l, hl⟩ : ∃ l, pl[k] = l := ⟨_, rfl⟩
            rw [hl] at hrow HNR hl20 HSTEP
            have HROW := Lib.hid hrow
            have HBX := Lib.hid hbx
            have HX1 := Lib.hid hx1
            have HZ : Hid (W1.heap.size = wr.heap.size + 1 ∧ w4.heap.size ≤ wr.heap.size) := ⟨hz1, hzr⟩
            have HW1 := Lib.hid hW1
            clear hnr hl hrow hbx hx1 hz1 hzr hW1
            go_upto_region 20 with (fail)
            rw [HW1.out]
            go_wp2_with (fail)
            clear g3
            obtain ⟨wo, HWO⟩ : ∃ wo : World, wo = wr := ⟨_, rfl⟩
            rw [← HWO] at HZ HX1 HBX HNR HROW HPR HBR HXR HOWN HW1 ⊢
            clear HWO
            go_loopw [18] (fun i W => MdX W1 wo.heap.size bs l i W) (fun i _ => l.length - (intOf i).toNat)
            case atStart => exact ⟨0, Nat.zero_le _, rfl, HBX.out, Kp.refl _ _⟩
            case round =>
              obtain ⟨j, hj, rfl, hbj, hkj⟩ := hrel
              have hj20 : j ≤ 20 := by omega
              have hzz := HZ.out
              have hxo : Ext wo wr := HX1.out.next hkj (fun i hi e => by omega)
              have hx4r : Ext w4 wr := HXR.out.ext hxo
              have HX4R := Lib.hid hx4r
              have HKJ := Lib.hid hkj
              have g4 := (HBR.out.kp hxo (fun f => f)).cell 4 _ rfl
              have hrow := hxo.cell HROW.out (fun f => f)
              have HNR2 := Lib.hid (HNR.out.ext hxo)
              obtain ⟨⟨ve, vat⟩, hvt⟩ : ∃ x, voteTo (badB bs) l j = x := ⟨_, rfl⟩
              rw [hvt] at hbj
              have hbj : Blk wr wo.heap.size #[.int .i64 ve, .int .i64 vat] voT := hbj
              have HBJ := Lib.hid hbj
              have k4 : (k : Int) < pl.length := by omega
              clear hkj hxo hx4r hzz
              by_cases hjl : j < l.length
              · have k2 : (j : Int) < l.length := by omega
                obtain ⟨la, lc, e4, hlcc, hlm, hlo⟩ := HNR2.out.open
                simp only [Value.slice.injEq, true_and] at e4
                obtain ⟨rfl, rfl⟩ := e4
                obtain ⟨lb, loff, rfl, _, hlcell⟩ := hlo (by omega)
                have hnc := hlcell j hjl
                have HNO : badB bs l[j] = false → Hid (voteTo (badB bs) l (j + 1) = ⟨ve, vat⟩) := fun h => by show _ = _; rw [voteTo_not hjl h, hvt]
                have HHAD : ¬ ve = 0 → Hid (voteTo (badB bs) l (j + 1) = ⟨ve, vat⟩) := fun h => by show _ = _; rw [voteTo_had (by rw [hvt]; exact h), hvt]
                have HYES : badB bs l[j] = true → ve = 0 → Hid (voteTo (badB bs) l (j + 1) = ⟨4 + (l[j] : Int) % 3, (j : Int)⟩) := fun h h2 => by show _ = _; rw [voteTo_yes hjl h (by rw [hvt]; exact h2)]; rfl
                have hng : (0 : Int) ≤ (l[j] : Int) := by omega
                generalize l[j] = nv at hnc HNO HHAD HYES hng
                clear hlo hlcell hlcc hlm hvt hbj
                have x0 := HBJ.out.cell 0 _ rfl
                have x1 := HBJ.out.cell 1 _ rfl
                have f0 := HBJ.out.free 0
                have f1 := HBJ.out.free 1
                by_cases hkb : nv < bs.length
                · have k3 : (nv : Int) < bs.length := by omega
                  obtain ⟨bb, off, rfl, hcb⟩ := HBO.out wr (HX4.out.ext HX4R.out) nv hkb
                  rw [← badB_in hkb] at hcb
                  cases hbk : badB bs nv with
                  | false =>
                    rw [hbk] at hcb
                    have HN := HNO hbk
                    clear HNO HHAD HYES hbk
                    go_wp2_with (fail)
                    go_light
                    exact ⟨⟨j + 1, by omega, by go_num, by rw [HN.out]; exact HBJ.out, HKJ.out⟩, by simp [intOf]; omega⟩
                  | true =>
                    rw [hbk] at hcb
                    by_cases hv0 : ve = 0
                    · have HN := HYES hbk hv0
                      have e3 := rem3 nv
                      have e4 : (ve == 0) = true := by rw [beq_iff_eq]; exact hv0
                      clear HNO HHAD HYES hbk
                      go_wp2_with (fail)
                      go_light
                      exact ⟨⟨j + 1, by omega, by go_num, by rw [HN.out]; exact (HBJ.out.set 0 _).set 1 _, (HKJ.out.set1 _ 0 _ rfl).set1 _ 1 _ rfl⟩, by simp [intOf]; omega⟩
                    · have HN := HHAD hv0
                      have e4 : (ve == 0) = false := beq_eq_false_iff_ne.2 hv0
                      clear HNO HHAD HYES hbk
                      go_wp2_with (fail)
                      go_light
                      exact ⟨⟨j + 1, by omega, by go_num, by rw [HN.out]; exact HBJ.out, HKJ.out⟩, by simp [intOf]; omega⟩
                · have k3 : ¬ (nv : Int) < bs.length := by omega
                  have HN := HNO (badB_out (by omega))
                  clear HNO HHAD HYES
                  go_wp2_with (fail)
                  go_light
                  exact ⟨⟨j + 1, by omega, by go_num, by rw [HN.out]; exact HBJ.out, HKJ.out⟩, by simp [intOf]; omega⟩
              · have hje : j = l.length := by omega
                have k2 : ¬ (j : Int) < l.length := by omega
                have HST := HSTEP.out
                rw [← hje, hvt] at HST
                have HST := Lib.hid HST
                have x0 := HBJ.out.cell 0 _ rfl
                have x1 := HBJ.out.cell 1 _ rfl
                have hownr := ownsRow.kp (ownsRow.ext HOWN.out HX1.out) HKJ.out (fun i hi e => by have := (own_in HOWN.out hi).2; omega)
                have HOWNR := Lib.hid hownr
                clear hownr hje hvt hbj HSTEP
                have hone := vo_one [⟨ve, vat⟩]
                have hone : ∀ y ∈ voC ⟨ve, vat⟩, y.oneCell' = true := by simpa using hone
                have e2 : ((((pl.take k).map (voteOf (badB bs))).flatMap voC)).length = k * 2 := by
                  rw [rows_len voC 2 (fun _ => rfl), List.length_map, List.length_take]
                  omega
                go_wp2_with (at_builtin; refine wpList_appAt vosT voT 2 (by decide) vo_facts rfl _ _ rfl w4.heap.size _ _ _ rfl (ownsRow.ext HOWNR.out ((Kp.refl _ wr).alloc _)) wr.heap.size 1 (voC ⟨ve, vat⟩) rfl (heap_alloc_new wr _) rfl hone ?c1 ?c2 ?_)
                case c1 => omega
                case c2 => have := HX4R.out.size; omega
                intro v1 w6 q1 q2 q3
                have hx6 : Ext w4 w6 := ((HX4R.out).alloc _).next q2 (fun i hi e => by have := (own_in HOWN.out e).1; omega)
                have HX6 := Lib.hid hx6
                have HQ1 := Lib.hid q1
                obtain ⟨a6, c6, rfl⟩ := owns_slice q1
                clear q1 q2 q3 hx6 hone e2
                go_wp2_with (fail)
                go_light
                exact ⟨⟨k + 1, by omega, by go_num, by rw [HST.out]; have := HQ1.out; rw [List.map_take]; exact this, HX6.out⟩, by simp [intOf]; omega⟩
          · have hke2 : k = pl.length := by omega
            have k1 : ¬ (k : Int) < pl.length := by omega
            have hvs : VotesAt wr (.slice va k vc) (pl.map (voteOf (badB bs))) := by
              have ho := HOWN.out
              rw [hke2, List.take_of_length_le (Nat.le_refl _)] at ho
              rw [hke2]
              exact ⟨by rw [List.length_map]; exact Sl.of_owns ho, shp_owns ho⟩
            have HV := Lib.hid (verdict_any s n _ _ _ _ xs ss pl (pl.map (voteOf (badB bs))) wr HPR.out HLEN.out hvs)
            have q0 := HBR.out.cell 0 _ rfl
            have q1 := HBR.out.cell 1 _ rfl
            have q2 := HBR.out.cell 2 _ rfl
            have q4 := HBR.out.cell 4 _ rfl
            have HEX := Lib.hid (HXA.out.ext (HX4.out.ext HXR.out))
            have hfb := HFB.out
            clear hvs hke2 hlt hk4
            rcases HLAW.out with ⟨e1, e2⟩ | ⟨e1, e2⟩
            · rw [e2] at HV
              clear e2
              go_wp2_with (fail)
              refine HV.out.mono ?_
              rintro e w7 ⟨rfl, hx7⟩
              have HX7 := Lib.hid (HEX.out.ext hx7)
              clear hx7 q0 q1 q2 q4 g3
              go_wp2_with (fail)
              go_ret
              go_light
              exact ⟨ret_bool rfl, HX7.out⟩
            · rw [e2] at HV
              obtain ⟨q, rfl⟩ := Int.eq_ofNat_of_zero_le e1
              have e3 := rem3 q
              have e4 : ¬ (q : Int) < 0 := by omega
              clear e2 e1
              go_wp2_with (fail)
              refine HV.out.mono ?_
              rintro e w7 ⟨rfl, hx7⟩
              have HX7 := Lib.hid (HEX.out.ext hx7)
              clear hx7 q0 q1 q2 q4 g3
              go_wp2_with (fail)
              go_ret
              go_light
              refine ⟨ret_bool ?_, HX7.out⟩
              simp
  · have HCM := Lib.hid (makeBad_any b s n _ xs w2 (HGT.out w2 HX2.out) (HOP.out w2 HX2.out) (ShortO.sz HSH.out) hmay)
    generalize mayR s n xs = mr at HCM hmay
    go_wp2_with (fail)
    refine HCM.out.mono ?_
    rintro e w3 ⟨rfl, hx3⟩
    have HX3 := Lib.hid (HX2.out.ext hx3)
    clear hx3
    go_wp2_with (fail)
    go_ret
    go_light
    exact ⟨ret_bool rfl, (HXA.out.ext HX3.out).alloc _⟩
end Go.Proofs.YtmgnndhhpnedkaaDoor
