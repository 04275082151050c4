/- Texts put together: AvLaw11G, AvTreeCon. -/
import Derived.Test.YtkpcmbgnaenbhaaGreatDoorAvG42
import Derived.Test.YtkpcmbgnaenbhaaGreatDoorAvG35
import Derived.Test.YtkpcmbgnaenbhaaGreatDoorAvG2
import Derived.Test.YtkpcmbgnaenbhaaGreatDoorAvG17
import Derived.Carry

/- Walks of package aviarylaw11: TreeKeeps. -/
namespace Go.Proofs.YtkpcmbgnaenbhaaGreatDoor
set_option maxRecDepth 100000
open Go.RowKit Av

set_option maxHeartbeats 40000000 in
theorem treeKeeps_any (v : Value) (xs : List ActN) (ok : Int) (op od : ByteArray) (ov ofl : Int) (w : World) (hG : GT w) (ha : ActsN w v xs) (hop0 : op.size ≤ maxLen) (hod0 : od.size ≤ maxLen) :
    Calls Tryz.prog 4 #[v, .agg #[.int .i64 ok, .string op, .string od, .int .i64 ov, .int .i64 ofl]] w fun e w' => e = .returned (.bool true) ∧ Ext w w' := by
  obtain ⟨ad, c, rfl, hm, hop⟩ := ha.open
  have HOP := Lib.hid hop
  have HOK := Lib.hid ha.2
  obtain ⟨wA, hWA⟩ : ∃ wA, w.alloc (.cells #[.int .i64 ok, .string op, .string od, .int .i64 ov, .int .i64 ofl] 30) = wA := ⟨_, rfl⟩
  have hxA : Ext w wA := by rw [← hWA]; exact (Kp.refl _ _).alloc _
  have hA : Blk wA w.heap.size #[.int .i64 ok, .string op, .string od, .int .i64 ov, .int .i64 ofl] 30 := by rw [← hWA]; exact heap_alloc_new w _
  have HGA := Lib.hid (hG.ext hxA)
  have HXA := Lib.hid hxA
  have HA := Lib.hid hA
  have HWA := Lib.hid hWA
  unfold maxLen at hm hop0 hod0
  clear hG ha hop hxA hWA hA
  go_enter Tryz.func4, Tryz.ntmps4
  go_upto_region 1 with (fail)
  rw [HWA.out]
  clear HWA
  go_wp2_with (fail)
  refine (awake_any _ HGA.out).mono ?_
  rintro e w0 ⟨rfl, hx0⟩
  have HX0 := Lib.hid (HXA.out.trans hx0)
  have HG0 := Lib.hid (HGA.out.ext hx0)
  have hA0 := HA.out.kp hx0 (fun f => f)
  have a0 := hA0.cell 0 _ rfl
  have a1 := hA0.cell 1 _ rfl
  have a2 := hA0.cell 2 _ rfl
  have a3 := hA0.cell 3 _ rfl
  have a4 := hA0.cell 4 _ rfl
  have HA0 := Lib.hid hA0
  clear hx0 HGA HXA hA0 HA
  by_cases b1 : xs.length ≤ 30
  · have b1' : ¬ (30 : Int) < (xs.length : Int) := by omega
    by_cases b2 : op.size ≤ 300
    · have b2' : ¬ (300 : Int) < (op.size : Int) := by omega
      by_cases b3 : od.size ≤ 1100
      · have b3' : ¬ (1100 : Int) < (od.size : Int) := by omega
        go_wp2_with (fail)
        refine (tsNew 50 w0 w0 (Kp.refl _ _) (by omega) (by omega)).mono ?_
        rintro e w1 ⟨b, m, rfl, h1, hx1, _, _⟩
        have H1 := Lib.hid h1
        clear h1 hx1 b1' b2' b3' a0 a1 a2 a3 a4
        go_wp2_with (fail)
        go_loopw [7] (fun s7 wr => ActRel w0 50 xs b m s7 wr) (fun s7 _ => xs.length - (intOf s7).toNat)
        case atStart => exact ⟨0, [], Nat.zero_le _, rfl, H1.out, GoodT.nil (by omega) _⟩
        case round =>
          clear H1
          obtain ⟨i, t, hi, rfl, hts, hgt⟩ := hrel
          have HT := Lib.hid hts
          have HGT := Lib.hid hgt
          clear hts hgt
          by_cases hlt : i < xs.length
          · as_aux_lemma =>
            obtain ⟨g, off, rfl, hg, hcl⟩ := HOP.out (by omega)
            have hxr := HX0.out.trans HT.out.ex
            obtain ⟨a, haa⟩ : ∃ a, xs[i] = a := ⟨_, rfl⟩
            have HOKA : Hid (ActOk w a) := by show ActOk _ _; rw [← haa]; exact HOK.out _ (List.getElem_mem hlt)
            have HMEM : Hid (a.sess ∈ xs.map (·.sess)) := by show _ ∈ _; rw [← haa]; exact List.mem_map.2 ⟨_, List.getElem_mem hlt, rfl⟩
            have HC : Hid (∀ j u, j < 18 → a.cells[j]? = some u → wr.cell? ⟨g, off + i * 18 + j, none⟩ = some u) := fun j u hj hu => hxr.cell (hcl i hlt j u hj (by rw [haa]; exact hu)) (fun f => f)
            clear hcl haa
            have HHV := Lib.hid (fun W (hx : Ext w W) => heavy_any a W ⟨HOKA.out.path, HOKA.out.data, HOKA.out.ndata, ⟨Sl.ext HOKA.out.names.1 hx, HOKA.out.names.2⟩, HOKA.out.nsize, HOKA.out.i64, HOKA.out.n64⟩)
            obtain ⟨op, ⟨k, p, d, v, f⟩, sess, z, n, nv⟩ := a
            unfold ActN.cells at HHV HC
            simp only at HHV HC HMEM
            have c0 := HC.out 0 _ (by decide) rfl
            have c1 := HC.out 1 _ (by decide) rfl
            have c2 := HC.out 2 _ (by decide) rfl
            have c3 := HC.out 3 _ (by decide) rfl
            have c4 := HC.out 4 _ (by decide) rfl
            have c5 := HC.out 5 _ (by decide) rfl
            have c6 := HC.out 6 _ (by decide) rfl
            have c7 := HC.out 7 _ (by decide) rfl
            have c8 := HC.out 8 _ (by decide) rfl
            have c9 := HC.out 9 _ (by decide) rfl
            have c10 := HC.out 10 _ (by decide) rfl
            have c11 := HC.out 11 _ (by decide) rfl
            have c12 := HC.out 12 _ (by decide) rfl
            have c13 := HC.out 13 _ (by decide) rfl
            have c14 := HC.out 14 _ (by decide) rfl
            have c15 := HC.out 15 _ (by decide) rfl
            have c16 := HC.out 16 _ (by decide) rfl
            have c17 := HC.out 17 _ (by decide) rfl
            simp only [Nat.add_zero] at c0
            have HXR := Lib.hid hxr
            clear hxr
            go_wp2_with (fail)
            refine (HHV.out _ HXR.out).mono ?_
            rintro e w2 ⟨r, rfl, hr, hx2⟩
            have HX2 := Lib.hid hx2
            have HR := Lib.hid hr
            have HC2 : Hid (∀ W, Ext w2 W → ∀ j u, j < 18 → [Value.int .i64 op, .int .i64 k, .string p, .string d, .int .i64 v, .int .i64 f, .int .i64 sess, .int .i64 z][j]? = some u → W.cell? ⟨g, off + i * 18 + j, none⟩ = some u) := fun W hW j u hj hu => (hx2.trans hW).cell (HC.out j u hj (by
              have hj8 : j < 8 := by have := (List.getElem?_eq_some_iff.1 hu).1; simpa using this
              rw [← hu]
              match j, hj8 with
              | 0, _ => rfl
              | 1, _ => rfl
              | 2, _ => rfl
              | 3, _ => rfl
              | 4, _ => rfl
              | 5, _ => rfl
              | 6, _ => rfl
              | 7, _ => rfl)) (fun f => f)
            clear hx2 hr c0 c1 c2 c3 c4 c5 c6 c7 c8 c9 c10 c11 c12 c13 c14 c15 c16 c17 HHV HC
            cases r with
            | true =>
              go_wp2_with (fail)
              go_ret
              exact ⟨rfl, HXR.out.trans HX2.out⟩
            | false =>
              as_aux_lemma =>
              have HLT := Lib.hid (HR.out rfl)
              go_upto_region 11 with (fail)
              refine' wp_region_dagK 16 [] ((43, .val _) :: (44, .val _) :: (45, .val _) :: (46, .val _) :: (47, .val _) :: (48, .val _) :: (49, .val _) :: (50, .val _) :: (51, .val _) :: (52, .val _) :: (53, .val _) :: (54, .val _) :: (55, .val _) :: (56, .val _) :: (57, .val _) :: (58, .val _) :: []) (by exact ⟨fun _ _ _ _ _ => trivial, ⟨fun _ _ _ _ _ => trivial, ⟨fun _ _ _ _ _ => trivial, ⟨fun _ _ _ _ _ => trivial, ⟨fun _ _ _ _ _ => trivial, ⟨fun _ _ _ _ _ => trivial, ⟨fun _ _ _ _ _ => trivial, ⟨fun _ _ _ _ _ => trivial, ⟨fun _ _ _ _ _ => trivial, ⟨fun _ _ _ _ _ => trivial, ⟨fun _ _ _ _ _ => trivial, ⟨fun _ _ _ _ _ => trivial, ⟨fun _ _ _ _ _ => trivial, ⟨fun _ _ _ _ _ => trivial, ⟨fun _ _ _ _ _ => trivial, ⟨fun _ _ _ _ _ => trivial, trivial⟩⟩⟩⟩⟩⟩⟩⟩⟩⟩⟩⟩⟩⟩⟩⟩) (by kernel_rfl) (by kernel_rfl) (by kernel_rfl) ?_
              rotate_left 16
              simp only [List.take_succ_cons, List.take_zero]
              repeat (first
                | (refine wpD_skipv ?_ ?_ ?_
                   focus rfl
                   focus rfl
                   simp only [Act.put, List.setIfInBounds_toArray, List.set_cons_succ, List.set_cons_zero])
                | (refine' wpD_val (c := _) ?_ (fun w => Kp.refl _ w) ?_ (fun wq hwq hfq => ?_) ?_
                   rotate_left
                   focus rfl
                   focus rfl
                   focus ((have hext : Ext w2 wq := hwq.mono (fun i hi e => by omega); have c1 := HC2.out _ hext 1 _ (by decide) rfl; have c2 := HC2.out _ hext 2 _ (by decide) rfl; have c3 := HC2.out _ hext 3 _ (by decide) rfl; have c4 := HC2.out _ hext 4 _ (by decide) rfl; have c5 := HC2.out _ hext 5 _ (by decide) rfl; have c6 := HC2.out _ hext 6 _ (by decide) rfl; have c7 := HC2.out _ hext 7 _ (by decide) rfl); go_simp; first | done | rfl)
                   simp only [Act.put, List.setIfInBounds_toArray, List.set_cons_succ, List.set_cons_zero])
                | (refine' wpD_con (c := _) ?_ ?_ (fun wq hwq hfq => ?_) ?_
                   rotate_left
                   focus rfl
                   focus rfl
                   focus ((have hext : Ext w2 wq := hwq.mono (fun i hi e => by omega); have c1 := HC2.out _ hext 1 _ (by decide) rfl; have c2 := HC2.out _ hext 2 _ (by decide) rfl; have c3 := HC2.out _ hext 3 _ (by decide) rfl; have c4 := HC2.out _ hext 4 _ (by decide) rfl; have c5 := HC2.out _ hext 5 _ (by decide) rfl; have c6 := HC2.out _ hext 6 _ (by decide) rfl; have c7 := HC2.out _ hext 7 _ (by decide) rfl); go_simp; (try (rw [dUpon_enter])); fail)
                   simp only [Act.put, List.setIfInBounds_toArray, List.set_cons_succ, List.set_cons_zero])
                | fail)
              refine wpD_nil ?_
              intro w3 hx3 hend
              clear hend
              have hx3' : Ext w2 w3 := hx3.mono (fun i hi e => by omega)
              have hTS := HT.out.ext (HX2.out.trans hx3')
              have HD := Lib.hid (tsDo hTS HG0.out (by omega) ⟨k, p, d, v, f⟩ sess z (by have := HLT.out.path; simp only at this ⊢; omega) (by have := HLT.out.data; simp only at this ⊢; omega))
              have HTS := Lib.hid hTS
              clear hx3 hx3' hTS
              as_aux_lemma =>
              go_wp2_with (fail)
              refine HD.out.mono ?_
              intro e w4 hd
              have HDN := Lib.hid hd
              obtain ⟨t', nv', rfl, _⟩ := hd
              go_wp2_with (fail)
              go_light
              refine ⟨acts_step HGT.out HTS.out hlt (a := ⟨op, ⟨k, p, d, v, f⟩, sess, z, n, nv⟩) HMEM.out ?_ HDN.out, ?_⟩
              · go_num
              · simp [intOf]; omega
          · as_aux_lemma =>
            have HO := Lib.hid (treeOwn_any HT.out HGT.out.snd (by omega) (by omega) 50)
            clear HOP HOK
            go_wp2_with (fail)
            refine HO.out.mono ?_
            rintro e w2 ⟨g8, rfl, hr8, hx2⟩
            have HR8 := Lib.hid hr8
            have HT2 := Lib.hid (HT.out.ext hx2)
            clear hr8 hx2 HO HT
            go_wp2_with (fail)
            refine (tsCopy HT2.out (by omega)).mono ?_
            rintro e w3 ⟨b', m', cc, rfl, hc3, hcg, hap, hx3⟩
            have HR3 := Lib.hid (HR8.out.ext hx3)
            have HT3 := Lib.hid (HT2.out.ext hx3)
            have HC3 := Lib.hid hc3
            have HAP := Lib.hid hap
            have hA3 := HA0.out.kp HT3.out.ex (fun f => f)
            have a0 := hA3.cell 0 _ rfl
            have a1 := hA3.cell 1 _ rfl
            have a2 := hA3.cell 2 _ rfl
            have a3 := hA3.cell 3 _ rfl
            have a4 := hA3.cell 4 _ rfl
            clear hc3 hcg hap hx3 hA3 HR8 HT2
            go_wp2_with (fail)
            refine (tsTry HT3.out HG0.out (by omega) ⟨ok, op, od, ov, ofl⟩ 1 5 (by show op.size ≤ _; omega) (by show od.size ≤ _; omega)).mono ?_
            rintro e w4 ⟨t4, nv4, rfl, ho4, ht4, hp4, hk4, hf4⟩
            rw [doP_try] at hp4
            have HP4 := Lib.hid hp4
            have HT4 := Lib.hid ht4
            have HC4 := Lib.hid (TS.other HAP.out HT3.out HC3.out hk4)
            have HAP4 := Lib.hid (HAP.out.step HC3.out.tr hf4)
            have HR4 := Lib.hid (HR3.out.under HT3.out.tr hk4)
            have hA4 := HA0.out.kp ht4.ex (fun f => f)
            clear a0 a1 a2 a3 a4 ho4 ht4 hp4 hk4 hf4 HT3 HC3 HAP HR3
            have a0 := hA4.cell 0 _ rfl
            have a1 := hA4.cell 1 _ rfl
            have a2 := hA4.cell 2 _ rfl
            have a3 := hA4.cell 3 _ rfl
            have a4 := hA4.cell 4 _ rfl
            clear hA4
            go_wp2_with (fail)
            refine (tsDo HC4.out HG0.out (by omega) ⟨ok, op, od, ov, ofl⟩ 1 5 (by show op.size ≤ _; omega) (by show od.size ≤ _; omega)).mono ?_
            rintro e w5 ⟨c5, nv5, rfl, _, hc5, _, hk5, hf5⟩
            have HC5 := Lib.hid hc5
            have HT5 := Lib.hid (TS.other HAP4.out.symm HC4.out HT4.out hk5)
            have HAP5 := Lib.hid ((HAP4.out.symm.step HT4.out.tr hf5).symm)
            have HR5 := Lib.hid (HR4.out.under HC4.out.tr hk5)
            clear a0 a1 a2 a3 a4 hc5 hk5 hf5 HC4 HT4 HAP4 HR4
            go_wp2_with (fail)
            refine (made_any _ _ _).mono ?_
            rintro e w6 ⟨rfl, hx6⟩
            have HC6 := Lib.hid (HC5.out.ext hx6)
            have HT6 := Lib.hid (HT5.out.ext hx6)
            have HR6 := Lib.hid (HR5.out.ext hx6)
            clear hx6 HC5 HT5 HR5
            go_wp2_with (fail)
            refine (tsDo HC6.out HG0.out (by omega) ⟨1, ⟨#[47, 122, 122]⟩, ⟨#[]⟩, 0, 0⟩ 1 6 (by decide) (by decide)).mono ?_
            rintro e w7 ⟨c7, nv7, rfl, _, hc7, _, hk7, hf7⟩
            have HT7 := Lib.hid (TS.other HAP5.out.symm HC6.out HT6.out hk7)
            have HR7 := Lib.hid (HR6.out.under HC6.out.tr hk7)
            clear hc7 hk7 hf7 HC6 HT6 HAP5 HR6
            have HSD : Hid (SoundP 50 (pl t4)) := by show SoundP _ _; rw [HP4.out]; exact HGT.out.snd
            go_wp2_with (fail)
            refine (treeOwn_any HT7.out HSD.out (by omega) (by omega) 50).mono ?_
            rintro e w8 ⟨g9, rfl, hr9, hx8⟩
            have HT8 := Lib.hid (HT7.out.ext hx8)
            have HR8 := Lib.hid (HR7.out.ext hx8)
            have HS := Lib.hid (sameTree_any _ _ _ _ _ _ _ _ w8 hr9 (HR7.out.ext hx8))
            clear hr9 hx8 HT7 HR7
            rw [HP4.out, decide_eq_true (rfl : ownL (pl t) = ownL (pl t))] at HS
            go_wp2_with (fail)
            refine HS.out.mono ?_
            rintro e w9 ⟨rfl, hx9⟩
            have HT9 := Lib.hid (HT8.out.ext hx9)
            have HR9 := Lib.hid (HR8.out.ext hx9)
            have hA9 := HA0.out.kp HT9.out.ex (fun f => f)
            have a0 := hA9.cell 0 _ rfl
            have a1 := hA9.cell 1 _ rfl
            have a2 := hA9.cell 2 _ rfl
            have a3 := hA9.cell 3 _ rfl
            have a4 := hA9.cell 4 _ rfl
            clear hx9 HT8 HR8 HS hA9
            go_wp2_with (fail)
            refine (tsDo HT9.out HG0.out (by omega) ⟨ok, op, od, ov, ofl⟩ 1 5 (by show op.size ≤ _; omega) (by show od.size ≤ _; omega)).mono ?_
            rintro e wD ⟨tD, nvD, rfl, hoD, htD, hpD, hkD, hfD⟩
            rw [HP4.out] at hpD hoD
            rw [HP4.out]
            have HSM := Lib.hid (doP_same 50 (pl t) ⟨ok, op, od, ov, ofl⟩ 1 5 false)
            have HSDD : Hid (SoundP 50 (pl tD)) := by
              show SoundP _ _
              rw [hpD]
              have h4 := (show pl t = pl t4 from HP4.out.symm)
              rw [h4]
              exact HSD.out.doP HT9.out.pk (by rw [← h4]; exact HGT.out.free) _ _ _
            have HRD := Lib.hid (HR9.out.under HT9.out.tr hkD)
            obtain ⟨aD, cD, rfl⟩ := owns_slice hoD
            obtain ⟨R, hR⟩ : ∃ R, doP 50 (pl t) ⟨ok, op, od, ov, ofl⟩ 1 5 false = R := ⟨_, rfl⟩
            rw [hR] at hpD HSM hoD
            rw [hR]
            have HTD := Lib.hid htD
            have HPD := Lib.hid hpD
            obtain ⟨wE, hWE⟩ : ∃ wE, wD.alloc (.cells #[.int .i64 R.2.err, .string R.2.path, .string R.2.data, .slice aD R.2.names.length cD, .int .i64 R.2.st.made, .int .i64 R.2.st.chg, .int .i64 R.2.st.ver, .int .i64 R.2.st.kids, .int .i64 R.2.st.own, .int .i64 R.2.st.len, .int .i64 R.2.st.cnt] rsuT) = wE := ⟨_, rfl⟩
            have hxE : Ext wD wE := by rw [← hWE]; exact (Kp.refl _ _).alloc _
            have hE : Blk wE wD.heap.size #[.int .i64 R.2.err, .string R.2.path, .string R.2.data, .slice aD R.2.names.length cD, .int .i64 R.2.st.made, .int .i64 R.2.st.chg, .int .i64 R.2.st.ver, .int .i64 R.2.st.kids, .int .i64 R.2.st.own, .int .i64 R.2.st.len, .int .i64 R.2.st.cnt] rsuT := by rw [← hWE]; exact heap_alloc_new wD _
            have r0 := hE.cell 0 _ rfl
            have HTE := Lib.hid (htD.ext hxE)
            have HRE := Lib.hid (HRD.out.ext hxE)
            have hAE := HA0.out.kp (htD.ext hxE).ex (fun f => f)
            have HWE := Lib.hid hWE
            clear a0 a1 a2 a3 a4 hpD hR htD hkD hfD hoD hxE hE hWE HT9 HR9 HRD HTD
            have a0 := hAE.cell 0 _ rfl
            clear hAE
            generalize R.2.err = er at r0 HSM HWE ⊢
            unfold resA
            simp only
            go_upto_region 20 with (fail)
            rw [HWE.out]
            clear HWE
            by_cases he : er = 0
            · have he' : (er == 0) = true := by rw [he]; rfl
              by_cases hk : ok < 4
              · go_wp2_with (fail)
                go_ret
                exact ⟨rfl, HX0.out.trans HTE.out.ex⟩
              · have hpt : pl tD = pl t := by rw [HPD.out]; exact HSM.out (fun h => hk h.2)
                have HO2 := Lib.hid (by have := treeOwn_any HTE.out HSDD.out (by omega) (by omega) 50; rw [hpt] at this; exact this)
                clear hpt
                go_wp2_with (fail)
                refine HO2.out.mono ?_
                rintro e wF ⟨gF, rfl, hrF, hxF⟩
                have HS2 := Lib.hid (sameTree_any _ _ _ _ _ _ _ _ wF hrF (HRE.out.ext hxF))
                have HTF := Lib.hid (HTE.out.ext hxF)
                rw [decide_eq_true (rfl : ownL (pl t) = ownL (pl t))] at HS2
                clear hrF hxF
                go_wp2_with (fail)
                refine HS2.out.mono ?_
                rintro e wG ⟨rfl, hxG⟩
                have HXG := Lib.hid (HX0.out.trans (HTF.out.ext hxG).ex)
                clear hxG
                go_wp2_with (fail)
                go_ret
                exact ⟨rfl, HXG.out⟩
            · have he' : (er == 0) = false := by simpa using he
              have hpt : pl tD = pl t := by rw [HPD.out]; exact HSM.out (fun h => he h.1)
              have HO2 := Lib.hid (by have := treeOwn_any HTE.out HSDD.out (by omega) (by omega) 50; rw [hpt] at this; exact this)
              clear hpt
              go_wp2_with (fail)
              refine HO2.out.mono ?_
              rintro e wF ⟨gF, rfl, hrF, hxF⟩
              have HS2 := Lib.hid (sameTree_any _ _ _ _ _ _ _ _ wF hrF (HRE.out.ext hxF))
              have HTF := Lib.hid (HTE.out.ext hxF)
              rw [decide_eq_true (rfl : ownL (pl t) = ownL (pl t))] at HS2
              clear hrF hxF
              go_wp2_with (fail)
              refine HS2.out.mono ?_
              rintro e wG ⟨rfl, hxG⟩
              have HXG := Lib.hid (HX0.out.trans (HTF.out.ext hxG).ex)
              clear hxG
              go_wp2_with (fail)
              go_ret
              exact ⟨rfl, HXG.out⟩
      · have b3' : (1100 : Int) < (od.size : Int) := by omega
        go_wp2_with (fail)
        go_ret
        exact ⟨rfl, HX0.out⟩
    · have b2' : (300 : Int) < (op.size : Int) := by omega
      go_wp2_with (fail)
      go_ret
      exact ⟨rfl, HX0.out⟩
  · have b1' : (30 : Int) < (xs.length : Int) := by omega
    go_wp2_with (fail)
    go_ret
    exact ⟨rfl, HX0.out⟩
end Go.Proofs.YtkpcmbgnaenbhaaGreatDoor

/- Arguments of the tree's laws; tables. -/
namespace Go.Proofs.YtkpcmbgnaenbhaaGreatDoor
set_option maxRecDepth 100000
open Go.ChangeShapes Go.WideShapes Go.ChangeAt Go.RowKit Av

theorem gt_of {W : World} {laid : List (String × DataW Unit)} (hsh : W.ShapedOpen Tryz.prog) (h : laidMet Tryz.prog laid W) (hl : (laid.filter fun x => x.1 == "internal/strconv.uint64pow10") = [("internal/strconv.uint64pow10", Lib.tabData .u64 Lib.pow10Tab)]) : GT W :=
  ⟨gl_of_shape hsh, tab_of_laid h hl⟩
/-- An op that comes in as an argument. -/
theorem arg_op {H : Type} {enc : TypeId × Value → H} {W : World} {base : Nat} {r : Reach} {v : Value} {d : DataW H} {p : List MemPlace} (hv : Value.okWide Tryz.prog W r base 30 v) (h : DataW.Trod enc Tryz.prog W 0 (fun _ => true) true 30 v d p) :
    ∃ o : OpV, v = o.val ∧ (o.path.size ≤ maxLen ∧ o.data.size ≤ maxLen) ∧ Op64 o := by
  obtain ⟨cs, rfl, _⟩ := okWide_struct Tryz.underlying30 hv
  obtain ⟨fuel, h⟩ := h
  obtain ⟨o, hcs, h1, h2, h3⟩ := trod_op h
  obtain ⟨cs⟩ := cs
  simp only [Value.cells] at hcs
  subst hcs
  exact ⟨o, rfl, ⟨h1, h2⟩, h3⟩
end Go.Proofs.YtkpcmbgnaenbhaaGreatDoor
