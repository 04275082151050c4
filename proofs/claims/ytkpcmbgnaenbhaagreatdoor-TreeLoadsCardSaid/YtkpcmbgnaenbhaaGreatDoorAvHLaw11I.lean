
/- Walks of package aviarylaw11: TreeLoads. -/
import Derived.Test.YtkpcmbgnaenbhaaGreatDoorAvG42
namespace Go.Proofs.YtkpcmbgnaenbhaaGreatDoor
set_option maxRecDepth 100000
open Go.RowKit Av

def LdRel (w0 : World) (b m b2 m2 : Nat) (K : Nat) (t : Tr) (L : List Bs) (turn : Nat) (aS : Option Addr) (cS : Nat) (s11 : Value) (wr : World) : Prop :=
  ∃ (j : Nat) (u : Tr), j ≤ L.length ∧ s11 = .int .i64 j ∧ TS w0 wr b m 60 K t ∧ TS w0 wr b2 m2 60 K u ∧ Apart b2 m2 u b m t ∧ LaidTo (pl t) (pl u) (rotL L turn) j ∧ wr.ownsRow 0 strT 1 (.slice aS L.length cS) L.length (L.map encStr)
set_option maxHeartbeats 40000000 in
theorem treeLoads_any (v : Value) (xs : List ActN) (tn : Int) (w : World) (hG : GT w) (ha : ActsN w v xs) :
    Calls Tryz.prog 6 #[v, .int .i64 tn] w fun e w' => e = .returned (.bool true) ∧ Ext w w' := by
  obtain ⟨ad, c, rfl, hm, hop⟩ := ha.open
  have HOP := Lib.hid hop
  have HOK := Lib.hid ha.2
  have HG := Lib.hid hG
  unfold maxLen at hm
  clear hG ha hop
  go_enter Tryz.func6, Tryz.ntmps6
  go_wp2_with (fail)
  refine (awake_any w HG.out).mono ?_
  rintro e w0 ⟨rfl, hx0⟩
  have HX0 := Lib.hid hx0
  have HG0 := Lib.hid (HG.out.ext hx0)
  clear hx0 HG
  by_cases b1 : xs.length ≤ 30
  · have b1' : ¬ (30 : Int) < (xs.length : Int) := by omega
    by_cases b2 : 0 ≤ tn
    · have b2' : ¬ tn < 0 := by omega
      by_cases b3 : tn ≤ 100
      · have b3' : ¬ (100 : Int) < tn := by omega
        obtain ⟨turn, rfl⟩ : ∃ k : Nat, tn = (k : Int) := ⟨tn.toNat, by omega⟩
        go_wp2_with (fail)
        refine (tsNew 60 w0 w0 (Kp.refl _ _) (by omega) (by omega)).mono ?_
        rintro e w1 ⟨b, m, rfl, h1, hx1, _, _⟩
        have H1 := Lib.hid h1
        clear h1 hx1 b1' b2' b3'
        go_wp2_with (fail)
        go_loopw [7] (fun s7 wr => ActRel w0 60 xs b m s7 wr) (fun s7 _ => xs.length - (intOf s7).toNat)
        case atStart => exact ⟨0, [], Nat.zero_le _, rfl, H1.out, GoodT.nil (by omega) _⟩
        case round =>
          clear H1
          obtain ⟨i, t, hi, rfl, hts, hgt⟩ := hrel
          have HT := Lib.hid hts
          have HGT := Lib.hid hgt
          clear hts hgt
          by_cases hlt : i < xs.length
          · as_aux_lemma =>
            obtain ⟨g, off, rfl, hg, hcl⟩ := HOP.out (by omega)
            have hxr := HX0.out.trans HT.out.ex
            obtain ⟨a, haa⟩ : ∃ a, xs[i] = a := ⟨_, rfl⟩
            have HOKA : Hid (ActOk w a) := by show ActOk _ _; rw [← haa]; exact HOK.out _ (List.getElem_mem hlt)
            have HMEM : Hid (a.sess ∈ xs.map (·.sess)) := by show _ ∈ _; rw [← haa]; exact List.mem_map.2 ⟨_, List.getElem_mem hlt, rfl⟩
            have HC : Hid (∀ j u, j < 18 → a.cells[j]? = some u → wr.cell? ⟨g, off + i * 18 + j, none⟩ = some u) := fun j u hj hu => hxr.cell (hcl i hlt j u hj (by rw [haa]; exact hu)) (fun f => f)
            clear hcl haa
            have HHV := Lib.hid (fun W (hx : Ext w W) => heavy_any a W ⟨HOKA.out.path, HOKA.out.data, HOKA.out.ndata, ⟨Sl.ext HOKA.out.names.1 hx, HOKA.out.names.2⟩, HOKA.out.nsize, HOKA.out.i64, HOKA.out.n64⟩)
            obtain ⟨op, ⟨k, p, d, v, f⟩, sess, z, n, nv⟩ := a
            unfold ActN.cells at HHV HC
            simp only at HHV HC HMEM
            have c0 := HC.out 0 _ (by decide) rfl
            have c1 := HC.out 1 _ (by decide) rfl
            have c2 := HC.out 2 _ (by decide) rfl
            have c3 := HC.out 3 _ (by decide) rfl
            have c4 := HC.out 4 _ (by decide) rfl
            have c5 := HC.out 5 _ (by decide) rfl
            have c6 := HC.out 6 _ (by decide) rfl
            have c7 := HC.out 7 _ (by decide) rfl
            have c8 := HC.out 8 _ (by decide) rfl
            have c9 := HC.out 9 _ (by decide) rfl
            have c10 := HC.out 10 _ (by decide) rfl
            have c11 := HC.out 11 _ (by decide) rfl
            have c12 := HC.out 12 _ (by decide) rfl
            have c13 := HC.out 13 _ (by decide) rfl
            have c14 := HC.out 14 _ (by decide) rfl
            have c15 := HC.out 15 _ (by decide) rfl
            have c16 := HC.out 16 _ (by decide) rfl
            have c17 := HC.out 17 _ (by decide) rfl
            simp only [Nat.add_zero] at c0
            have HXR := Lib.hid hxr
            clear hxr
            go_wp2_with (fail)
            refine (HHV.out _ HXR.out).mono ?_
            rintro e w2 ⟨r, rfl, hr, hx2⟩
            have HX2 := Lib.hid hx2
            have HR := Lib.hid hr
            have HC2 : Hid (∀ W, Ext w2 W → ∀ j u, j < 18 → [Value.int .i64 op, .int .i64 k, .string p, .string d, .int .i64 v, .int .i64 f, .int .i64 sess, .int .i64 z][j]? = some u → W.cell? ⟨g, off + i * 18 + j, none⟩ = some u) := fun W hW j u hj hu => (hx2.trans hW).cell (HC.out j u hj (by
              have hj8 : j < 8 := by have := (List.getElem?_eq_some_iff.1 hu).1; simpa using this
              rw [← hu]
              match j, hj8 with
              | 0, _ => rfl
              | 1, _ => rfl
              | 2, _ => rfl
              | 3, _ => rfl
              | 4, _ => rfl
              | 5, _ => rfl
              | 6, _ => rfl
              | 7, _ => rfl)) (fun f => f)
            clear hx2 hr c0 c1 c2 c3 c4 c5 c6 c7 c8 c9 c10 c11 c12 c13 c14 c15 c16 c17 HHV HC
            cases r with
            | true =>
              go_wp2_with (fail)
              go_ret
              exact ⟨rfl, HXR.out.trans HX2.out⟩
            | false =>
              as_aux_lemma =>
              have HLT := Lib.hid (HR.out rfl)
              go_upto_region 11 with (fail)
              refine' wp_region_dagK 16 [] ((43, .val _) :: (44, .val _) :: (45, .val _) :: (46, .val _) :: (47, .val _) :: (48, .val _) :: (49, .val _) :: (50, .val _) :: (51, .val _) :: (52, .val _) :: (53, .val _) :: (54, .val _) :: (55, .val _) :: (56, .val _) :: (57, .val _) :: (58, .val _) :: []) (by exact ⟨fun _ _ _ _ _ => trivial, ⟨fun _ _ _ _ _ => trivial, ⟨fun _ _ _ _ _ => trivial, ⟨fun _ _ _ _ _ => trivial, ⟨fun _ _ _ _ _ => trivial, ⟨fun _ _ _ _ _ => trivial, ⟨fun _ _ _ _ _ => trivial, ⟨fun _ _ _ _ _ => trivial, ⟨fun _ _ _ _ _ => trivial, ⟨fun _ _ _ _ _ => trivial, ⟨fun _ _ _ _ _ => trivial, ⟨fun _ _ _ _ _ => trivial, ⟨fun _ _ _ _ _ => trivial, ⟨fun _ _ _ _ _ => trivial, ⟨fun _ _ _ _ _ => trivial, ⟨fun _ _ _ _ _ => trivial, trivial⟩⟩⟩⟩⟩⟩⟩⟩⟩⟩⟩⟩⟩⟩⟩⟩) (by kernel_rfl) (by kernel_rfl) (by kernel_rfl) ?_
              rotate_left 16
              simp only [List.take_succ_cons, List.take_zero]
              repeat (first
                | (refine wpD_skipv ?_ ?_ ?_
                   focus rfl
                   focus rfl
                   simp only [Act.put, List.setIfInBounds_toArray, List.set_cons_succ, List.set_cons_zero])
                | (refine' wpD_val (c := _) ?_ (fun w => Kp.refl _ w) ?_ (fun wq hwq hfq => ?_) ?_
                   rotate_left
                   focus rfl
                   focus rfl
                   focus ((have hext : Ext w2 wq := hwq.mono (fun i hi e => by omega); have c1 := HC2.out _ hext 1 _ (by decide) rfl; have c2 := HC2.out _ hext 2 _ (by decide) rfl; have c3 := HC2.out _ hext 3 _ (by decide) rfl; have c4 := HC2.out _ hext 4 _ (by decide) rfl; have c5 := HC2.out _ hext 5 _ (by decide) rfl; have c6 := HC2.out _ hext 6 _ (by decide) rfl; have c7 := HC2.out _ hext 7 _ (by decide) rfl); go_simp; first | done | rfl)
                   simp only [Act.put, List.setIfInBounds_toArray, List.set_cons_succ, List.set_cons_zero])
                | (refine' wpD_con (c := _) ?_ ?_ (fun wq hwq hfq => ?_) ?_
                   rotate_left
                   focus rfl
                   focus rfl
                   focus ((have hext : Ext w2 wq := hwq.mono (fun i hi e => by omega); have c1 := HC2.out _ hext 1 _ (by decide) rfl; have c2 := HC2.out _ hext 2 _ (by decide) rfl; have c3 := HC2.out _ hext 3 _ (by decide) rfl; have c4 := HC2.out _ hext 4 _ (by decide) rfl; have c5 := HC2.out _ hext 5 _ (by decide) rfl; have c6 := HC2.out _ hext 6 _ (by decide) rfl; have c7 := HC2.out _ hext 7 _ (by decide) rfl); go_simp; (try (rw [dUpon_enter])); fail)
                   simp only [Act.put, List.setIfInBounds_toArray, List.set_cons_succ, List.set_cons_zero])
                | fail)
              refine wpD_nil ?_
              intro w3 hx3 hend
              clear hend
              have hx3' : Ext w2 w3 := hx3.mono (fun i hi e => by omega)
              have hTS := HT.out.ext (HX2.out.trans hx3')
              have HD := Lib.hid (tsDo hTS HG0.out (by omega) ⟨k, p, d, v, f⟩ sess z (by have := HLT.out.path; simp only at this ⊢; omega) (by have := HLT.out.data; simp only at this ⊢; omega))
              have HTS := Lib.hid hTS
              clear hx3 hx3' hTS
              as_aux_lemma =>
              go_wp2_with (fail)
              refine HD.out.mono ?_
              intro e w4 hd
              have HDN := Lib.hid hd
              obtain ⟨t', nv', rfl, _⟩ := hd
              go_wp2_with (fail)
              go_light
              refine ⟨acts_step HGT.out HTS.out hlt (a := ⟨op, ⟨k, p, d, v, f⟩, sess, z, n, nv⟩) HMEM.out ?_ HDN.out, ?_⟩
              · go_num
              · simp [intOf]; omega
          · as_aux_lemma =>
            clear HOP HOK
            go_wp2_with (fail)
            refine (tsNew 60 w0 _ HT.out.ex (by omega) (by omega)).mono ?_
            rintro e w2 ⟨b2, m2, rfl, hu2, hx2, hb2, hm2⟩
            have hap : Apart b2 m2 [] b m t := fun q h1 h2 => by
              have h3 := (HT.out.tr.ownLt h2).2
              rcases h1 with h4 | h4 | ⟨e, he, _⟩
              · omega
              · omega
              · cases he
            have HAP := Lib.hid hap
            have HT2 := Lib.hid (HT.out.ext hx2)
            have HU2 := Lib.hid hu2
            clear hap hu2 hx2 hb2 hm2 HT
            have hTM : ∀ x ∈ pathsP (pl t), ∃ n, mget (pl t) ⟨x.toArray⟩ = some n := fun x hx => Option.ne_none_iff_exists'.1 (paths_mem.1 hx)
            have HM := Lib.hid hTM
            have HIN : Hid (∀ q, mget (pl t) q ≠ none → q.data.toList ∈ pathsP (pl t)) := fun q hq => paths_mem.2 (by rw [bytes_self]; exact hq)
            have HND : Hid ((pathsP (pl t)).Nodup) := (pathsP_rising HT2.out.pk.1).imp fun {a b} h e => by rw [e] at h; exact List.lt_irrefl _ h
            have HLN := Lib.hid (pathsP_len (pl t))
            have HP := Lib.hid (tsPaths HT2.out HGT.out.snd (by omega))
            generalize pathsP (pl t) = L at HM HIN HND HLN HP
            have hL : L.length ≤ 60 := by have h1 := HLN.out; have := HGT.out.snd.size; omega
            clear hTM
            go_wp2_with (fail)
            refine HP.out.mono ?_
            rintro e wS ⟨vS, rfl, hoS, hxS⟩
            obtain ⟨aS, cS, rfl⟩ := owns_slice hoS
            have HTS := Lib.hid (HT2.out.ext hxS)
            have HUS := Lib.hid (HU2.out.ext hxS)
            have HOS := Lib.hid (own_less hoS (Nat.zero_le _))
            have hK : i ≤ 30 := by omega
            clear hoS hxS HT2 HU2 HP
            go_wp2_with (fail)
            go_loopw [11] (fun s11 wr => LdRel w0 b m b2 m2 i t L turn aS cS s11 wr) (fun s11 _ => L.length - (intOf s11).toNat)
            case atStart => exact ⟨0, [], Nat.zero_le _, rfl, HTS.out, ⟨HUS.out.tr, HUS.out.pk.mono (Nat.zero_le _), HUS.out.ex⟩, HAP.out, LaidTo.nil _ _, HOS.out⟩
            case round =>
              clear HTS HUS HOS HAP
              obtain ⟨j, u, hj, rfl, ht, hu, hap, hla, hos⟩ := hrel
              have HT := Lib.hid ht
              have HU := Lib.hid hu
              have HAP := Lib.hid hap
              have HLA := Lib.hid hla
              have HOS := Lib.hid hos
              clear ht hu hap hla hos
              by_cases hlj : j < L.length
              · have hq : (j + turn) % L.length < L.length := Nat.mod_lt _ (by omega)
                obtain ⟨_, _, hsl, hop⟩ := strs_open HOS.out
                simp only [Value.slice.injEq, true_and] at hsl
                obtain ⟨rfl, rfl⟩ := hsl
                obtain ⟨g5, off5, rfl, hcl⟩ := hop (by omega)
                have hrl : j < (rotL L turn).length := by rw [rot_len]; exact hlj
                have hrg : (rotL L turn)[j] = L[(j + turn) % L.length] := by
                  have h1 := rot_get (k := turn) hlj
                  rw [List.getElem?_eq_getElem hrl, List.getElem?_eq_getElem hq] at h1
                  exact Option.some.inj h1
                have hc := hcl _ hq
                obtain ⟨n, hn⟩ := HM.out _ (List.getElem_mem hq)
                obtain ⟨x, hx⟩ : ∃ x, L[(j + turn) % L.length] = x := ⟨_, rfl⟩
                rw [hx] at hc hn hrg
                obtain ⟨p, hp⟩ : ∃ p : ByteArray, ⟨x.toArray⟩ = p := ⟨_, rfl⟩
                have hpx : p.data.toList = (rotL L turn)[j] := by rw [hrg, ← hp]
                unfold encStr at hc
                rw [hp] at hc hn
                have hnd := (rot_perm L turn).nodup_iff.2 HND.out
                have hfr := HLA.out.fresh hnd hrl hpx
                have HFR := Lib.hid hfr
                have HNX := Lib.hid (HLA.out.step hnd hrl hpx hn)
                have hpo := HGT.out.parts _ _ hn
                have hnk := HT.out.pk.2 _ (mget_mem hn)
                have HPO := Lib.hid hpo
                have HNK : Hid (NodeK i n) := hnk
                have hgp := HGT.out.snd.good _ _ hn
                have hnm : Named n.names := named_of hpo.2.2.2 hnk.rise (Nat.le_trans hnk.few (by omega))
                have HRR : Hid (goodL p.data.toList = true ∧ Named n.names) := ⟨hgp, hnm⟩
                have HPS : Hid (p.size ≤ 1000000) := by have := path_small p hgp; show _ ≤ _; omega
                have HSM : Hid (∀ s ∈ n.names, s.length ≤ 1000000) := fun s hs => by have := name_len (hpo.2.2.2 s hs); omega
                have hnode : nodeP (pl t) p = (n, true) := by unfold nodeP; rw [hn]
                have HN := Lib.hid (by have := tsNode HT.out (by omega) p; rw [hnode] at this; exact this)
                have hl0 : ((L.length : Int) == 0) = false := beq_eq_false_iff_ne.2 (by omega)
                have e9 : ((j : Int) + (turn : Int)) % (L.length : Int) = (((j + turn) % L.length : Nat) : Int) := by rw [← Int.natCast_add, Int.natCast_emod]
                have HQ := Lib.hid hq
                generalize hqq : (j + turn) % L.length = q at hc e9 HQ
                have hq1 : (0 : Int) ≤ (q : Int) := by omega
                have hq2 : (q : Int) < (L.length : Int) := by have := HQ.out; omega
                clear hqq hx hcl hop hrl hrg hpx hp hfr hpo hnk hgp hnm hnode hn hq hnd
                go_wp2_with (fail)
                refine HN.out.mono ?_
                rintro e w6 ⟨nv6, rfl, ho6, ht6, hx6⟩
                obtain ⟨a6, c6, rfl⟩ := owns_slice ho6
                obtain ⟨wC, hWC⟩ : ∃ wC, w6.alloc (.cells #[.int .i64 n.made, .int .i64 n.chg, .int .i64 n.ver, .int .i64 n.kids, .int .i64 n.own, .int .i64 n.len, .int .i64 n.cnt, .string n.data, .int .i64 n.next, .slice a6 n.names.length c6] ndT) = wC := ⟨_, rfl⟩
                have hxC : Ext w6 wC := by rw [← hWC]; exact (Kp.refl _ _).alloc _
                have hC : Blk wC w6.heap.size #[.int .i64 n.made, .int .i64 n.chg, .int .i64 n.ver, .int .i64 n.kids, .int .i64 n.own, .int .i64 n.len, .int .i64 n.cnt, .string n.data, .int .i64 n.next, .slice a6 n.names.length c6] ndT := by rw [← hWC]; exact heap_alloc_new w6 _
                have hrC : Ext wr wC := hx6.trans hxC
                have HUC := Lib.hid (HU.out.ext hrC)
                have HTC := Lib.hid (ht6.ext hxC)
                have HOC := Lib.hid (ownsRow.ext HOS.out hrC)
                have HO6 := Lib.hid (ownsRow.ext ho6 hxC)
                have HNMC := Lib.hid (names_own (ownsRow.ext ho6 hxC))
                have HLD := Lib.hid (by have := tsLoad HUC.out HG0.out (by omega) p n (.slice a6 n.names.length c6) true HPS.out HNMC.out HNK.out HSM.out ⟨fun _ => HRR.out, fun _ => rfl⟩; rw [loadP_yes HFR.out (by rw [HLA.out.len]; omega), ndLoad_same HPO.out] at this; exact this)
                have HCC := Lib.hid hC
                have HWC := Lib.hid hWC
                have hlow : ∀ q, TOwn b2 m2 u q → q ≠ w6.heap.size := fun q hq e => by
                  have h1 := (HU.out.tr.ownLt hq).2
                  have h2 := hx6.size
                  omega
                have HLOW := Lib.hid hlow
                have d0 := hC.cell 0 _ rfl
                have d1 := hC.cell 1 _ rfl
                have d2 := hC.cell 2 _ rfl
                have d3 := hC.cell 3 _ rfl
                have d4 := hC.cell 4 _ rfl
                have d5 := hC.cell 5 _ rfl
                have d6 := hC.cell 6 _ rfl
                have d7 := hC.cell 7 _ rfl
                have d8 := hC.cell 8 _ rfl
                have d9 := hC.cell 9 _ rfl
                clear hWC hC hxC hrC ho6 ht6 hx6 HN hlow hl0 e9 hq1 hq2
                unfold ndA
                go_upto_region 19 with (fail)
                rw [HWC.out]
                clear HWC
                unfold ndA at HLD
                go_wp2_with (fail)
                refine HLD.out.mono ?_
                rintro e w7 ⟨u7, rfl, hu7, hp7, hk7, hf7⟩
                have HT7 := Lib.hid (TS.other HAP.out HUC.out HTC.out hk7)
                have HAP7 := Lib.hid (HAP.out.step HTC.out.tr hf7)
                have HO7 := Lib.hid (owns_kpT HOC.out hk7 (HUC.out.tr.noT (by decide)))
                have hC7 := HCC.out.kp hk7 (fun e => HLOW.out _ (.inr e) rfl)
                have HLA7 : Hid (LaidTo (pl t) (pl u7) (rotL L turn) (j + 1)) := by show LaidTo _ _ _ _; rw [hp7]; exact HNX.out
                have HU7 := Lib.hid hu7
                have HNM7 := Lib.hid (show NmS w7 (.slice a6 n.names.length c6) n.names from ⟨Sl.kp HNMC.out.1 hk7 (fun i hi _ hs => by
                  obtain ⟨cur, f, hc⟩ := own_type HO6.out hi
                  exact HUC.out.tr.noT (T := strT) (by decide) i hs cur f hc), HNMC.out.2⟩)
                have HLD2 := Lib.hid (by have := tsLoad hu7 HG0.out (by omega) p n (.slice a6 n.names.length c6) true HPS.out HNM7.out HNK.out HSM.out ⟨fun _ => HRR.out, fun _ => rfl⟩; rw [loadP_twice (m := n) (by rw [hp7, mget_mset, if_pos rfl])] at this; exact this)
                clear d0 d1 d2 d3 d4 d5 d6 d7 d8 d9
                have d0 := hC7.cell 0 _ rfl
                have d1 := hC7.cell 1 _ rfl
                have d2 := hC7.cell 2 _ rfl
                have d3 := hC7.cell 3 _ rfl
                have d4 := hC7.cell 4 _ rfl
                have d5 := hC7.cell 5 _ rfl
                have d6 := hC7.cell 6 _ rfl
                have d7 := hC7.cell 7 _ rfl
                have d8 := hC7.cell 8 _ rfl
                have d9 := hC7.cell 9 _ rfl
                clear hu7 hp7 hk7 hf7 hC7 HLD HU HT HAP HLA HOS HUC HTC HOC
                unfold ndA at HLD2
                go_wp2_with (fail)
                refine HLD2.out.mono ?_
                rintro e w8 ⟨u8, rfl, hu8, hp8, hk8, hf8⟩
                have HT8 := Lib.hid (TS.other HAP7.out HU7.out HT7.out hk8)
                have HAP8 := Lib.hid (HAP7.out.step HT7.out.tr hf8)
                have HO8 := Lib.hid (owns_kpT HO7.out hk8 (HU7.out.tr.noT (by decide)))
                have HLA8 : Hid (LaidTo (pl t) (pl u8) (rotL L turn) (j + 1)) := by show LaidTo _ _ _ _; rw [hp8]; exact HLA7.out
                have HU8 := Lib.hid hu8
                clear d0 d1 d2 d3 d4 d5 d6 d7 d8 d9 hu8 hp8 hk8 hf8 HLD2 HNM7 HU7 HLA7 HT7 HAP7 HO7
                go_wp2_with (fail)
                go_light
                refine ⟨⟨j + 1, u8, ?_, ?_, HT8.out, HU8.out, HAP8.out, HLA8.out, HO8.out⟩, ?_⟩
                · omega
                · go_num
                · simp [intOf]; omega
              · have hjl : j = (rotL L turn).length := by rw [rot_len]; omega
                have hsame := HLA.out.all hjl (fun q hq => (rot_perm L turn).mem_iff.2 (HIN.out q hq))
                have HSU : Hid (SoundP 60 (pl u)) := HGT.out.snd.same_get hsame (by have h1 := HLA.out.len; rw [h1, hjl, rot_len]; omega)
                have HEQ := Lib.hid (own_same HT.out.pk.1 HU.out.pk.1 (fun q => (hsame q).symm))
                have HO1 := Lib.hid (treeOwn_any HT.out HGT.out.snd (by omega) (by omega) 60)
                clear hjl hsame
                go_wp2_with (fail)
                refine HO1.out.mono ?_
                rintro e w5 ⟨g1, rfl, hr1, hx5⟩
                have HT5 := Lib.hid (HT.out.ext hx5)
                have HO2 := Lib.hid (treeOwn_any (HU.out.ext hx5) HSU.out (by omega) (by omega) 60)
                have HR1 := Lib.hid hr1
                clear hr1 hx5 HO1
                go_wp2_with (fail)
                refine HO2.out.mono ?_
                rintro e w6 ⟨g2, rfl, hr2, hx6⟩
                have HS := Lib.hid (sameTree_any _ _ _ _ _ _ _ _ w6 (HR1.out.ext hx6) hr2)
                rw [decide_eq_true HEQ.out] at HS
                have HT6 := Lib.hid (HT5.out.ext hx6)
                clear hr2 hx6 HO2
                go_wp2_with (fail)
                refine HS.out.mono ?_
                rintro e w7 ⟨rfl, hx7⟩
                have HX7 := Lib.hid (HX0.out.trans (HT6.out.ext hx7).ex)
                clear hx7
                go_wp2_with (fail)
                go_ret
                exact ⟨rfl, HX7.out⟩
      · have b3' : (100 : Int) < tn := by omega
        go_wp2_with (fail)
        go_ret
        exact ⟨rfl, HX0.out⟩
    · have b2' : tn < 0 := by omega
      go_wp2_with (fail)
      go_ret
      exact ⟨rfl, HX0.out⟩
  · have b1' : (30 : Int) < (xs.length : Int) := by omega
    go_wp2_with (fail)
    go_ret
    exact ⟨rfl, HX0.out⟩
end Go.Proofs.YtkpcmbgnaenbhaaGreatDoor
