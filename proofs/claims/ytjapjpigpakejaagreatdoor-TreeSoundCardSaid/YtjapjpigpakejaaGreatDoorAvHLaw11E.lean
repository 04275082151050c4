
/- Walks of package aviarylaw11: TreeSound (under way). -/
import Derived.Test.YtjapjpigpakejaaGreatDoorAvG32
import Derived.Test.YtjapjpigpakejaaGreatDoorAvG40
import Derived.Test.YtjapjpigpakejaaGreatDoorAvG27
namespace Go.Proofs.YtjapjpigpakejaaGreatDoor
set_option maxRecDepth 100000
open Go.RowKit Av

/-- A node's block, whatever it holds. -/
def Blk10 (w : World) (r : Nat) : Prop := ∃ x0 x1 x2 x3 x4 x5 x6 x7 x8 x9, Blk w r #[x0, x1, x2, x3, x4, x5, x6, x7, x8, x9] ndT
theorem Blk10.ext {w w' : World} {r : Nat} (h : Blk10 w r) (k : Ext w w') : Blk10 w' r := by
  obtain ⟨x0, x1, x2, x3, x4, x5, x6, x7, x8, x9, h⟩ := h
  exact ⟨x0, x1, x2, x3, x4, x5, x6, x7, x8, x9, h.kp k (fun f => f)⟩
theorem Blk10.new (w : World) : Blk10 (w.alloc (.cells ndZA ndT)) w.heap.size := ⟨_, _, _, _, _, _, _, _, _, _, heap_alloc_new w _⟩
theorem Blk10.put {w : World} {r : Nat} (h : Blk10 w r) (u0 u1 u2 u3 u4 u5 u6 u7 u8 u9 : Value) : Blk10 (set10 w r u0 u1 u2 u3 u4 u5 u6 u7 u8 u9) r := by
  have one : ∀ {w : World} (i : Nat) (u : Value), i < 10 → Blk10 w r → Blk10 (w.setCell ⟨r, i, none⟩ u) r := by
    intro w i u hi h
    obtain ⟨x0, x1, x2, x3, x4, x5, x6, x7, x8, x9, h⟩ := h
    have h2 := h.set i u
    match i, hi with
    | 0, _ => exact ⟨_, _, _, _, _, _, _, _, _, _, h2⟩
    | 1, _ => exact ⟨_, _, _, _, _, _, _, _, _, _, h2⟩
    | 2, _ => exact ⟨_, _, _, _, _, _, _, _, _, _, h2⟩
    | 3, _ => exact ⟨_, _, _, _, _, _, _, _, _, _, h2⟩
    | 4, _ => exact ⟨_, _, _, _, _, _, _, _, _, _, h2⟩
    | 5, _ => exact ⟨_, _, _, _, _, _, _, _, _, _, h2⟩
    | 6, _ => exact ⟨_, _, _, _, _, _, _, _, _, _, h2⟩
    | 7, _ => exact ⟨_, _, _, _, _, _, _, _, _, _, h2⟩
    | 8, _ => exact ⟨_, _, _, _, _, _, _, _, _, _, h2⟩
    | 9, _ => exact ⟨_, _, _, _, _, _, _, _, _, _, h2⟩
  exact one 9 u9 (by decide) (one 8 u8 (by decide) (one 7 u7 (by decide) (one 6 u6 (by decide) (one 5 u5 (by decide) (one 4 u4 (by decide) (one 3 u3 (by decide) (one 2 u2 (by decide) (one 1 u1 (by decide) (one 0 u0 (by decide) h)))))))))
theorem Blk10.putAny {w : World} {r : Nat} (h : Blk10 w r) (q : Nat) (u0 u1 u2 u3 u4 u5 u6 u7 u8 u9 : Value) : Blk10 (set10 w q u0 u1 u2 u3 u4 u5 u6 u7 u8 u9) r := by
  by_cases e : r = q
  · subst e
    exact h.put u0 u1 u2 u3 u4 u5 u6 u7 u8 u9
  · obtain ⟨x0, x1, x2, x3, x4, x5, x6, x7, x8, x9, h⟩ := h
    exact ⟨x0, x1, x2, x3, x4, x5, x6, x7, x8, x9, h.kp (kp_set10 w q u0 u1 u2 u3 u4 u5 u6 u7 u8 u9) e⟩
set_option maxHeartbeats 40000000 in
theorem treeSound_any (room : Int) (v : Value) (xs : List ActN) (w : World) (hG : GT w) (ha : ActsN w v xs) : Calls Tryz.prog 3 #[.int .i64 room, v] w fun e w' => e = .returned (.bool true) ∧ Ext w w' := by
  obtain ⟨ad, c, rfl, hm, hop⟩ := ha.open
  have HOP := Lib.hid hop
  have HOK := Lib.hid ha.2
  have HG := Lib.hid hG
  unfold maxLen at hm
  clear hG ha hop
  by_cases hbig : room < 1 ∨ 40 < room ∨ 60 < xs.length
  · go_enter Tryz.func3, Tryz.ntmps3
    go_wp2_with (fail)
    refine (awake_any w HG.out).mono ?_
    rintro e w0 ⟨rfl, hx0⟩
    by_cases h1 : room < 1
    · go_wp2_with (fail)
      go_ret
      exact ⟨rfl, hx0⟩
    · by_cases h2 : 40 < room
      · go_wp2_with (fail)
        go_ret
        exact ⟨rfl, hx0⟩
      · have h3 : (60 : Int) < (xs.length : Int) := by omega
        go_wp2_with (fail)
        go_ret
        exact ⟨rfl, hx0⟩
  · have b1 : ¬ room < 1 := by omega
    have b2 : ¬ 40 < room := by omega
    have b3 : ¬ (60 : Int) < (xs.length : Int) := by omega
    have b4 : xs.length ≤ 60 := by omega
    clear hbig
    go_enter Tryz.func3, Tryz.ntmps3
    go_wp2_with (fail)
    refine (awake_any w HG.out).mono ?_
    rintro e w0 ⟨rfl, hx0⟩
    have HX0 := Lib.hid hx0
    have HG0 := Lib.hid (HG.out.ext hx0)
    clear hx0 HG
    go_wp2_with (fail)
    refine (tsNew room w0 w0 (Kp.refl _ _) (by omega) (by omega)).mono ?_
    rintro e w1 ⟨b, m, rfl, h1, hx1, _, _⟩
    have H1 := Lib.hid h1
    clear h1 hx1
    go_wp2_with (fail)
    go_loopw [7] (fun s7 wr => ActRel w0 room xs b m s7 wr) (fun s7 _ => xs.length - (intOf s7).toNat)
    case atStart => exact ⟨0, [], Nat.zero_le _, rfl, H1.out, GoodT.nil (by omega) _⟩
    case round =>
      clear H1
      obtain ⟨i, t, hi, rfl, hts, hgt⟩ := hrel
      have HT := Lib.hid hts
      have HGT := Lib.hid hgt
      have HSD := Lib.hid hgt.snd
      clear hts hgt
      by_cases hlt : i < xs.length
      · as_aux_lemma =>
        obtain ⟨g, off, rfl, hg, hcl⟩ := HOP.out (by omega)
        have hxr := HX0.out.trans HT.out.ex
        obtain ⟨a, haa⟩ : ∃ a, xs[i] = a := ⟨_, rfl⟩
        have HOKA : Hid (ActOk w a) := by show ActOk _ _; rw [← haa]; exact HOK.out _ (List.getElem_mem hlt)
        have HMEM : Hid (a.sess ∈ xs.map (·.sess)) := by show _ ∈ _; rw [← haa]; exact List.mem_map.2 ⟨_, List.getElem_mem hlt, rfl⟩
        have HC : Hid (∀ j u, j < 18 → a.cells[j]? = some u → wr.cell? ⟨g, off + i * 18 + j, none⟩ = some u) := fun j u hj hu => hxr.cell (hcl i hlt j u hj (by rw [haa]; exact hu)) (fun f => f)
        clear hcl haa
        have HHV := Lib.hid (fun W (hx : Ext w W) => heavy_any a W ⟨HOKA.out.path, HOKA.out.data, HOKA.out.ndata, ⟨Sl.ext HOKA.out.names.1 hx, HOKA.out.names.2⟩, HOKA.out.nsize, HOKA.out.i64, HOKA.out.n64⟩)
        obtain ⟨op, ⟨k, p, d, v, f⟩, sess, z, n, nv⟩ := a
        unfold ActN.cells at HHV HC
        simp only at HHV HC HMEM
        have c0 := HC.out 0 _ (by decide) rfl
        have c1 := HC.out 1 _ (by decide) rfl
        have c2 := HC.out 2 _ (by decide) rfl
        have c3 := HC.out 3 _ (by decide) rfl
        have c4 := HC.out 4 _ (by decide) rfl
        have c5 := HC.out 5 _ (by decide) rfl
        have c6 := HC.out 6 _ (by decide) rfl
        have c7 := HC.out 7 _ (by decide) rfl
        have c8 := HC.out 8 _ (by decide) rfl
        have c9 := HC.out 9 _ (by decide) rfl
        have c10 := HC.out 10 _ (by decide) rfl
        have c11 := HC.out 11 _ (by decide) rfl
        have c12 := HC.out 12 _ (by decide) rfl
        have c13 := HC.out 13 _ (by decide) rfl
        have c14 := HC.out 14 _ (by decide) rfl
        have c15 := HC.out 15 _ (by decide) rfl
        have c16 := HC.out 16 _ (by decide) rfl
        have c17 := HC.out 17 _ (by decide) rfl
        simp only [Nat.add_zero] at c0
        have HXR := Lib.hid hxr
        clear hxr
        go_wp2_with (fail)
        refine (HHV.out _ HXR.out).mono ?_
        rintro e w2 ⟨r, rfl, hr, hx2⟩
        have HX2 := Lib.hid hx2
        have HR := Lib.hid hr
        have HC2 : Hid (∀ W, Ext w2 W → ∀ j u, j < 18 → [Value.int .i64 op, .int .i64 k, .string p, .string d, .int .i64 v, .int .i64 f, .int .i64 sess, .int .i64 z][j]? = some u → W.cell? ⟨g, off + i * 18 + j, none⟩ = some u) := fun W hW j u hj hu => (hx2.trans hW).cell (HC.out j u hj (by
          have hj8 : j < 8 := by have := (List.getElem?_eq_some_iff.1 hu).1; simpa using this
          rw [← hu]
          match j, hj8 with
          | 0, _ => rfl
          | 1, _ => rfl
          | 2, _ => rfl
          | 3, _ => rfl
          | 4, _ => rfl
          | 5, _ => rfl
          | 6, _ => rfl
          | 7, _ => rfl)) (fun f => f)
        clear hx2 hr c0 c1 c2 c3 c4 c5 c6 c7 c8 c9 c10 c11 c12 c13 c14 c15 c16 c17 HHV HC
        cases r with
        | true =>
          go_wp2_with (fail)
          go_ret
          exact ⟨rfl, HXR.out.trans HX2.out⟩
        | false =>
          as_aux_lemma =>
          have HLT := Lib.hid (HR.out rfl)
          go_upto_region 11 with (fail)
          refine' wp_region_dagK 16 [] ((48, .val _) :: (49, .val _) :: (50, .val _) :: (51, .val _) :: (52, .val _) :: (53, .val _) :: (54, .val _) :: (55, .val _) :: (56, .val _) :: (57, .val _) :: (58, .val _) :: (59, .val _) :: (60, .val _) :: (61, .val _) :: (62, .val _) :: (63, .val _) :: []) (by exact ⟨fun _ _ _ _ _ => trivial, ⟨fun _ _ _ _ _ => trivial, ⟨fun _ _ _ _ _ => trivial, ⟨fun _ _ _ _ _ => trivial, ⟨fun _ _ _ _ _ => trivial, ⟨fun _ _ _ _ _ => trivial, ⟨fun _ _ _ _ _ => trivial, ⟨fun _ _ _ _ _ => trivial, ⟨fun _ _ _ _ _ => trivial, ⟨fun _ _ _ _ _ => trivial, ⟨fun _ _ _ _ _ => trivial, ⟨fun _ _ _ _ _ => trivial, ⟨fun _ _ _ _ _ => trivial, ⟨fun _ _ _ _ _ => trivial, ⟨fun _ _ _ _ _ => trivial, ⟨fun _ _ _ _ _ => trivial, trivial⟩⟩⟩⟩⟩⟩⟩⟩⟩⟩⟩⟩⟩⟩⟩⟩) (by kernel_rfl) (by kernel_rfl) (by kernel_rfl) ?_
          rotate_left 16
          simp only [List.take_succ_cons, List.take_zero]
          repeat (first
            | (refine wpD_skipv ?_ ?_ ?_
               focus rfl
               focus rfl
               simp only [Act.put, List.setIfInBounds_toArray, List.set_cons_succ, List.set_cons_zero])
            | (refine' wpD_val (c := _) ?_ (fun w => Kp.refl _ w) ?_ (fun wq hwq hfq => ?_) ?_
               rotate_left
               focus rfl
               focus rfl
               focus ((have hext : Ext w2 wq := hwq.mono (fun i hi e => by omega); have c1 := HC2.out _ hext 1 _ (by decide) rfl; have c2 := HC2.out _ hext 2 _ (by decide) rfl; have c3 := HC2.out _ hext 3 _ (by decide) rfl; have c4 := HC2.out _ hext 4 _ (by decide) rfl; have c5 := HC2.out _ hext 5 _ (by decide) rfl; have c6 := HC2.out _ hext 6 _ (by decide) rfl; have c7 := HC2.out _ hext 7 _ (by decide) rfl); go_simp; first | done | rfl)
               simp only [Act.put, List.setIfInBounds_toArray, List.set_cons_succ, List.set_cons_zero])
            | (refine' wpD_con (c := _) ?_ ?_ (fun wq hwq hfq => ?_) ?_
               rotate_left
               focus rfl
               focus rfl
               focus ((have hext : Ext w2 wq := hwq.mono (fun i hi e => by omega); have c1 := HC2.out _ hext 1 _ (by decide) rfl; have c2 := HC2.out _ hext 2 _ (by decide) rfl; have c3 := HC2.out _ hext 3 _ (by decide) rfl; have c4 := HC2.out _ hext 4 _ (by decide) rfl; have c5 := HC2.out _ hext 5 _ (by decide) rfl; have c6 := HC2.out _ hext 6 _ (by decide) rfl; have c7 := HC2.out _ hext 7 _ (by decide) rfl); go_simp; (try (rw [dUpon_enter])); fail)
               simp only [Act.put, List.setIfInBounds_toArray, List.set_cons_succ, List.set_cons_zero])
            | fail)
          refine wpD_nil ?_
          intro w3 hx3 hend
          clear hend
          have hx3' : Ext w2 w3 := hx3.mono (fun i hi e => by omega)
          have hTS := HT.out.ext (HX2.out.trans hx3')
          have HD := Lib.hid (tsDo hTS HG0.out (by omega) ⟨k, p, d, v, f⟩ sess z (by have := HLT.out.path; simp only at this ⊢; omega) (by have := HLT.out.data; simp only at this ⊢; omega))
          have HTS := Lib.hid hTS
          clear hx3 hx3' hTS
          as_aux_lemma =>
          go_wp2_with (fail)
          refine HD.out.mono ?_
          intro e w4 hd
          have HDN := Lib.hid hd
          obtain ⟨t', nv', rfl, _⟩ := hd
          go_wp2_with (fail)
          go_light
          refine ⟨acts_step HGT.out HTS.out hlt (a := ⟨op, ⟨k, p, d, v, f⟩, sess, z, n, nv⟩) HMEM.out ?_ HDN.out, ?_⟩
          · go_num
          · simp [intOf]; omega
      · have hP := tsPaths HT.out HSD.out (by omega)
        have hTM : ∀ x ∈ pathsP (pl t), ∃ n, mget (pl t) ⟨x.toArray⟩ = some n := fun x hx => Option.ne_none_iff_exists'.1 (paths_mem.1 hx)
        have hLN : (pathsP (pl t)).length = (pl t).length := pathsP_len _
        have HM := Lib.hid hTM
        have HLN := Lib.hid hLN
        have HP := Lib.hid hP
        have HK : Hid (xs.length ≤ 60) := b4
        clear hTM hLN hP
        generalize pathsP (pl t) = L at HM HLN HP
        have hL : L.length ≤ 40 := by have := HLN.out; have := HSD.out.size; omega
        clear HOP HOK HGT b1 b2 b3
        go_wp2_with (fail)
        refine HP.out.mono ?_
        rintro e w5 ⟨v5, rfl, ho5, hx5⟩
        obtain ⟨a5, c5, hsl, hop5⟩ : ∃ a c, v5 = .slice a L.length c ∧ (0 < L.length → ∃ g off, a = some ⟨g, off, none⟩ ∧ ∀ k (hk : k < L.length), w5.cell? ⟨g, off + k, none⟩ = some (encStr L[k])) := strs_open ho5
        subst hsl
        have HOP5 := Lib.hid hop5
        have HT5 := Lib.hid (HT.out.ext hx5)
        clear ho5 hx5 hop5 HP HT
        go_wp2_with (fail)
        go_loopw [9] (fun s9 wr => SndRel L.length w5 s9 wr) (fun s9 _ => L.length - (intOf s9).toNat)
        case atStart => exact ⟨0, Nat.zero_le _, rfl, Kp.refl _ _⟩
        case round =>
          obtain ⟨j, hj, rfl, hxr⟩ := hrel
          have HXR := Lib.hid hxr
          clear hxr
          by_cases hlt : j < L.length
          · obtain ⟨g5, off5, rfl, hcl⟩ := HOP5.out (by omega)
            have hc := HXR.out.cell (hcl j hlt) (fun f => f)
            obtain ⟨n, hn⟩ := HM.out L[j] (List.getElem_mem hlt)
            obtain ⟨x, hx⟩ : ∃ x, L[j] = x := ⟨_, rfl⟩
            rw [hx] at hc hn
            obtain ⟨p, hp⟩ : ∃ p : ByteArray, ⟨x.toArray⟩ = p := ⟨_, rfl⟩
            unfold encStr at hc
            rw [hp] at hc hn
            have hnode : nodeP (pl t) p = (n, true) := by unfold nodeP; rw [hn]
            have HN := Lib.hid (by have := tsNode (HT5.out.ext HXR.out) (by omega) p; rw [hnode] at this; exact this)
            have HSP := Lib.hid (sound_at HSD.out hn)
            have hnl : n.names.length ≤ 60 := Nat.le_trans ((HT5.out.pk.2 _ (mget_mem hn)).few) (by omega)
            clear hnode hcl hn hx hp
            go_wp2_with (fail)
            refine HN.out.mono ?_
            rintro e w6 ⟨nv6, rfl, ho6, ht6, hx6⟩
            obtain ⟨a6, c6, hsl6, hop6⟩ := strs_open ho6
            subst hsl6
            obtain ⟨wC, hWC⟩ : ∃ wC, w6.alloc (.cells #[.int .i64 n.made, .int .i64 n.chg, .int .i64 n.ver, .int .i64 n.kids, .int .i64 n.own, .int .i64 n.len, .int .i64 n.cnt, .string n.data, .int .i64 n.next, .slice a6 n.names.length c6] ndT) = wC := ⟨_, rfl⟩
            have hxC : Ext w6 wC := by rw [← hWC]; exact (Kp.refl _ _).alloc _
            have hC : Blk wC w6.heap.size (ndA n (.slice a6 n.names.length c6)) ndT := by rw [← hWC]; exact heap_alloc_new w6 _
            have n6 : wC.cell? ⟨w6.heap.size, 6, none⟩ = some (.int .i64 n.cnt) := hC.cell 6 _ rfl
            have n9 : wC.cell? ⟨w6.heap.size, 9, none⟩ = some (.slice a6 n.names.length c6) := hC.cell 9 _ rfl
            have HND : Hid (NdAt wC w6.heap.size n) := ⟨_, hC, own_less (ownsRow.ext ho6 hxC) (Nat.zero_le _)⟩
            have HOP6 : Hid (0 < n.names.length → ∃ g off, a6 = some ⟨g, off, none⟩ ∧ ∀ k (hk : k < n.names.length), wC.cell? ⟨g, off + k, none⟩ = some (encStr n.names[k])) := fun h0 => by
              obtain ⟨g, off, e1, e2⟩ := hop6 h0
              exact ⟨g, off, e1, fun k hk => hxC.cell (e2 k hk) (fun f => f)⟩
            have HCP := Lib.hid ((hx6.trans hxC).cell hc (fun f => f))
            have HTC := Lib.hid (ht6.ext hxC)
            have HXC := Lib.hid (HXR.out.trans (hx6.trans hxC))
            have HWC := Lib.hid hWC
            have hcnt := HSP.out.cnt
            clear hWC hC hxC ht6 hx6 ho6 hop6 HN hc
            unfold ndA
            rw [hcnt] at n6
            clear hcnt
            go_upto_region 17 with (fail)
            rw [HWC.out]
            by_cases ho : n.own = 0
            · have b5 : (n.own != 0) = false := by rw [ho]; rfl
              have HE := Lib.hid (by have := ephemeral_any w6.heap.size n wC HND.out; rw [b5] at this; exact this)
              clear b5
              go_wp2_with (fail)
              refine HE.out.mono ?_
              rintro e w7 ⟨rfl, rfl⟩
              go_wp2_with (fail)
              go_loopw [12] (fun s12 wr => SndRel n.names.length wC s12 wr) (fun s12 _ => n.names.length - (intOf s12).toNat)
              case atStart => exact ⟨0, Nat.zero_le _, rfl, Kp.refl _ _⟩
              case round =>
                obtain ⟨k, hk, rfl, hxk⟩ := hrel
                have HXK := Lib.hid hxk
                have N9 := Lib.hid (hxk.cell n9 (fun f => f))
                have HCK := Lib.hid (hxk.cell HCP.out (fun f => f))
                have HTK := Lib.hid (HTC.out.ext hxk)
                clear hxk n9 n6
                by_cases hkl : k < n.names.length
                · obtain ⟨g6, off6, rfl, hcn⟩ := HOP6.out (by omega)
                  have hcy := HXK.out.cell (hcn k hkl) (fun f => f)
                  obtain ⟨y, hy⟩ : ∃ y, n.names[k] = y := ⟨_, rfl⟩
                  rw [hy] at hcy
                  obtain ⟨nk, hnk⟩ := HSP.out.kid y (by rw [← hy]; exact List.getElem_mem hkl)
                  have hys := HSP.out.small y (by rw [← hy]; exact List.getElem_mem hkl)
                  have hps := HSP.out.size
                  obtain ⟨ad1, ad2⟩ := child_add (y := y) hps hys
                  have HAD := Lib.hid (And.intro ad1 ad2)
                  have hnode : nodeP (pl t) (childB p y) = (nk, true) := by unfold nodeP; rw [hnk]
                  generalize childB p y = q at HAD hnode
                  have HNK := Lib.hid (fun W (hx : Ext wr W) => by have := tsNode (HTK.out.ext hx) (by omega) q; rw [hnode] at this; exact this)
                  unfold encStr at hcy
                  obtain ⟨yb, hyb⟩ : ∃ yb : ByteArray, ⟨y.toArray⟩ = yb := ⟨_, rfl⟩
                  rw [hyb] at hcy HAD
                  obtain ⟨pm, hpm⟩ : ∃ pm : ByteArray, ⟨(p.data.toList ++ [47]).toArray⟩ = pm := ⟨_, rfl⟩
                  rw [hpm] at HAD
                  have HCY := Lib.hid hcy
                  have n9 := N9.out
                  clear hy hyb hpm hnk hys hps ad1 ad2 hnode hcn hcy
                  go_upto_region 22 with (fail)
                  clear n9
                  refine' wp_region_dagK 19 [] ((110, .val _) :: (111, .val _) :: (112, .val _) :: (113, .val _) :: (114, .val _) :: (115, .val _) :: (116, .val _) :: (117, .val _) :: (118, .val _) :: (119, .val _) :: (120, .val _) :: (121, .val _) :: (122, ⟨fun v => ∃ a c, v = .tuple #[.agg (ndA nk (.slice a nk.names.length c)), .bool true], fun _ _ => True⟩) :: (109, ⟨fun v => ∃ a c, v = .tuple #[.agg (ndA nk (.slice a nk.names.length c)), .bool true], fun _ _ => True⟩) :: (123, ⟨fun v => ∃ a c, v = .agg (ndA nk (.slice a nk.names.length c)), fun _ _ => True⟩) :: (124, .val _) :: (13, ⟨fun v => ∃ r, v = .pointer (some ⟨r, 0, none⟩), fun v w => ∃ r, v = .pointer (some ⟨r, 0, none⟩) ∧ wr.heap.size ≤ r ∧ Blk10 w r⟩) :: (14, .val _) :: []) (by exact ⟨fun _ _ _ _ _ => trivial, ⟨fun _ _ _ _ _ => trivial, ⟨fun _ _ _ _ _ => trivial, ⟨fun _ _ _ _ _ => trivial, ⟨fun _ _ _ _ _ => trivial, ⟨fun _ _ _ _ _ => trivial, ⟨fun _ _ _ _ _ => trivial, ⟨fun _ _ _ _ _ => trivial, ⟨fun _ _ _ _ _ => trivial, ⟨fun _ _ _ _ _ => trivial, ⟨fun _ _ _ _ _ => trivial, ⟨fun _ _ _ _ _ => trivial, ⟨fun _ _ _ _ _ => trivial, ⟨fun _ _ _ _ _ => trivial, ⟨fun _ _ _ _ _ => trivial, ⟨fun _ _ _ _ _ => trivial, ⟨fun _ _ _ hr ⟨r, h1, h2, h3⟩ => ⟨r, h1, h2, h3.ext hr⟩, ⟨fun _ _ _ _ _ => trivial, trivial⟩⟩⟩⟩⟩⟩⟩⟩⟩⟩⟩⟩⟩⟩⟩⟩⟩⟩) (by kernel_rfl) (by kernel_rfl) (by kernel_rfl) ?_
                  rotate_left 14
                  simp only [List.take_succ_cons, List.take_zero]
                  repeat (first
                    | (refine wpD_skipv ?_ ?_ ?_
                       focus rfl
                       focus rfl
                       simp only [Act.put, List.setIfInBounds_toArray, List.set_cons_succ, List.set_cons_zero])
                    | (refine' wpD_val (c := _) ?_ (fun w => Kp.refl _ w) ?_ (fun wq hwq hfq => ?_) ?_
                       rotate_left
                       focus rfl
                       focus rfl
                       focus ((have hext : Ext wr wq := hwq.mono (fun i hi e => by omega); have c1 := hext.cell HCK.out (fun f => f); have c2 := hext.cell N9.out (fun f => f); have c3 := hext.cell HCY.out (fun f => f); have e1 := HAD.out.1; have e2 := HAD.out.2); go_simp; first | done | rfl)
                       simp only [Act.put, List.setIfInBounds_toArray, List.set_cons_succ, List.set_cons_zero])
                    | (refine' wpD_con (c := _) ?_ ?_ (fun wq hwq hfq => ?_) ?_
                       rotate_left
                       focus rfl
                       focus rfl
                       focus ((have hext : Ext wr wq := hwq.mono (fun i hi e => by omega); have c1 := hext.cell HCK.out (fun f => f); have c2 := hext.cell N9.out (fun f => f); have c3 := hext.cell HCY.out (fun f => f); have e1 := HAD.out.1; have e2 := HAD.out.2); go_simp; (try (rw [dUpon_enter])); fail)
                       simp only [Act.put, List.setIfInBounds_toArray, List.set_cons_succ, List.set_cons_zero])
                    | (refine wpD_made (A := fun v => ∃ a c, v = .tuple #[.agg (ndA nk (.slice a nk.names.length c)), .bool true]) (V := fun _ _ => True) 122 ?_ ?_ ?_ ?_ (fun wq hwq hfq => ?_) (fun v122 h122 => ?_)
                       focus rfl
                       focus rfl
                       focus (exact ⟨_, none, 0, rfl⟩)
                       focus rfl
                       focus ((have hext : Ext wr wq := hwq.mono (fun i hi e => by omega); have c1 := hext.cell HCK.out (fun f => f); have c2 := hext.cell N9.out (fun f => f); have c3 := hext.cell HCY.out (fun f => f); have e1 := HAD.out.1; have e2 := HAD.out.2); go_simp; (try (rw [dUpon_enter])); (with_reducible refine (HNK.out _ hext).mono ?_); rintro e w' ⟨nv, rfl, ho, hT, hx⟩; obtain ⟨a, c, rfl⟩ := owns_slice ho; exact DEnd.made ⟨a, c, rfl⟩ trivial hx)
                       obtain ⟨a122, c122, rfl⟩ := h122
                       simp only [Act.put, List.setIfInBounds_toArray, List.set_cons_succ, List.set_cons_zero])
                    | (refine wpD_made (A := fun v => ∃ a c, v = .tuple #[.agg (ndA nk (.slice a nk.names.length c)), .bool true]) (V := fun _ _ => True) 109 ?_ ?_ ?_ ?_ (fun wq hwq hfq => ?_) (fun v109 h109 => ?_)
                       focus rfl
                       focus rfl
                       focus (exact ⟨_, none, 0, rfl⟩)
                       focus rfl
                       focus ((have hext : Ext wr wq := hwq.mono (fun i hi e => by omega); have c1 := hext.cell HCK.out (fun f => f); have c2 := hext.cell N9.out (fun f => f); have c3 := hext.cell HCY.out (fun f => f); have e1 := HAD.out.1; have e2 := HAD.out.2); go_simp; (try (rw [dUpon_enter])); rw [dUpon_value]; exact mPost ⟨_, _, rfl⟩ trivial (Kp.refl _ _))
                       obtain ⟨a109, c109, rfl⟩ := h109
                       simp only [Act.put, List.setIfInBounds_toArray, List.set_cons_succ, List.set_cons_zero])
                    | (refine wpD_made (A := fun v => ∃ a c, v = .agg (ndA nk (.slice a nk.names.length c))) (V := fun _ _ => True) 123 ?_ ?_ ?_ ?_ (fun wq hwq hfq => ?_) (fun v123 h123 => ?_)
                       focus rfl
                       focus rfl
                       focus (exact ⟨_, none, 0, rfl⟩)
                       focus rfl
                       focus ((have hext : Ext wr wq := hwq.mono (fun i hi e => by omega); have c1 := hext.cell HCK.out (fun f => f); have c2 := hext.cell N9.out (fun f => f); have c3 := hext.cell HCY.out (fun f => f); have e1 := HAD.out.1; have e2 := HAD.out.2); go_simp; (try (rw [dUpon_enter])); rw [dUpon_value]; exact mPost ⟨_, _, rfl⟩ trivial (Kp.refl _ _))
                       obtain ⟨a123, c123, rfl⟩ := h123
                       simp only [Act.put, List.setIfInBounds_toArray, List.set_cons_succ, List.set_cons_zero])
                    | (refine wpD_made (A := fun v => ∃ r, v = .pointer (some ⟨r, 0, none⟩)) (V := fun v w => ∃ r, v = .pointer (some ⟨r, 0, none⟩) ∧ wr.heap.size ≤ r ∧ Blk10 w r) 13 ?_ ?_ ?_ ?_ (fun wq hwq hfq => ?_) (fun v13 h13 => ?_)
                       focus rfl
                       focus rfl
                       focus (exact ⟨.pointer (some ⟨0, 0, none⟩), 0, rfl⟩)
                       focus rfl
                       focus ((have hext : Ext wr wq := hwq.mono (fun i hi e => by omega); have c1 := hext.cell HCK.out (fun f => f); have c2 := hext.cell N9.out (fun f => f); have c3 := hext.cell HCY.out (fun f => f); have e1 := HAD.out.1; have e2 := HAD.out.2); go_simp; (try (rw [dUpon_enter])); rw [dUpon_value]; exact mPost ⟨_, rfl⟩ ⟨_, rfl, hwq.size, Blk10.new _⟩ ((Kp.refl _ _).alloc _))
                       obtain ⟨r13, rfl⟩ := h13
                       simp only [Act.put, List.setIfInBounds_toArray, List.set_cons_succ, List.set_cons_zero])
                    | (refine wpD_put rfl ?_ (fun wq hwq hfq => ?_) ?_
                       focus rfl
                       focus ((have hext : Ext wr wq := hwq.mono (fun i hi e => by omega); have c1 := hext.cell HCK.out (fun f => f); have c2 := hext.cell N9.out (fun f => f); have c3 := hext.cell HCY.out (fun f => f); have e1 := HAD.out.1; have e2 := HAD.out.2); obtain ⟨rr, hr6, hr, x0, x1, x2, x3, x4, x5, x6, x7, x8, x9, hb6⟩ := (show ∃ r, Value.pointer (some ⟨r13, 0, none⟩) = .pointer (some ⟨r, 0, none⟩) ∧ wr.heap.size ≤ r ∧ Blk10 wq r from hfq 13 rfl); obtain rfl : r13 = rr := (by simpa using hr6); have z0 := hb6.cell 0 _ rfl; have z1 := hb6.cell 1 _ rfl; have z2 := hb6.cell 2 _ rfl; have z3 := hb6.cell 3 _ rfl; have z4 := hb6.cell 4 _ rfl; have z5 := hb6.cell 5 _ rfl; have z6 := hb6.cell 6 _ rfl; have z7 := hb6.cell 7 _ rfl; have z8 := hb6.cell 8 _ rfl; have z9 := hb6.cell 9 _ rfl; have f0 := hb6.free 0; have f1 := hb6.free 1; have f2 := hb6.free 2; have f3 := hb6.free 3; have f4 := hb6.free 4; have f5 := hb6.free 5; have f6 := hb6.free 6; have f7 := hb6.free 7; have f8 := hb6.free 8; have f9 := hb6.free 9; unfold ndA; go_simp; (first | rw [dUpon_value] | skip); refine ⟨(kp_set10 wq r13 _ _ _ _ _ _ _ _ _ _).mono (fun i _ e => by rw [show i = r13 from e]; exact hr), ?_⟩; repeat (first | exact PresL.nil | (with_reducible refine PresL.val ?_) | (refine PresL.keep (fun _ _ => trivial) ?_) | (refine PresL.keep (fun _ ⟨r, q1, q2, q3⟩ => ⟨r, q1, q2, q3.putAny r13 _ _ _ _ _ _ _ _ _ _⟩) ?_))))
                    | fail)
                  refine wpD_nil ?_
                  intro w8 hx8 hend
                  clear hend
                  have hx8' : Ext wr w8 := hx8.mono (fun i hi e => by omega)
                  have HXR9 := Lib.hid (HXK.out.trans hx8')
                  clear hx8 hx8'
                  go_wp2_with (fail)
                  go_light
                  refine ⟨⟨k + 1, ?_, ?_, HXR9.out⟩, ?_⟩
                  · omega
                  · go_num
                  · simp [intOf]; omega
                · have HPA := Lib.hid (refParent_any p wr (by have := HSP.out.size; unfold maxLen; omega))
                  have n9 := N9.out
                  have hck := HCK.out
                  cases hpar : parentL p.data.toList with
                  | none =>
                    rw [hpar] at HPA
                    clear hpar
                    go_wp2_with (fail)
                    refine HPA.out.mono ?_
                    rintro e w9 ⟨rfl, hx9⟩
                    have HX9 := Lib.hid hx9
                    clear hx9
                    go_wp2_with (fail)
                    go_light
                    refine ⟨⟨j + 1, ?_, ?_, ?_⟩, ?_⟩
                    · omega
                    · go_num
                    · exact HXC.out.trans (HXK.out.trans HX9.out)
                    · simp [intOf]; omega
                  | some up =>
                    rw [hpar] at HPA
                    obtain ⟨mn, hmn, hm0, hml⟩ := HSP.out.par up hpar
                    have hnode : nodeP (pl t) (optS (some up)) = (mn, true) := by rw [show optS (some up) = ⟨up.toArray⟩ from rfl]; unfold nodeP; rw [hmn]
                    have HPS := Lib.hid HSP.out.size
                    have HML := Lib.hid hml
                    have HM0 := Lib.hid hm0
                    clear hpar hml hmn hm0
                    obtain ⟨ub, hub⟩ : ∃ ub : ByteArray, optS (some up) = ub := ⟨_, rfl⟩
                    rw [hub] at HPA hnode
                    clear hub
                    go_wp2_with (fail)
                    refine HPA.out.mono ?_
                    rintro e w9 ⟨rfl, hx9⟩
                    have HX9 := Lib.hid hx9
                    have HN2 := Lib.hid (by have := tsNode (HTK.out.ext hx9) (by omega) ub; rw [hnode] at this; exact this)
                    have HCK9 := Lib.hid (hx9.cell hck (fun f => f))
                    clear hx9 hnode hck n9
                    go_wp2_with (fail)
                    refine HN2.out.mono ?_
                    rintro e wD ⟨nvD, rfl, hoD, htD, hxD⟩
                    obtain ⟨aD, cD, rfl⟩ := owns_slice hoD
                    obtain ⟨wE, hWE⟩ : ∃ wE, wD.alloc (.cells #[.int .i64 mn.made, .int .i64 mn.chg, .int .i64 mn.ver, .int .i64 mn.kids, .int .i64 mn.own, .int .i64 mn.len, .int .i64 mn.cnt, .string mn.data, .int .i64 mn.next, .slice aD mn.names.length cD] ndT) = wE := ⟨_, rfl⟩
                    have hxE : Ext wD wE := by rw [← hWE]; exact (Kp.refl _ _).alloc _
                    have hE : Blk wE wD.heap.size (ndA mn (.slice aD mn.names.length cD)) ndT := by rw [← hWE]; exact heap_alloc_new wD _
                    have HE9 := Lib.hid (show wE.cell? ⟨wD.heap.size, 9, none⟩ = some (.slice aD mn.names.length cD) from hE.cell 9 _ rfl)
                    have HNDE : Hid (NdAt wE wD.heap.size mn) := ⟨_, hE, own_less (ownsRow.ext hoD hxE) (Nat.zero_le _)⟩
                    have HNM := Lib.hid (names_own (ownsRow.ext hoD hxE))
                    have HEP : Hid (∀ W, Ext wE W → Calls Tryz.prog 15 #[.pointer (some ⟨wD.heap.size, 0, none⟩)] W fun e w' => e = .returned (.bool false) ∧ W = w') := fun W hx => by
                      have := ephemeral_any wD.heap.size mn W (HNDE.out.ext hx)
                      rw [show (mn.own != 0) = false by rw [HM0.out]; rfl] at this
                      exact this
                    have HNA := Lib.hid (fun W => refName_any p W (by have := HPS.out; unfold maxLen; omega))
                    have HHAS : Hid (∀ W, Ext wE W → Calls Tryz.prog 17 #[.slice aD mn.names.length cD, .string ⟨(lastL p.data.toList).toArray⟩] W fun e w' => e = .returned (.bool true) ∧ W = w') := fun W hx => by
                      have := has_any (.slice aD mn.names.length cD) mn.names (lastL p.data.toList) W ⟨Sl.ext HNM.out.1 hx, HNM.out.2⟩
                      rw [decide_eq_true HML.out] at this
                      exact this
                    obtain ⟨lb, hlb⟩ : ∃ lb : ByteArray, ⟨(lastL p.data.toList).toArray⟩ = lb := ⟨_, rfl⟩
                    rw [hlb] at HNA HHAS
                    have HCKE := Lib.hid ((hxD.trans hxE).cell HCK9.out (fun f => f))
                    have HXE := Lib.hid (HXC.out.trans (HXK.out.trans (HX9.out.trans (hxD.trans hxE))))
                    have HWE := Lib.hid hWE
                    clear hWE hxE hE hoD htD hxD HN2 hlb
                    unfold ndA
                    go_upto_region 28 with (fail)
                    rw [HWE.out]
                    refine' wp_region_dag0 ((142, .val _) :: (143, .val _) :: (144, .val _) :: (145, .val _) :: (146, .val _) :: (147, .val _) :: (148, .val _) :: (149, .val _) :: (150, .val _) :: (151, .val _) :: (152, .val _) :: (153, .val _) :: (154, .val _) :: (155, .val _) :: (156, .val _) :: (157, .val _) :: []) (by exact ⟨fun _ _ _ _ _ => trivial, ⟨fun _ _ _ _ _ => trivial, ⟨fun _ _ _ _ _ => trivial, ⟨fun _ _ _ _ _ => trivial, ⟨fun _ _ _ _ _ => trivial, ⟨fun _ _ _ _ _ => trivial, ⟨fun _ _ _ _ _ => trivial, ⟨fun _ _ _ _ _ => trivial, ⟨fun _ _ _ _ _ => trivial, ⟨fun _ _ _ _ _ => trivial, ⟨fun _ _ _ _ _ => trivial, ⟨fun _ _ _ _ _ => trivial, ⟨fun _ _ _ _ _ => trivial, ⟨fun _ _ _ _ _ => trivial, ⟨fun _ _ _ _ _ => trivial, ⟨fun _ _ _ _ _ => trivial, trivial⟩⟩⟩⟩⟩⟩⟩⟩⟩⟩⟩⟩⟩⟩⟩⟩) (by kernel_rfl) (by kernel_rfl) (by kernel_rfl) ?_
                    rotate_left 16
                    repeat (first
                      | (refine wpD_skipv ?_ ?_ ?_
                         focus rfl
                         focus rfl
                         simp only [Act.put, List.setIfInBounds_toArray, List.set_cons_succ, List.set_cons_zero])
                      | (refine' wpD_val (c := _) ?_ (fun w => Kp.refl _ w) ?_ (fun wq hwq hfq => ?_) ?_
                         rotate_left
                         focus rfl
                         focus rfl
                         focus ((have c1 := hwq.cell HCKE.out (fun f => f); have c2 := hwq.cell HE9.out (fun f => f)); go_simp; first | done | rfl)
                         simp only [Act.put, List.setIfInBounds_toArray, List.set_cons_succ, List.set_cons_zero])
                      | (refine' wpD_con (c := _) ?_ ?_ (fun wq hwq hfq => ?_) ?_
                         rotate_left
                         focus rfl
                         focus rfl
                         focus ((have c1 := hwq.cell HCKE.out (fun f => f); have c2 := hwq.cell HE9.out (fun f => f)); go_simp; (try (rw [dUpon_enter])); (first | ((with_reducible refine (HEP.out _ hwq).mono ?_); rintro e w' ⟨rfl, rfl⟩; exact DEnd.con (Kp.refl _ _)) | ((with_reducible refine (HNA.out _).mono ?_); rintro e w' ⟨rfl, hx⟩; exact DEnd.con hx) | ((with_reducible refine (HHAS.out _ hwq).mono ?_); rintro e w' ⟨rfl, rfl⟩; exact DEnd.con (Kp.refl _ _))))
                         simp only [Act.put, List.setIfInBounds_toArray, List.set_cons_succ, List.set_cons_zero])
                      | fail)
                    refine wpD_nil ?_
                    intro wF hxF hend
                    clear hend
                    have HXF := Lib.hid (HXE.out.trans hxF)
                    clear hxF
                    go_wp2_with (fail)
                    go_light
                    refine ⟨⟨j + 1, ?_, ?_, ?_⟩, ?_⟩
                    · omega
                    · go_num
                    · exact HXF.out
                    · simp [intOf]; omega
            · have b5 : (n.own != 0) = true := by simpa using ho
              have HE := Lib.hid (by have := ephemeral_any w6.heap.size n wC HND.out; rw [b5] at this; exact this)
              have hnn : n.names.length = 0 := by rw [HSP.out.eph ho]; rfl
              have hn0 : ((n.names.length : Nat) : Int) = 0 := by omega
              have b6 : ((n.names.length : Int) != 0) = false := by rw [hn0]; rfl
              clear b5
              go_wp2_with (fail)
              refine HE.out.mono ?_
              rintro e w7 ⟨rfl, rfl⟩
              go_wp2_with (fail)
              go_loopw [12] (fun s12 wr => SndRel n.names.length wC s12 wr) (fun s12 _ => n.names.length - (intOf s12).toNat)
              case atStart => exact ⟨0, Nat.zero_le _, rfl, Kp.refl _ _⟩
              case round =>
                obtain ⟨k, hk, rfl, hxk⟩ := hrel
                have HXK := Lib.hid hxk
                have N9 := Lib.hid (hxk.cell n9 (fun f => f))
                have HCK := Lib.hid (hxk.cell HCP.out (fun f => f))
                have HTK := Lib.hid (HTC.out.ext hxk)
                clear hxk n9 n6
                by_cases hkl : k < n.names.length
                · exact absurd hkl (by omega)
                · have HPA := Lib.hid (refParent_any p wr (by have := HSP.out.size; unfold maxLen; omega))
                  have n9 := N9.out
                  have hck := HCK.out
                  cases hpar : parentL p.data.toList with
                  | none =>
                    rw [hpar] at HPA
                    clear hpar
                    go_wp2_with (fail)
                    refine HPA.out.mono ?_
                    rintro e w9 ⟨rfl, hx9⟩
                    have HX9 := Lib.hid hx9
                    clear hx9
                    go_wp2_with (fail)
                    go_light
                    refine ⟨⟨j + 1, ?_, ?_, ?_⟩, ?_⟩
                    · omega
                    · go_num
                    · exact HXC.out.trans (HXK.out.trans HX9.out)
                    · simp [intOf]; omega
                  | some up =>
                    rw [hpar] at HPA
                    obtain ⟨mn, hmn, hm0, hml⟩ := HSP.out.par up hpar
                    have hnode : nodeP (pl t) (optS (some up)) = (mn, true) := by rw [show optS (some up) = ⟨up.toArray⟩ from rfl]; unfold nodeP; rw [hmn]
                    have HPS := Lib.hid HSP.out.size
                    have HML := Lib.hid hml
                    have HM0 := Lib.hid hm0
                    clear hpar hml hmn hm0
                    obtain ⟨ub, hub⟩ : ∃ ub : ByteArray, optS (some up) = ub := ⟨_, rfl⟩
                    rw [hub] at HPA hnode
                    clear hub
                    go_wp2_with (fail)
                    refine HPA.out.mono ?_
                    rintro e w9 ⟨rfl, hx9⟩
                    have HX9 := Lib.hid hx9
                    have HN2 := Lib.hid (by have := tsNode (HTK.out.ext hx9) (by omega) ub; rw [hnode] at this; exact this)
                    have HCK9 := Lib.hid (hx9.cell hck (fun f => f))
                    clear hx9 hnode hck n9
                    go_wp2_with (fail)
                    refine HN2.out.mono ?_
                    rintro e wD ⟨nvD, rfl, hoD, htD, hxD⟩
                    obtain ⟨aD, cD, rfl⟩ := owns_slice hoD
                    obtain ⟨wE, hWE⟩ : ∃ wE, wD.alloc (.cells #[.int .i64 mn.made, .int .i64 mn.chg, .int .i64 mn.ver, .int .i64 mn.kids, .int .i64 mn.own, .int .i64 mn.len, .int .i64 mn.cnt, .string mn.data, .int .i64 mn.next, .slice aD mn.names.length cD] ndT) = wE := ⟨_, rfl⟩
                    have hxE : Ext wD wE := by rw [← hWE]; exact (Kp.refl _ _).alloc _
                    have hE : Blk wE wD.heap.size (ndA mn (.slice aD mn.names.length cD)) ndT := by rw [← hWE]; exact heap_alloc_new wD _
                    have HE9 := Lib.hid (show wE.cell? ⟨wD.heap.size, 9, none⟩ = some (.slice aD mn.names.length cD) from hE.cell 9 _ rfl)
                    have HNDE : Hid (NdAt wE wD.heap.size mn) := ⟨_, hE, own_less (ownsRow.ext hoD hxE) (Nat.zero_le _)⟩
                    have HNM := Lib.hid (names_own (ownsRow.ext hoD hxE))
                    have HEP : Hid (∀ W, Ext wE W → Calls Tryz.prog 15 #[.pointer (some ⟨wD.heap.size, 0, none⟩)] W fun e w' => e = .returned (.bool false) ∧ W = w') := fun W hx => by
                      have := ephemeral_any wD.heap.size mn W (HNDE.out.ext hx)
                      rw [show (mn.own != 0) = false by rw [HM0.out]; rfl] at this
                      exact this
                    have HNA := Lib.hid (fun W => refName_any p W (by have := HPS.out; unfold maxLen; omega))
                    have HHAS : Hid (∀ W, Ext wE W → Calls Tryz.prog 17 #[.slice aD mn.names.length cD, .string ⟨(lastL p.data.toList).toArray⟩] W fun e w' => e = .returned (.bool true) ∧ W = w') := fun W hx => by
                      have := has_any (.slice aD mn.names.length cD) mn.names (lastL p.data.toList) W ⟨Sl.ext HNM.out.1 hx, HNM.out.2⟩
                      rw [decide_eq_true HML.out] at this
                      exact this
                    obtain ⟨lb, hlb⟩ : ∃ lb : ByteArray, ⟨(lastL p.data.toList).toArray⟩ = lb := ⟨_, rfl⟩
                    rw [hlb] at HNA HHAS
                    have HCKE := Lib.hid ((hxD.trans hxE).cell HCK9.out (fun f => f))
                    have HXE := Lib.hid (HXC.out.trans (HXK.out.trans (HX9.out.trans (hxD.trans hxE))))
                    have HWE := Lib.hid hWE
                    clear hWE hxE hE hoD htD hxD HN2 hlb
                    unfold ndA
                    go_upto_region 28 with (fail)
                    rw [HWE.out]
                    refine' wp_region_dag0 ((142, .val _) :: (143, .val _) :: (144, .val _) :: (145, .val _) :: (146, .val _) :: (147, .val _) :: (148, .val _) :: (149, .val _) :: (150, .val _) :: (151, .val _) :: (152, .val _) :: (153, .val _) :: (154, .val _) :: (155, .val _) :: (156, .val _) :: (157, .val _) :: []) (by exact ⟨fun _ _ _ _ _ => trivial, ⟨fun _ _ _ _ _ => trivial, ⟨fun _ _ _ _ _ => trivial, ⟨fun _ _ _ _ _ => trivial, ⟨fun _ _ _ _ _ => trivial, ⟨fun _ _ _ _ _ => trivial, ⟨fun _ _ _ _ _ => trivial, ⟨fun _ _ _ _ _ => trivial, ⟨fun _ _ _ _ _ => trivial, ⟨fun _ _ _ _ _ => trivial, ⟨fun _ _ _ _ _ => trivial, ⟨fun _ _ _ _ _ => trivial, ⟨fun _ _ _ _ _ => trivial, ⟨fun _ _ _ _ _ => trivial, ⟨fun _ _ _ _ _ => trivial, ⟨fun _ _ _ _ _ => trivial, trivial⟩⟩⟩⟩⟩⟩⟩⟩⟩⟩⟩⟩⟩⟩⟩⟩) (by kernel_rfl) (by kernel_rfl) (by kernel_rfl) ?_
                    rotate_left 16
                    repeat (first
                      | (refine wpD_skipv ?_ ?_ ?_
                         focus rfl
                         focus rfl
                         simp only [Act.put, List.setIfInBounds_toArray, List.set_cons_succ, List.set_cons_zero])
                      | (refine' wpD_val (c := _) ?_ (fun w => Kp.refl _ w) ?_ (fun wq hwq hfq => ?_) ?_
                         rotate_left
                         focus rfl
                         focus rfl
                         focus ((have c1 := hwq.cell HCKE.out (fun f => f); have c2 := hwq.cell HE9.out (fun f => f)); go_simp; first | done | rfl)
                         simp only [Act.put, List.setIfInBounds_toArray, List.set_cons_succ, List.set_cons_zero])
                      | (refine' wpD_con (c := _) ?_ ?_ (fun wq hwq hfq => ?_) ?_
                         rotate_left
                         focus rfl
                         focus rfl
                         focus ((have c1 := hwq.cell HCKE.out (fun f => f); have c2 := hwq.cell HE9.out (fun f => f)); go_simp; (try (rw [dUpon_enter])); (first | ((with_reducible refine (HEP.out _ hwq).mono ?_); rintro e w' ⟨rfl, rfl⟩; exact DEnd.con (Kp.refl _ _)) | ((with_reducible refine (HNA.out _).mono ?_); rintro e w' ⟨rfl, hx⟩; exact DEnd.con hx) | ((with_reducible refine (HHAS.out _ hwq).mono ?_); rintro e w' ⟨rfl, rfl⟩; exact DEnd.con (Kp.refl _ _))))
                         simp only [Act.put, List.setIfInBounds_toArray, List.set_cons_succ, List.set_cons_zero])
                      | fail)
                    refine wpD_nil ?_
                    intro wF hxF hend
                    clear hend
                    have HXF := Lib.hid (HXE.out.trans hxF)
                    clear hxF
                    go_wp2_with (fail)
                    go_light
                    refine ⟨⟨j + 1, ?_, ?_, ?_⟩, ?_⟩
                    · omega
                    · go_num
                    · exact HXF.out
                    · simp [intOf]; omega
          · as_aux_lemma =>
            have hjl : j = L.length := by omega
            have hl2 : L.length = (pl t).length := HLN.out
            have b5 : ((pl t).length : Int) ≤ room := HSD.out.size
            have b6 : (((pl t).length : Int) == (L.length : Int)) = true := by rw [hl2]; simp
            have HL := Lib.hid (tsLen (HT5.out.ext HXR.out))
            clear hjl hl2
            go_wp2_with (fail)
            refine HL.out.mono ?_
            rintro e w7 ⟨rfl, rfl⟩
            go_wp2_with (fail)
            refine HL.out.mono ?_
            rintro e w7 ⟨rfl, rfl⟩
            go_wp2_with (fail)
            go_ret
            exact ⟨rfl, HX0.out.trans (HT5.out.ext HXR.out).ex⟩
end Go.Proofs.YtjapjpigpakejaaGreatDoor
