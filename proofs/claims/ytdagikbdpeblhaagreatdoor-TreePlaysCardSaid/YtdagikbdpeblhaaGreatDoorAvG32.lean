/- Texts put together: AvWOpC, AvRefE. -/
import Derived.Test.YtdagikbdpeblhaaGreatDoorAvG19
import Derived.Test.YtdagikbdpeblhaaGreatDoorAvG31

/- Walk of package aviaryref1: Op. -/
namespace Go.Proofs.YtdagikbdpeblhaaGreatDoor
set_option maxRecDepth 100000
open Go.RowKit Av

theorem formed_not {o : OpV} (h : ¬ (1 ≤ o.kind ∧ o.kind ≤ 7 ∧ goodL o.path.data.toList = true ∧ -1 ≤ o.ver ∧ 0 ≤ o.flags ∧ o.flags ≤ 3)) : goodO o = 1 := by
  have : formedB o = false := by
    cases hf : formedB o with
    | false => rfl
    | true =>
      simp only [formedB, Bool.and_eq_true, decide_eq_true_eq] at hf
      exact absurd hf h
  unfold goodO
  rw [this]
  rfl
theorem formed_yes {o : OpV} (h : 1 ≤ o.kind ∧ o.kind ≤ 7 ∧ goodL o.path.data.toList = true ∧ -1 ≤ o.ver ∧ 0 ≤ o.flags ∧ o.flags ≤ 3) : goodO o = if 1000 < o.data.size then 2 else if ownB o && numberedB o then 0 else 1 := by
  have : formedB o = true := by simp only [formedB, Bool.and_eq_true, decide_eq_true_eq]; exact h
  unfold goodO
  rw [this]
  rfl

set_option maxHeartbeats 3200000 in
theorem refOp_any (o : OpV) (w : World) (hp : o.path.size ≤ maxLen) (hd : o.data.size ≤ maxLen) :
    Calls Tryz.prog 48 #[o.val] w fun e w' => e = .returned (.int .i64 (goodO o)) ∧ Ext w w' := by
  have H1 := Lib.hid (fun W (_ : Ext w W) => refGood_any o.path W hp)
  have H2 := Lib.hid (fun W (_ : Ext w W) => refNumber_any o.path 0 W hp)
  have H3 := Lib.hid (fun W (_ : Ext w W) => refParts_any o.path W hp)
  have HN := Lib.hid (@formed_not o)
  have HY := Lib.hid (@formed_yes o)
  have HO : Hid (ownB o = (((o.data.toList == []) || (decide (o.kind = 1) || decide (o.kind = 3))) && ((decide (o.ver = 0) || versionedB o.kind) && (decide (o.flags = 0) || decide (o.kind = 1))))) := by
    show _ = _
    have hsz : decide (o.data.size = 0) = (o.data.toList == []) := by
      rw [Lib.size_eq, Lib.toList_data, Bool.eq_iff_iff, decide_eq_true_eq, beq_iff_eq, List.length_eq_zero_iff]
    unfold ownB
    simp only [hsz]
  obtain ⟨k, p, d, v, f⟩ := o
  unfold OpV.val
  simp only at hp hd H1 H2 H3 HN HY HO ⊢
  unfold maxLen at hd
  have HE0 : Hid (Ext w (w.alloc (.cells #[.int .i64 k, .string p, .string d, .int .i64 v, .int .i64 f] 33))) := by
    show Ext _ _
    exact (Kp.refl _ _).alloc _
  by_cases c1 : k < 1
  · go_enter Tryz.func48, Tryz.ntmps48
    go_wp2_with (fail)
    go_ret
    go_light
    exact ⟨ret_val (by rw [HN.out (by omega)]; rfl), HE0.out⟩
  · by_cases c2 : 7 < k
    · go_enter Tryz.func48, Tryz.ntmps48
      go_wp2_with (fail)
      go_ret
      go_light
      exact ⟨ret_val (by rw [HN.out (by omega)]; rfl), HE0.out⟩
    · cases g1 : goodL p.data.toList with
      | false =>
        rw [g1] at HN H1
        clear g1
        go_enter Tryz.func48, Tryz.ntmps48
        go_wp2_with (fail)
        refine (H1.out _ HE0.out).mono ?_
        rintro e w1 ⟨rfl, hx⟩
        go_wp2_with (fail)
        go_ret
        go_light
        exact ⟨ret_val (by rw [HN.out (by simp)]; rfl), HE0.out.ext hx⟩
      | true =>
        rw [g1] at HN HY H1
        clear g1
        by_cases c3 : v < -1
        · go_enter Tryz.func48, Tryz.ntmps48
          go_wp2_with (fail)
          refine (H1.out _ HE0.out).mono ?_
          rintro e w1 ⟨rfl, hx⟩
          have hxc := ext_cells hx
          go_wp2_with (fail)
          go_ret
          go_light
          exact ⟨ret_val (by rw [HN.out (by omega)]; rfl), HE0.out.ext hx⟩
        · by_cases c4 : f < 0
          · go_enter Tryz.func48, Tryz.ntmps48
            go_wp2_with (fail)
            refine (H1.out _ HE0.out).mono ?_
            rintro e w1 ⟨rfl, hx⟩
            have hxc := ext_cells hx
            go_wp2_with (fail)
            go_ret
            go_light
            exact ⟨ret_val (by rw [HN.out (by omega)]; rfl), HE0.out.ext hx⟩
          · by_cases c5 : 3 < f
            · go_enter Tryz.func48, Tryz.ntmps48
              go_wp2_with (fail)
              refine (H1.out _ HE0.out).mono ?_
              rintro e w1 ⟨rfl, hx⟩
              have hxc := ext_cells hx
              go_wp2_with (fail)
              go_ret
              go_light
              exact ⟨ret_val (by rw [HN.out (by omega)]; rfl), HE0.out.ext hx⟩
            · have HY' := Lib.hid (HY.out ⟨by omega, by omega, rfl, by omega, by omega, by omega⟩)
              have hf : f = 0 ∨ f = 1 ∨ f = 2 ∨ f = 3 := by omega
              have hk1 : 1 ≤ k := by omega
              have hk7 : k ≤ 7 := by omega
              have HFF := Lib.hid hf
              clear HN HY hf
              by_cases hbig : d.size ≤ 1000
              · go_enter Tryz.func48, Tryz.ntmps48
                go_wp2_with (fail)
                refine (H1.out _ HE0.out).mono ?_
                rintro e w1 ⟨rfl, hx⟩
                have hxc := ext_cells hx
                have HE1 := Lib.hid (HE0.out.ext hx)
                obtain ⟨c0, c1', c2', c3', c4'⟩ := box_cells hx
                clear hxc hx
                go_upto_region 5 with (fail)
                go_cut [0, 80] (fun s0 s wx => s0 = .agg #[.int .i64 k, .string p, .string d, .int .i64 v, .int .i64 f] ∧ s = .bool (!ownB ⟨k, p, d, v, f⟩) ∧ wx = w1)
                case first =>
                  go_wp2_with (fail)
                  all_goals
                    go_meet
                    go_light
                    refine ⟨by simp [*], congrArg Value.bool ?_, rfl⟩
                    rw [HO.out, Bool.eq_iff_iff]
                    simp [versionedB, *]
                case rest =>
                  obtain ⟨rfl, rfl, rfl⟩ := hcut
                  have hbig' : ¬ 1000 < d.size := by omega
                  cases hb : ownB ⟨k, p, d, v, f⟩ with
                  | false =>
                    rw [hb] at HY'
                    clear hb
                    go_wp2_with (fail)
                    go_ret
                    go_light
                    exact ⟨ret_val (by rw [HY'.out]; first | (simp [hbig']; done) | (simp [hbig']; rfl)), HE1.out⟩
                  | true =>
                    rw [hb] at HY' HO
                    clear hb
                    have hfk : f ≠ 0 → k = 1 := by
                      intro h0
                      have := HO.out
                      simp only [Bool.true_eq, Bool.and_eq_true, Bool.or_eq_true, decide_eq_true_eq] at this
                      rcases this.2.2 with h | h
                      · exact absurd h h0
                      · exact h
                    have hnb : numberedB ⟨k, p, d, v, f⟩ = (decide (f < 2) || (decide (1 < (partsL p.data.toList).length) && (numberL p.data.toList 0).isSome)) := rfl
                    have HNB := Lib.hid hnb
                    have HFK := Lib.hid hfk
                    clear hnb hfk
                    by_cases hf2 : f < 2
                    · have hf2' : numberedB ⟨k, p, d, v, f⟩ = true := by rw [HNB.out]; simp [hf2]
                      rw [hf2'] at HY'
                      clear hf2'
                      by_cases hk : k = 1
                      · subst hk
                        rcases HFF.out with rfl | rfl | rfl | rfl
                        · go_wp2_with (fail)
                          go_ret
                          go_light
                          exact ⟨ret_val (by rw [HY'.out]; first | (simp [hbig']; done) | (simp [hbig']; rfl)), HE1.out⟩
                        · go_wp2_with (fail)
                          go_ret
                          go_light
                          exact ⟨ret_val (by rw [HY'.out]; first | (simp [hbig']; done) | (simp [hbig']; rfl)), HE1.out⟩
                        · omega
                        · omega
                      · go_wp2_with (fail)
                        go_ret
                        go_light
                        exact ⟨ret_val (by rw [HY'.out]; first | (simp [hbig']; done) | (simp [hbig']; rfl)), HE1.out⟩
                    · obtain rfl : k = 1 := HFK.out (by omega)
                      obtain ⟨n, hn⟩ : ∃ n, (partsL p.data.toList).length = n := ⟨_, rfl⟩
                      obtain ⟨b, hb⟩ : ∃ b, (numberL p.data.toList 0).isSome = b := ⟨_, rfl⟩
                      obtain ⟨s, hs⟩ : ∃ s, optS (numberL p.data.toList 0) = s := ⟨_, rfl⟩
                      have hnb : numberedB ⟨1, p, d, v, f⟩ = (decide (1 < n) && b) := by rw [HNB.out, hn, hb]; simp [hf2]
                      have hn8 : n ≤ 8 := by rw [← hn]; exact parts_len _
                      have hgood : 1 ≤ n ∨ n = 0 := by omega
                      have hn0 : n = 0 → b = false := by
                        intro h0
                        rw [← hb]
                        have : goodL p.data.toList = false := by
                          cases hg : goodL p.data.toList with
                          | false => rfl
                          | true => exact absurd (List.eq_nil_of_length_eq_zero (hn.trans h0)) ((good_iff_parts _).1 hg)
                        simp [numberL, this]
                      rw [hnb] at HY'
                      rw [hb, hs] at H2
                      have HL := Lib.hid hn
                      have HN0 := Lib.hid hn0
                      clear hn hb hs hnb hn0 hgood HNB HO
                      rcases HFF.out with rfl | rfl | rfl | rfl
                      · omega
                      · omega
                      all_goals
                        go_wp2_with (fail)
                        refine (H2.out _ HE1.out).mono ?_
                        rintro e w2 ⟨rfl, hx2⟩
                        have hxc2 := ext_cells hx2
                        have hlt := World.block_lt_of_cell? _ _ c1'
                        have c1'' : w2.cell? ⟨w.heap.size, 1, none⟩ = some (.string p) := by rw [hxc2 _ _ hlt]; exact c1'
                        clear hxc2
                        go_wp2_with (fail)
                        refine (H3.out _ (HE1.out.ext hx2)).mono ?_
                        rintro e w3 ⟨v', ps, rfl, hps, hst, hx3⟩
                        obtain ⟨a', c', rfl, _, _, _⟩ := Strs.open hst
                        have hl : ps.length = n := by rw [← HL.out, ← hps, List.length_map]
                        rw [hl]
                        clear hst hps hl
                        by_cases hn1 : n = 1
                        · subst hn1
                          go_wp2_with (fail)
                          go_ret
                          go_light
                          exact ⟨ret_val (by rw [HY'.out]; first | (simp [hbig']; done) | (simp [hbig']; rfl)), (HE1.out.ext hx2).ext hx3⟩
                        · have hn1' : ¬ (n : Int) = 1 := by omega
                          have HN1 := Lib.hid hn1
                          clear hn1
                          cases b with
                          | false =>
                            go_wp2_with (fail)
                            go_ret
                            go_light
                            exact ⟨ret_val (by rw [HY'.out]; first | (simp [hbig']; done) | (simp [hbig']; rfl)), (HE1.out.ext hx2).ext hx3⟩
                          | true =>
                            have hn2 : 1 < n := by
                              have h1 := HN1.out
                              have h2 : n ≠ 0 := fun h => by have := HN0.out h; cases this
                              omega
                            go_wp2_with (fail)
                            go_ret
                            go_light
                            exact ⟨ret_val (by rw [HY'.out]; first | (simp [hbig', hn2]; done) | (simp [hbig', hn2]; rfl)), (HE1.out.ext hx2).ext hx3⟩
              · have hbig' : 1000 < d.size := by omega
                go_enter Tryz.func48, Tryz.ntmps48
                go_wp2_with (fail)
                refine (H1.out _ HE0.out).mono ?_
                rintro e w1 ⟨rfl, hx⟩
                have hxc := ext_cells hx
                go_wp2_with (fail)
                go_ret
                go_light
                exact ⟨ret_val (by rw [HY'.out]; first | (simp [hbig']; done) | (simp [hbig']; rfl)), HE0.out.ext hx⟩
end Go.Proofs.YtdagikbdpeblhaaGreatDoor

/- Walks over the reference's tree: Do. -/
namespace Go.Proofs.YtdagikbdpeblhaaGreatDoor
set_option maxRecDepth 100000
open Go.RowKit Av

set_option maxHeartbeats 6400000 in
theorem do_bad (base g : Nat) (room : Int) (v : Value) (E : List Ent) (k : Int) (p d : ByteArray) (ver f sess z : Int) (w : World) (h : RefA w base g room v E) (hp : p.size ≤ 1000000) (hd : d.size ≤ 1000000) (hbad : goodO ⟨k, p, d, ver, f⟩ ≠ 0 ∨ sess < 1 ∨ z < 0) :
    Calls Tryz.prog 10 #[.pointer (some ⟨g, 0, none⟩), .agg #[.int .i64 k, .string p, .string d, .int .i64 ver, .int .i64 f], .int .i64 sess, .int .i64 z] w fun e w' => RDPost w base g room v (doL room (entL E) ⟨k, p, d, ver, f⟩ sess z) e w' := by
  obtain ⟨wA, hWA⟩ : ∃ wA, w.alloc (.cells #[.int .i64 k, .string p, .string d, .int .i64 ver, .int .i64 f] 33) = wA := ⟨_, rfl⟩
  have hxA : Ext w wA := by rw [← hWA]; exact (Kp.refl _ _).alloc _
  have hA : Blk wA w.heap.size #[.int .i64 k, .string p, .string d, .int .i64 ver, .int .i64 f] 33 := by rw [← hWA]; exact heap_alloc_new w _
  obtain ⟨wB, hWB⟩ : ∃ wB, wA.alloc (.cells rsZ rsuT) = wB := ⟨_, rfl⟩
  have hxB : Ext wA wB := by rw [← hWB]; exact (Kp.refl _ _).alloc _
  have hsA : wA.heap.size = w.heap.size + 1 := by rw [← hWA]; exact World.size_alloc _ _
  have hB : Blk wB (w.heap.size + 1) rsZ rsuT := by rw [← hWB, ← hsA]; exact heap_alloc_new wA _
  have HAB := Lib.hid (hA.kp hxB (fun f => f))
  have HB := Lib.hid hB
  have HXB := Lib.hid (hxA.ext hxB)
  have HRB := Lib.hid (h.ext (hxA.ext hxB))
  have HWA := Lib.hid hWA
  unfold rsZ at hWB
  have HWB := Lib.hid hWB
  have HOP : Hid (Calls Tryz.prog 48 #[.agg #[.int .i64 k, .string p, .string d, .int .i64 ver, .int .i64 f]] wB fun e w' => e = .returned (.int .i64 (goodO ⟨k, p, d, ver, f⟩)) ∧ Ext wB w') := refOp_any ⟨k, p, d, ver, f⟩ wB (by show p.size ≤ _; unfold maxLen; omega) (by show d.size ≤ _; unfold maxLen; omega)
  have HAT := Lib.hid (fun W (hW : Ext wB W) => at_any base g room v E p W ((h.ext (hxA.ext hxB)).ext hW))
  obtain ⟨X, hX⟩ : ∃ X, doL room (entL E) ⟨k, p, d, ver, f⟩ sess z = X := ⟨_, rfl⟩
  rw [hX]
  have HC : Hid (X = doL room (entL E) ⟨k, p, d, ver, f⟩ sess z) := hX.symm
  clear hWA hxA hA hWB hxB hB hsA hX
  obtain ⟨er, her⟩ : ∃ er, goodO ⟨k, p, d, ver, f⟩ = er := ⟨_, rfl⟩
  rw [her] at HOP hbad
  by_cases h0 : er = 0
  · have HE : Hid (X = (entL E, failR 1)) := by
      show _ = _
      rw [HC.out]
      unfold doL
      rw [if_neg (by rw [her, h0]; simp), if_pos (by omega)]
    subst h0
    have hs : ((decide (sess < 1)) || decide (z < 0)) = true := by
      rcases hbad with h | h | h
      · exact absurd rfl h
      · simp [h]
      · simp [h]
    clear h her HC hbad
    by_cases h1 : sess < 1
    · go_enter Tryz.func10, Tryz.ntmps10
      go_upto_region 1 with (fail)
      rw [HWA.out]
      rw [HWB.out]
      have hab := HAB.out
      have a0 := hab.cell 0 _ rfl
      have a1 := hab.cell 1 _ rfl
      have a2 := hab.cell 2 _ rfl
      have a3 := hab.cell 3 _ rfl
      have a4 := hab.cell 4 _ rfl
      clear hab
      go_wp2_with (fail)
      refine HOP.out.mono ?_
      rintro e w1 ⟨rfl, hx1⟩
      have HX1 := Lib.hid hx1
      have hab := HAB.out.kp hx1 (fun f => f)
      clear hx1 a0 a1 a2 a3 a4
      have b0 := hab.cell 0 _ rfl
      have b1 := hab.cell 1 _ rfl
      have b2 := hab.cell 2 _ rfl
      have b3 := hab.cell 3 _ rfl
      have b4 := hab.cell 4 _ rfl
      clear hab
      go_wp2_with (fail)
      refine (fail10_any 1 _).mono ?_
      rintro e1 w8 ⟨rfl, hx8⟩
      have hB8 := HB.out.kp (HX1.out.trans hx8) (fun f => f)
      have HR8 := Lib.hid (HRB.out.ext (HX1.out.trans hx8))
      have HB8 := Lib.hid hB8
      have HX8 := Lib.hid (HXB.out.ext (HX1.out.trans hx8))
      unfold rsZ at hB8
      have c0 := hB8.cell 0 _ rfl
      have c1 := hB8.cell 1 _ rfl
      have c2 := hB8.cell 2 _ rfl
      have c3 := hB8.cell 3 _ rfl
      have c4 := hB8.cell 4 _ rfl
      have c5 := hB8.cell 5 _ rfl
      have c6 := hB8.cell 6 _ rfl
      have c7 := hB8.cell 7 _ rfl
      have c8 := hB8.cell 8 _ rfl
      have c9 := hB8.cell 9 _ rfl
      have c10 := hB8.cell 10 _ rfl
      have fc0 := hB8.free 0
      have fc1 := hB8.free 1
      have fc2 := hB8.free 2
      have fc3 := hB8.free 3
      have fc4 := hB8.free 4
      have fc5 := hB8.free 5
      have fc6 := hB8.free 6
      have fc7 := hB8.free 7
      have fc8 := hB8.free 8
      have fc9 := hB8.free 9
      have fc10 := hB8.free 10
      clear hB8 hx8
      unfold resA
      go_wp2_with (fail)
      go_light
      refine bodyPost_ret (v := resA 1 ⟨#[]⟩ ⟨#[]⟩ (.slice none 0 0) ndZ) (by simp [results, Tryz.results10, go_sem, resA, ndZ, c0, c1, c2, c3, c4, c5, c6, c7, c8, c9, c10]) rfl ?_
      have k11 := kp_set11 w8 (w.heap.size + 1) (.int .i64 1) (.string ⟨#[]⟩) (.string ⟨#[]⟩) (.slice none 0 0) (.int .i64 0) (.int .i64 0) (.int .i64 0) (.int .i64 0) (.int .i64 0) (.int .i64 0) (.int .i64 0)
      exact RDPost.fail HE.out (HR8.out.aside HB8.out k11) (HX8.out.next k11 (fun i hi e => by omega))
    · have h2 : z < 0 := by simpa [h1] using hs
      clear hs
      go_enter Tryz.func10, Tryz.ntmps10
      go_upto_region 1 with (fail)
      rw [HWA.out]
      rw [HWB.out]
      have hab := HAB.out
      have a0 := hab.cell 0 _ rfl
      have a1 := hab.cell 1 _ rfl
      have a2 := hab.cell 2 _ rfl
      have a3 := hab.cell 3 _ rfl
      have a4 := hab.cell 4 _ rfl
      clear hab
      go_wp2_with (fail)
      refine HOP.out.mono ?_
      rintro e w1 ⟨rfl, hx1⟩
      have HX1 := Lib.hid hx1
      have hab := HAB.out.kp hx1 (fun f => f)
      clear hx1 a0 a1 a2 a3 a4
      have b0 := hab.cell 0 _ rfl
      have b1 := hab.cell 1 _ rfl
      have b2 := hab.cell 2 _ rfl
      have b3 := hab.cell 3 _ rfl
      have b4 := hab.cell 4 _ rfl
      clear hab
      go_wp2_with (fail)
      refine (fail10_any 1 _).mono ?_
      rintro e1 w8 ⟨rfl, hx8⟩
      have hB8 := HB.out.kp (HX1.out.trans hx8) (fun f => f)
      have HR8 := Lib.hid (HRB.out.ext (HX1.out.trans hx8))
      have HB8 := Lib.hid hB8
      have HX8 := Lib.hid (HXB.out.ext (HX1.out.trans hx8))
      unfold rsZ at hB8
      have c0 := hB8.cell 0 _ rfl
      have c1 := hB8.cell 1 _ rfl
      have c2 := hB8.cell 2 _ rfl
      have c3 := hB8.cell 3 _ rfl
      have c4 := hB8.cell 4 _ rfl
      have c5 := hB8.cell 5 _ rfl
      have c6 := hB8.cell 6 _ rfl
      have c7 := hB8.cell 7 _ rfl
      have c8 := hB8.cell 8 _ rfl
      have c9 := hB8.cell 9 _ rfl
      have c10 := hB8.cell 10 _ rfl
      have fc0 := hB8.free 0
      have fc1 := hB8.free 1
      have fc2 := hB8.free 2
      have fc3 := hB8.free 3
      have fc4 := hB8.free 4
      have fc5 := hB8.free 5
      have fc6 := hB8.free 6
      have fc7 := hB8.free 7
      have fc8 := hB8.free 8
      have fc9 := hB8.free 9
      have fc10 := hB8.free 10
      clear hB8 hx8
      unfold resA
      go_wp2_with (fail)
      go_light
      refine bodyPost_ret (v := resA 1 ⟨#[]⟩ ⟨#[]⟩ (.slice none 0 0) ndZ) (by simp [results, Tryz.results10, go_sem, resA, ndZ, c0, c1, c2, c3, c4, c5, c6, c7, c8, c9, c10]) rfl ?_
      have k11 := kp_set11 w8 (w.heap.size + 1) (.int .i64 1) (.string ⟨#[]⟩) (.string ⟨#[]⟩) (.slice none 0 0) (.int .i64 0) (.int .i64 0) (.int .i64 0) (.int .i64 0) (.int .i64 0) (.int .i64 0) (.int .i64 0)
      exact RDPost.fail HE.out (HR8.out.aside HB8.out k11) (HX8.out.next k11 (fun i hi e => by omega))
  · have HE : Hid (X = (entL E, failR er)) := by
      show _ = _
      rw [HC.out]
      unfold doL
      rw [if_pos (by rw [her]; exact h0), her]
    have q : (er == 0) = false := by simpa using h0
    clear h her HC hbad
    go_enter Tryz.func10, Tryz.ntmps10
    go_upto_region 1 with (fail)
    rw [HWA.out]
    rw [HWB.out]
    have hab := HAB.out
    have a0 := hab.cell 0 _ rfl
    have a1 := hab.cell 1 _ rfl
    have a2 := hab.cell 2 _ rfl
    have a3 := hab.cell 3 _ rfl
    have a4 := hab.cell 4 _ rfl
    clear hab
    go_wp2_with (fail)
    refine HOP.out.mono ?_
    rintro e w1 ⟨rfl, hx1⟩
    have HX1 := Lib.hid hx1
    have hab := HAB.out.kp hx1 (fun f => f)
    clear hx1 a0 a1 a2 a3 a4
    have b0 := hab.cell 0 _ rfl
    have b1 := hab.cell 1 _ rfl
    have b2 := hab.cell 2 _ rfl
    have b3 := hab.cell 3 _ rfl
    have b4 := hab.cell 4 _ rfl
    clear hab
    go_wp2_with (fail)
    refine (fail10_any er _).mono ?_
    rintro e1 w8 ⟨rfl, hx8⟩
    have hB8 := HB.out.kp (HX1.out.trans hx8) (fun f => f)
    have HR8 := Lib.hid (HRB.out.ext (HX1.out.trans hx8))
    have HB8 := Lib.hid hB8
    have HX8 := Lib.hid (HXB.out.ext (HX1.out.trans hx8))
    unfold rsZ at hB8
    have c0 := hB8.cell 0 _ rfl
    have c1 := hB8.cell 1 _ rfl
    have c2 := hB8.cell 2 _ rfl
    have c3 := hB8.cell 3 _ rfl
    have c4 := hB8.cell 4 _ rfl
    have c5 := hB8.cell 5 _ rfl
    have c6 := hB8.cell 6 _ rfl
    have c7 := hB8.cell 7 _ rfl
    have c8 := hB8.cell 8 _ rfl
    have c9 := hB8.cell 9 _ rfl
    have c10 := hB8.cell 10 _ rfl
    have fc0 := hB8.free 0
    have fc1 := hB8.free 1
    have fc2 := hB8.free 2
    have fc3 := hB8.free 3
    have fc4 := hB8.free 4
    have fc5 := hB8.free 5
    have fc6 := hB8.free 6
    have fc7 := hB8.free 7
    have fc8 := hB8.free 8
    have fc9 := hB8.free 9
    have fc10 := hB8.free 10
    clear hB8 hx8
    unfold resA
    go_wp2_with (fail)
    go_light
    refine bodyPost_ret (v := resA er ⟨#[]⟩ ⟨#[]⟩ (.slice none 0 0) ndZ) (by simp [results, Tryz.results10, go_sem, resA, ndZ, c0, c1, c2, c3, c4, c5, c6, c7, c8, c9, c10]) rfl ?_
    have k11 := kp_set11 w8 (w.heap.size + 1) (.int .i64 er) (.string ⟨#[]⟩) (.string ⟨#[]⟩) (.slice none 0 0) (.int .i64 0) (.int .i64 0) (.int .i64 0) (.int .i64 0) (.int .i64 0) (.int .i64 0) (.int .i64 0)
    exact RDPost.fail HE.out (HR8.out.aside HB8.out k11) (HX8.out.next k11 (fun i hi e => by omega))
end Go.Proofs.YtdagikbdpeblhaaGreatDoor
