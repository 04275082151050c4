/- Texts put together: AvWTreeE, AvWRefD, AvWRefE, AvWOp, AvWOpB. -/
import Derived.Test.YtnlefnhdhigecaaGreatDoorAvG11
import Derived.Test.YtnlefnhdhigecaaGreatDoorAvG9
import Derived.Deep.QuietTactic
import Derived.BigQuiet
import Derived.Deep.RegionWith
import Derived.Laws.BytesArg
import Derived.Test.YtnlefnhdhigecaaGreatDoorAvG2
import Derived.Deep.DeepCutAuto

/- Walks of package tree: create. -/
namespace Go.Proofs.YtnlefnhdhigecaaGreatDoor
set_option maxRecDepth 100000
open Go.RowKit Av

theorem place_small (room : Int) (t : Tr) (p : ByteArray) (f : Int) (hp : p.size ≤ 1000000) : (placeT room t p f).1.size ≤ 1000000 := by
  have hz : ∀ q : ByteArray, q.size ≤ 1000000 → (finP room t q).1.size ≤ 1000000 := by
    intro q hq
    unfold finP
    split
    · decide
    · split
      · decide
      · exact hq
  unfold placeT
  split
  · exact hz p hp
  · split
    · decide
    · split
      · decide
      · split
        · split
          · decide
          · rename_i q hq
            refine hz _ ?_
            unfold numberL at hq
            split at hq
            · rename_i hg
              simp only [Option.some.injEq] at hq
              simp only [Bool.and_eq_true] at hg
              have := path_small ⟨q.toArray⟩ (by simpa [← hq] using hg.2)
              omega
            · cases hq
        · exact hz p hp
theorem new_ok (z o : Int) (d : ByteArray) : NodeOk (ndNew z o d) := ⟨.nil, by simp [ndNew], by simp [ndNew], by simp [ndNew], by simp [ndNew]⟩
theorem statNew_ex (z o : Int) (d : ByteArray) (w : World) : Calls Tryz.prog 152 #[.int .i64 z, .int .i64 o, .string d] w fun e w' => ∃ n, n = ndNew z o d ∧ e = .returned (.agg (ndA n (.slice none 0 0))) ∧ Ext w w' := by
  refine (statNew_any z o d w).mono ?_
  rintro e w' ⟨rfl, hx⟩
  exact ⟨_, rfl, rfl, hx⟩
set_option maxHeartbeats 6400000 in
theorem create_any (base b m : Nat) (room : Int) (t : Tr) (k : Int) (p d : ByteArray) (v f sess z : Int) (only : Bool) (w0 w : World) (hT : TreeR w base b m room t) (hok : TrOk t) (hG0 : GT w0) (hb0 : w0.heap.size ≤ base) (hE : Ext w0 w) (hp : p.size ≤ 1000000) (hf0 : 0 ≤ f) (hf3 : f ≤ 3) :
    Calls Tryz.prog 109 #[.pointer (some ⟨b, 0, none⟩), .agg #[.int .i64 k, .string p, .string d, .int .i64 v, .int .i64 f], .int .i64 sess, .int .i64 z, .bool only] w fun e w' => DoPost w base b m room t (createP room (pl t) ⟨k, p, d, v, f⟩ sess z only) e w' := by
  obtain ⟨wA, hWA⟩ : ∃ wA, w.alloc (.cells #[.int .i64 k, .string p, .string d, .int .i64 v, .int .i64 f] 33) = wA := ⟨_, rfl⟩
  have hxA : Ext w wA := by rw [← hWA]; exact (Kp.refl _ _).alloc _
  have hA : Blk wA w.heap.size #[.int .i64 k, .string p, .string d, .int .i64 v, .int .i64 f] 33 := by rw [← hWA]; exact heap_alloc_new w _
  obtain ⟨wB, hWB⟩ : ∃ wB, wA.alloc (.cells rsZ rsuT) = wB := ⟨_, rfl⟩
  have hxB : Ext wA wB := by rw [← hWB]; exact (Kp.refl _ _).alloc _
  have hsA : wA.heap.size = w.heap.size + 1 := by rw [← hWA]; exact World.size_alloc _ _
  have hB : Blk wB (w.heap.size + 1) rsZ rsuT := by rw [← hWB, ← hsA]; exact heap_alloc_new wA _
  have HAB := Lib.hid (hA.kp hxB (fun f => f))
  have HB := Lib.hid hB
  have HXB := Lib.hid (hxA.ext hxB)
  have HTB := Lib.hid (hT.ext (hxA.ext hxB))
  have HPL := Lib.hid (fun W (hx : Ext wB W) => place_any base b m room t k p d v f W ((hT.ext (hxA.ext hxB)).ext hx) (((hG0.ext hE).ext (hxA.ext hxB)).ext hx) hp hf0 hf3)
  have HWA := Lib.hid hWA
  unfold rsZ at hWB
  have HWB := Lib.hid hWB
  clear hWA hxA hA hWB hxB hB hsA
  obtain ⟨⟨q, e⟩, hR⟩ : ∃ R, placeT room t p f = R := ⟨_, rfl⟩
  have hqs := place_small room t p f hp
  rw [hR] at HPL hqs
  have hC : Hid (createP room (pl t) ⟨k, p, d, v, f⟩ sess z only = (if e ≠ 0 then (pl t, failR e) else (if only then pl t else tellP ndAdd (mset (pl t) q (ndNew z (ownF f sess) d)) q, ⟨0, q, ⟨#[]⟩, [], ndNew z (ownF f sess) d⟩))) := by
    show _ = _
    unfold createP
    simp only [← pl_place, hR]
  generalize createP room (pl t) ⟨k, p, d, v, f⟩ sess z only = R at hC ⊢
  have HR := Lib.hid hR
  have HFR : Hid (∀ i, nodeFr m t i → i < w.heap.size) := by
    rintro i (rfl | ⟨e, he, rfl⟩)
    · exact hT.map.lt
    · exact (hT.nod e he).lt
  have HOK := Lib.hid hok
  have HX := Lib.hid (And.intro hb0 (And.intro hE hG0))
  have HQS := Lib.hid hqs
  clear hR hok hb0 hE hG0 hp hT hqs
  go_enter Tryz.func109, Tryz.ntmps109
  go_upto_region 1 with (fail)
  rw [HWA.out]
  rw [HWB.out]
  have hab := HAB.out
  have a0 := hab.cell 0 _ rfl
  have a1 := hab.cell 1 _ rfl
  have a2 := hab.cell 2 _ rfl
  have a3 := hab.cell 3 _ rfl
  have a4 := hab.cell 4 _ rfl
  clear hab
  go_wp2_with (fail)
  refine (HPL.out _ (Kp.refl _ _)).mono ?_
  rintro e1 w2 ⟨rfl, hx2⟩
  have HX2 := Lib.hid hx2
  by_cases he : e = 0
  · subst he
    have HE := Lib.hid (hC.out.trans (if_neg (by simp)))
    have HT2 := Lib.hid (HTB.out.ext hx2)
    have hfc : f = 0 ∨ f = 1 ∨ f = 2 ∨ f = 3 := by omega
    have ha2 := HAB.out.kp hx2 (fun f => f)
    have i0 := ha2.cell 0 _ rfl
    have i1 := ha2.cell 1 _ rfl
    have i2 := ha2.cell 2 _ rfl
    have i3 := ha2.cell 3 _ rfl
    have i4 := ha2.cell 4 _ rfl
    clear hx2 ha2 HPL hC hf0 hf3
    rcases hfc with rfl | rfl | rfl | rfl
    all_goals
      first
        | rw [show ownF 1 sess = sess from rfl] at HE
        | rw [show ownF 3 sess = sess from rfl] at HE
        | rw [show ownF 0 sess = 0 from rfl] at HE
        | rw [show ownF 2 sess = 0 from rfl] at HE
      go_wp2_with (fail)
      refine (statNew_ex _ _ _ _).mono ?_
      rintro e1 w3 ⟨n, hn, rfl, hx3⟩
      rw [← hn] at HE
      obtain ⟨wN, hWN⟩ : ∃ wN, w3.alloc (.cells #[.int .i64 n.made, .int .i64 n.chg, .int .i64 n.ver, .int .i64 n.kids, .int .i64 n.own, .int .i64 n.len, .int .i64 n.cnt, .string n.data, .int .i64 n.next, .slice none 0 0] ndT) = wN := ⟨_, rfl⟩
      have hxN : Ext w3 wN := by rw [← hWN]; exact (Kp.refl _ _).alloc _
      have hN : Blk wN w3.heap.size (ndA n (.slice none 0 0)) ndT := by rw [← hWN]; exact heap_alloc_new w3 _
      have HN := Lib.hid hN
      have HXN := Lib.hid ((HX2.out.ext hx3).ext hxN)
      have HWN := Lib.hid hWN
      have HND := Lib.hid hn
      have HS3 : Hid (w.heap.size + 1 < w3.heap.size) := by
        have h1 := HX2.out.size
        have h2 := hx3.size
        have h3 := HB.out.lt
        show _ < _
        omega
      clear hWN hN hxN hx3 hn i0 i1 i2 i3 i4 a0 a1 a2 a3 a4
      unfold ndA
      go_upto_region 8 with (fail)
      rw [HWN.out]
      cases only
      · have HTN := Lib.hid (HTB.out.ext HXN.out)
        have HLY := Lib.hid (treeLay_any base b m room t q n (.slice none 0 0) w0 wN HTN.out HOK.out (by rw [HND.out]; exact new_ok _ _ _) (by rw [HND.out]; exact own_nil _) HX.out.2.2.gl HX.out.1 ((HX.out.2.2.ext HX.out.2.1).gl.ext (HXB.out.ext HXN.out)) HQS.out)
        unfold ndA at HLY
        have hn := HN.out
        unfold ndA at hn
        have j0 := hn.cell 0 _ rfl
        have j1 := hn.cell 1 _ rfl
        have j2 := hn.cell 2 _ rfl
        have j3 := hn.cell 3 _ rfl
        have j4 := hn.cell 4 _ rfl
        have j5 := hn.cell 5 _ rfl
        have j6 := hn.cell 6 _ rfl
        have j7 := hn.cell 7 _ rfl
        have j8 := hn.cell 8 _ rfl
        have j9 := hn.cell 9 _ rfl
        clear hn
        go_wp2_with (fail)
        refine HLY.out.mono ?_
        rintro e1 w4 ⟨⟨u, rfl⟩, g, hg, ht4, hk4⟩
        have hnot : ∀ i, w.heap.size ≤ i → ¬ nodeFr m t i := fun i hi h => by have := HFR.out i h; omega
        have hn4 := HN.out.kp hk4 (hnot _ (by have := HS3.out; omega))
        have hr4 := (HB.out.kp HXN.out (fun f => f)).kp hk4 (hnot _ (by omega))
        have HR4 := Lib.hid hr4
        have HT4 := Lib.hid ht4
        have HK4 : Hid (Kp (nodeFr m t) w w4) := (Ext.kp (HXB.out.ext HXN.out)).trans hk4
        unfold ndA at hn4
        unfold rsZ at hr4
        have y0 := hn4.cell 0 _ rfl
        have y1 := hn4.cell 1 _ rfl
        have y2 := hn4.cell 2 _ rfl
        have y3 := hn4.cell 3 _ rfl
        have y4 := hn4.cell 4 _ rfl
        have y5 := hn4.cell 5 _ rfl
        have y6 := hn4.cell 6 _ rfl
        have y7 := hn4.cell 7 _ rfl
        have y8 := hn4.cell 8 _ rfl
        have y9 := hn4.cell 9 _ rfl
        have c0 := hr4.cell 0 _ rfl
        have c1 := hr4.cell 1 _ rfl
        have c2 := hr4.cell 2 _ rfl
        have c3 := hr4.cell 3 _ rfl
        have c4 := hr4.cell 4 _ rfl
        have c5 := hr4.cell 5 _ rfl
        have c6 := hr4.cell 6 _ rfl
        have c7 := hr4.cell 7 _ rfl
        have c8 := hr4.cell 8 _ rfl
        have c9 := hr4.cell 9 _ rfl
        have c10 := hr4.cell 10 _ rfl
        have fc0 := hr4.free 0
        have fc1 := hr4.free 1
        have fc2 := hr4.free 2
        have fc3 := hr4.free 3
        have fc4 := hr4.free 4
        have fc5 := hr4.free 5
        have fc6 := hr4.free 6
        have fc7 := hr4.free 7
        have fc8 := hr4.free 8
        have fc9 := hr4.free 9
        have fc10 := hr4.free 10
        clear hn4 hr4 hk4 ht4 hnot j0 j1 j2 j3 j4 j5 j6 j7 j8 j9 HLY
        go_wp2_with (fail)
        go_light
        refine bodyPost_ret (v := resA 0 q ⟨#[]⟩ (.slice none 0 0) n) (by simp [results, Tryz.results109, go_sem, resA, c0, c1, c2, c3, c4, c5, c6, c7, c8, c9, c10]) rfl ?_
        rw [HE.out]
        have k11 := kp_set11 w4 (w.heap.size + 1) (.int .i64 0) (.string q) (.string ⟨#[]⟩) (.slice none 0 0) (.int .i64 n.made) (.int .i64 n.chg) (.int .i64 n.ver) (.int .i64 n.kids) (.int .i64 n.own) (.int .i64 n.len) (.int .i64 n.cnt)
        have HFG : w.heap.size ≤ g := by have := HXN.out.size; have := HB.out.lt; omega
        exact ⟨_, .slice none 0 0, rfl, own_nil _, HT4.out.aside HR4.out (by decide) (by decide) (by decide) k11, by rw [pl_tell, pl_set]; rfl, HK4.out.next k11 (fun i hi e => by omega), ((Fresh.refl _ _).set HFG _ _).tell _ _⟩
      · have hn := HN.out
        have hr4 := HB.out.kp HXN.out (fun f => f)
        have HR4 := Lib.hid hr4
        unfold ndA at hn
        unfold rsZ at hr4
        have y0 := hn.cell 0 _ rfl
        have y1 := hn.cell 1 _ rfl
        have y2 := hn.cell 2 _ rfl
        have y3 := hn.cell 3 _ rfl
        have y4 := hn.cell 4 _ rfl
        have y5 := hn.cell 5 _ rfl
        have y6 := hn.cell 6 _ rfl
        have y7 := hn.cell 7 _ rfl
        have y8 := hn.cell 8 _ rfl
        have y9 := hn.cell 9 _ rfl
        have c0 := hr4.cell 0 _ rfl
        have c1 := hr4.cell 1 _ rfl
        have c2 := hr4.cell 2 _ rfl
        have c3 := hr4.cell 3 _ rfl
        have c4 := hr4.cell 4 _ rfl
        have c5 := hr4.cell 5 _ rfl
        have c6 := hr4.cell 6 _ rfl
        have c7 := hr4.cell 7 _ rfl
        have c8 := hr4.cell 8 _ rfl
        have c9 := hr4.cell 9 _ rfl
        have c10 := hr4.cell 10 _ rfl
        have fc0 := hr4.free 0
        have fc1 := hr4.free 1
        have fc2 := hr4.free 2
        have fc3 := hr4.free 3
        have fc4 := hr4.free 4
        have fc5 := hr4.free 5
        have fc6 := hr4.free 6
        have fc7 := hr4.free 7
        have fc8 := hr4.free 8
        have fc9 := hr4.free 9
        have fc10 := hr4.free 10
        clear hn hr4
        go_wp2_with (fail)
        go_light
        refine bodyPost_ret (v := resA 0 q ⟨#[]⟩ (.slice none 0 0) n) (by simp [results, Tryz.results109, go_sem, resA, c0, c1, c2, c3, c4, c5, c6, c7, c8, c9, c10]) rfl ?_
        rw [HE.out]
        have k11 := kp_set11 wN (w.heap.size + 1) (.int .i64 0) (.string q) (.string ⟨#[]⟩) (.slice none 0 0) (.int .i64 n.made) (.int .i64 n.chg) (.int .i64 n.ver) (.int .i64 n.kids) (.int .i64 n.own) (.int .i64 n.len) (.int .i64 n.cnt)
        exact ⟨t, .slice none 0 0, rfl, own_nil _, (HTB.out.ext HXN.out).aside HR4.out (by decide) (by decide) (by decide) k11, rfl, (Ext.kp (HXB.out.ext HXN.out)).next k11 (fun i hi e => by omega), Fresh.refl _ _⟩
  · have HE := Lib.hid (hC.out.trans (if_pos he))
    clear hx2 HPL hC
    go_wp2_with (fail)
    refine (fail_any e _).mono ?_
    rintro e1 w3 ⟨rfl, hx3⟩
    have hB3 := (HB.out.kp HX2.out (fun f => f)).kp hx3 (fun f => f)
    have HT3 := Lib.hid ((HTB.out.ext HX2.out).ext hx3)
    have HB3 := Lib.hid hB3
    have HX3 := Lib.hid (((HXB.out.ext HX2.out).ext hx3))
    unfold rsZ at hB3
    have c0 := hB3.cell 0 _ rfl
    have c1 := hB3.cell 1 _ rfl
    have c2 := hB3.cell 2 _ rfl
    have c3 := hB3.cell 3 _ rfl
    have c4 := hB3.cell 4 _ rfl
    have c5 := hB3.cell 5 _ rfl
    have c6 := hB3.cell 6 _ rfl
    have c7 := hB3.cell 7 _ rfl
    have c8 := hB3.cell 8 _ rfl
    have c9 := hB3.cell 9 _ rfl
    have c10 := hB3.cell 10 _ rfl
    have fc0 := hB3.free 0
    have fc1 := hB3.free 1
    have fc2 := hB3.free 2
    have fc3 := hB3.free 3
    have fc4 := hB3.free 4
    have fc5 := hB3.free 5
    have fc6 := hB3.free 6
    have fc7 := hB3.free 7
    have fc8 := hB3.free 8
    have fc9 := hB3.free 9
    have fc10 := hB3.free 10
    clear hB3 hx3
    unfold resA
    go_wp2_with (fail)
    go_light
    refine bodyPost_ret (v := resA e ⟨#[]⟩ ⟨#[]⟩ (.slice none 0 0) ndZ) (by simp [results, Tryz.results109, go_sem, resA, ndZ, c0, c1, c2, c3, c4, c5, c6, c7, c8, c9, c10]) rfl ?_
    rw [HE.out]
    have k11 := kp_set11 w3 (w.heap.size + 1) (.int .i64 e) (.string ⟨#[]⟩) (.string ⟨#[]⟩) (.slice none 0 0) (.int .i64 0) (.int .i64 0) (.int .i64 0) (.int .i64 0) (.int .i64 0) (.int .i64 0) (.int .i64 0)
    exact ⟨t, .slice none 0 0, rfl, own_nil _, HT3.out.aside HB3.out (by decide) (by decide) (by decide) k11, rfl, (Ext.kp HX3.out).next k11 (fun i hi e => by omega), Fresh.refl _ _⟩
end Go.Proofs.YtnlefnhdhigecaaGreatDoor

/- Walks of package aviaryref1: Name, Within, Same, Digits, Number. -/
namespace Go.Proofs.YtnlefnhdhigecaaGreatDoor
set_option maxRecDepth 100000
open Go.RowKit Av
theorem take_step {α : Type} {a b : List α} {k : Nat} (h : a.take k = b.take k) (ha : k < a.length) (hb : k < b.length) (e : a[k] = b[k]) : a.take (k + 1) = b.take (k + 1) := by
  rw [List.take_succ_eq_append_getElem ha, List.take_succ_eq_append_getElem hb, h, e]
/-- Behind k rounds of a loop that holds two slices against each other. -/
def SameRel (w : World) (xs ys : List ByteArray) (i : Value) (wr : World) : Prop :=
  ∃ k : Nat, k ≤ ys.length ∧ i = .int .i64 k ∧ xs.take k = ys.take k ∧ Ext w wr

set_option maxHeartbeats 400000 in
theorem refSame_any (va vb : Value) (xs ys : List ByteArray) (w : World) (ha : Strs w va xs) (hb : Strs w vb ys) :
    Calls Tryz.prog 27 #[va, vb] w fun e w' => e = .returned (.bool (decide (xs = ys))) ∧ Ext w w' := by
  obtain ⟨aa, ca, rfl, hca, hma, hoa⟩ := Strs.open ha
  obtain ⟨ab, cb, rfl, hcb, hmb, hob⟩ := Strs.open hb
  unfold maxLen at hma hmb
  have HA := Lib.hid hoa
  have HB := Lib.hid hob
  clear ha hb hoa hob
  by_cases hl : xs.length = ys.length
  · have hl' : ((xs.length : Int) != ys.length) = false := by rw [bne_eq_false_iff_eq]; omega
    have HL := Lib.hid hl
    clear hl
    go_enter Tryz.func27, Tryz.ntmps27
    go_wp2_with (fail)
    go_loopw [5] (SameRel w xs ys) (fun i _ => xs.length - (intOf i).toNat)
    case atStart => exact ⟨0, Nat.zero_le _, rfl, rfl, Kp.refl _ _⟩
    case round =>
      obtain ⟨k, hk, rfl, ht, hx⟩ := hrel
      have HT := Lib.hid ht
      clear ht
      by_cases hlt : k < xs.length
      · have hlt2 : k < ys.length := by rw [← HL.out]; exact hlt
        obtain ⟨b1, o1, rfl, _, hc1⟩ := HA.out (by omega)
        obtain ⟨b2, o2, rfl, _, hc2⟩ := HB.out (by omega)
        have g1 := hx.cell (hc1 k hlt) (fun f => f)
        have g2 := hx.cell (hc2 k hlt2) (fun f => f)
        have k1 : (k : Int) < xs.length := by omega
        have k2 : (k : Int) < ys.length := by omega
        have hne := str_eq xs[k] ys[k]
        clear hc1 hc2
        by_cases he : xs[k] = ys[k]
        · have hne' : (xs[k].toList == ys[k].toList) = true := by rw [hne]; simp [he]
          have HE := Lib.hid he
          clear he hne
          go_wp2_with (fail)
          go_quiet (fail)
          go_wp2_with (fail)
          go_light
          exact ⟨⟨k + 1, by omega, by go_num, take_step HT.out hlt hlt2 HE.out, hx.drewN _⟩, by simp [intOf]; omega⟩
        · have hne' : (xs[k].toList == ys[k].toList) = false := by rw [hne]; simp [he]
          have HR : Hid (decide (xs = ys) = false) := by
            show _ = false
            rw [decide_eq_false_iff_not]; rintro rfl; exact he rfl
          clear he hne
          go_wp2_with (fail)
          go_quiet (fail)
          go_wp2_with (fail)
          go_ret
          go_light
          exact ⟨ret_bool HR.out.symm, hx.drewN _⟩
      · have HR : Hid (decide (xs = ys) = true) := by
          show _ = true
          have h1 := HT.out
          have h2 := HL.out
          rw [List.take_of_length_le (by omega), List.take_of_length_le (by omega)] at h1
          exact decide_eq_true h1
        go_wp2_with (fail)
        go_ret
        go_light
        exact ⟨ret_bool HR.out.symm, hx⟩
  · have hl' : ((xs.length : Int) != ys.length) = true := by rw [bne_iff_ne]; omega
    have HR : Hid (decide (xs = ys) = false) := by
      show _ = false
      rw [decide_eq_false_iff_not]; rintro rfl; exact hl rfl
    clear hl
    go_enter Tryz.func27, Tryz.ntmps27
    go_wp2_with (fail)
    go_ret
    go_light
    exact ⟨ret_bool HR.out.symm, Kp.refl _ _⟩

end Go.Proofs.YtnlefnhdhigecaaGreatDoor

/- Walks of package aviaryref1: Digits, Number. -/
namespace Go.Proofs.YtnlefnhdhigecaaGreatDoor
set_option maxRecDepth 100000
open Go.RowKit Av

/-- Cells that lay there read as they did. -/
theorem ext_cells {w w' : World} (h : Ext w w') : ∀ b o, b < w.heap.size → w'.cell? ⟨b, o, none⟩ = w.cell? ⟨b, o, none⟩ := fun b _ hb =>
  World.cell?_of_block (w := w) (h.block b hb (fun f => f))
end Go.Proofs.YtnlefnhdhigecaaGreatDoor

/- Walks of package op: Good and what it calls. -/
namespace Go.Proofs.YtnlefnhdhigecaaGreatDoor
set_option maxRecDepth 100000
open Go.RowKit Av

set_option maxHeartbeats 400000 in
theorem versioned_any (k : Int) (w : World) : Calls Tryz.prog 195 #[.int .i64 k] w fun e w' => e = .returned (.bool (versionedB k)) ∧ w = w' := by
  go_enter Tryz.func195, Tryz.ntmps195
  go_wp2_with (fail)
  all_goals
    go_ret
    go_light
    refine ⟨ret_bool ?_, rfl⟩
    rw [Bool.eq_iff_iff]
    simp [versionedB, *]

set_option maxHeartbeats 400000 in
theorem reads_any (k : Int) (w : World) : Calls Tryz.prog 129 #[.int .i64 k] w fun e w' => e = .returned (.bool (readsB k)) ∧ w = w' := by
  go_enter Tryz.func129, Tryz.ntmps129
  go_wp2_with (fail)
  all_goals
    go_ret
    go_light
    refine ⟨ret_bool ?_, rfl⟩
    rw [Bool.eq_iff_iff]
    simp [readsB, *]

set_option maxHeartbeats 800000 in
theorem formed_any (o : OpV) (w : World) (hG : GL w) (hp : o.path.size ≤ maxLen) :
    Calls Tryz.prog 148 #[o.val] w fun e w' => e = .returned (.bool (formedB o)) ∧ Ext w w' := by
  obtain ⟨k, p, d, v, f⟩ := o
  unfold OpV.val
  have HG := Lib.hid (fun W (k : Ext w W) => Good_any p W (hG.ext k) hp)
  have HF : Hid (∀ g, goodL p.data.toList = g → formedB ⟨k, p, d, v, f⟩ = (decide (1 ≤ k) && (decide (k ≤ 7) && (g && (decide (-1 ≤ v) && (decide (0 ≤ f) && decide (f ≤ 3))))))) := by
    show ∀ g, _ → _
    rintro g rfl
    rfl
  simp only
  go_enter Tryz.func148, Tryz.ntmps148
  go_wp2_with (go_at_call 67; refine (HG.out _ ((Kp.refl _ _).alloc _)).mono ?_; rintro e w1 ⟨rfl, hx⟩; have hxc := ext_cells hx)
  all_goals
    go_ret
    go_light
    refine ⟨ret_bool ?_, ?_⟩
    · rw [HF.out _ rfl, Bool.eq_iff_iff]
      simp [*]
      try (intros; omega)
    · first | exact ((Kp.refl _ _).alloc _).ext hx | exact (Kp.refl _ _).alloc _

set_option maxHeartbeats 1600000 in
theorem own_any (o : OpV) (w : World) (hd : o.data.size ≤ maxLen) :
    Calls Tryz.prog 149 #[o.val] w fun e w' => e = .returned (.bool (ownB o)) ∧ Ext w w' := by
  obtain ⟨k, p, d, v, f⟩ := o
  unfold OpV.val
  have hv := versioned_any k
  have HV := Lib.hid hv
  have hsz : decide (d.size = 0) = (d.toList == []) := by
    rw [Lib.size_eq, Lib.toList_data, Bool.eq_iff_iff, decide_eq_true_eq, beq_iff_eq, List.length_eq_zero_iff]
  have HF : Hid (ownB ⟨k, p, d, v, f⟩ = (((d.toList == []) || (decide (k = 1) || decide (k = 3))) && ((decide (v = 0) || versionedB k) && (decide (f = 0) || decide (k = 1))))) := by
    show _ = _
    unfold ownB
    simp only [hsz]
  simp only at hd ⊢
  clear hv hsz
  go_enter Tryz.func149, Tryz.ntmps149
  go_upto_region 1 with (fail)
  go_cut [0, 3] (fun s0 s wx => s0 = .agg #[.int .i64 k, .string p, .string d, .int .i64 v, .int .i64 f] ∧ s = .bool ((d.toList == []) || (decide (k = 1) || decide (k = 3))) ∧ wx = w.alloc (.cells #[.int .i64 k, .string p, .string d, .int .i64 v, .int .i64 f] 33))
  case first =>
    go_wp2_with (fail)
    all_goals
      go_meet
      go_light
      refine ⟨by simp [*], congrArg Value.bool ?_, by simp [*]⟩
      rw [Bool.eq_iff_iff]
      simp [*]
  case rest =>
    obtain ⟨rfl, rfl, rfl⟩ := hcut
    obtain ⟨b, hb⟩ : ∃ b, ((d.toList == []) || (decide (k = 1) || decide (k = 3))) = b := ⟨_, rfl⟩
    rw [hb] at HF ⊢
    clear hb
    go_wp2_with (go_at_call 195; refine (HV.out _).mono ?_; rintro e w1 ⟨rfl, rfl⟩)
    all_goals
      go_ret
      go_light
      refine ⟨ret_bool ?_, (Kp.refl _ _).alloc _⟩
      rw [HF.out, Bool.eq_iff_iff]
      simp [*]
end Go.Proofs.YtnlefnhdhigecaaGreatDoor

/- Walks of package op: numbered, Good. -/
namespace Go.Proofs.YtnlefnhdhigecaaGreatDoor
set_option maxRecDepth 100000
open Go.RowKit Av

theorem flags_cases {o : OpV} (h : formedB o = true) : o.flags = 0 ∨ o.flags = 1 ∨ o.flags = 2 ∨ o.flags = 3 := by
  simp only [formedB, Bool.and_eq_true, decide_eq_true_eq] at h
  omega

set_option maxHeartbeats 1600000 in
theorem numbered_any (o : OpV) (w : World) (hG : GT w) (hp : o.path.size ≤ maxLen) (h : formedB o = true) :
    Calls Tryz.prog 150 #[o.val] w fun e w' => e = .returned (.bool (numberedB o)) ∧ Ext w w' := by
  have hf := flags_cases h
  obtain ⟨k, p, d, v, f⟩ := o
  unfold OpV.val
  simp only at hp hf ⊢
  have HN := Lib.hid (fun W (k : Ext w W) => pathNumber_any p 0 W (hG.ext k) hp)
  have HP := Lib.hid (fun W (k : Ext w W) => Parts_any p W (hG.gl.ext k) hp)
  obtain ⟨n, hn⟩ : ∃ n, (partsL p.data.toList).length = n := ⟨_, rfl⟩
  obtain ⟨s, hs⟩ : ∃ s, optS (numberL p.data.toList 0) = s := ⟨_, rfl⟩
  obtain ⟨b, hb⟩ : ∃ b, (numberL p.data.toList 0).isSome = b := ⟨_, rfl⟩
  have HF : Hid (∀ (g : Int), numberedB ⟨k, p, d, v, g⟩ = (decide (g < 2) || (decide (1 < n) && b))) := by
    show ∀ g, _
    intro g
    unfold numberedB
    simp only [hn, hb]
  have he : errI (numberL p.data.toList 0) = if b then 0 else 1 := by unfold errI; rw [hb]
  rw [hs, he] at HN
  have HL := Lib.hid hn
  have hn8 : n ≤ 8 := by rw [← hn]; exact parts_len _
  clear hs he hb hn h
  rcases hf with rfl | rfl | rfl | rfl
  · go_enter Tryz.func150, Tryz.ntmps150
    go_wp2_with (fail)
    go_ret
    go_light
    exact ⟨ret_bool (by rw [HF.out]; rfl), (Kp.refl _ _).alloc _⟩
  · go_enter Tryz.func150, Tryz.ntmps150
    go_wp2_with (fail)
    go_ret
    go_light
    exact ⟨ret_bool (by rw [HF.out]; rfl), (Kp.refl _ _).alloc _⟩
  all_goals
    cases b
    all_goals
      go_enter Tryz.func150, Tryz.ntmps150
      go_wp2_with (fail)
      refine (HN.out _ ((Kp.refl _ _).alloc _)).mono ?_
      rintro e w1 ⟨rfl, hx⟩
      have hxc := ext_cells hx
      simp only [Bool.false_eq_true, if_true, if_false]
      go_wp2_with (fail)
      refine (HP.out _ (((Kp.refl _ _).alloc _).ext hx)).mono ?_
      rintro e w2 ⟨v, ps, rfl, hps, hst, hx2⟩
      obtain ⟨a', c', rfl, _, _, _⟩ := Strs.open hst
      have hl : ps.length = n := by rw [← HL.out, ← hps, List.length_map]
      rw [hl]
      clear hst hps hl
      by_cases h1 : 1 < n
      all_goals
        go_wp2_with (fail)
        go_ret
        go_light
        exact ⟨ret_bool (by rw [HF.out]; simp [h1]), (((Kp.refl _ _).alloc _).ext hx).ext hx2⟩

/-- The cells of a boxed op stay. -/
theorem box_cells {w W : World} {k : Int} {p d : ByteArray} {v f : Int} {T : TypeId} (h : Ext (w.alloc (.cells #[.int .i64 k, .string p, .string d, .int .i64 v, .int .i64 f] T)) W) :
    W.cell? ⟨w.heap.size, 0, none⟩ = some (.int .i64 k) ∧ W.cell? ⟨w.heap.size, 1, none⟩ = some (.string p) ∧ W.cell? ⟨w.heap.size, 2, none⟩ = some (.string d) ∧ W.cell? ⟨w.heap.size, 3, none⟩ = some (.int .i64 v) ∧ W.cell? ⟨w.heap.size, 4, none⟩ = some (.int .i64 f) := by
  refine ⟨?_, ?_, ?_, ?_, ?_⟩ <;> exact h.cell (by simp) (fun f => f)

set_option maxHeartbeats 1600000 in
theorem opGood_any (o : OpV) (w : World) (hG : GT w) (hp : o.path.size ≤ maxLen) (hd : o.data.size ≤ maxLen) :
    Calls Tryz.prog 107 #[o.val] w fun e w' => e = .returned (.int .i64 (goodO o)) ∧ Ext w w' := by
  have H1 := Lib.hid (fun W (k : Ext w W) => formed_any o W (hG.gl.ext k) hp)
  have H2 := Lib.hid (fun W (_ : Ext w W) => own_any o W hd)
  have H3 := Lib.hid (fun W (k : Ext w W) h => numbered_any o W (hG.ext k) hp h)
  have HF : Hid (goodO o = if formedB o then (if 1000 < o.data.size then 2 else if ownB o && numberedB o then 0 else 1) else 1) := by show _ = _; rfl
  obtain ⟨k, p, d, v, f⟩ := o
  generalize formedB ⟨k, p, d, v, f⟩ = b1 at *
  generalize ownB ⟨k, p, d, v, f⟩ = b2 at *
  generalize numberedB ⟨k, p, d, v, f⟩ = b3 at *
  generalize goodO ⟨k, p, d, v, f⟩ = g at *
  unfold OpV.val at *
  simp only at hp hd H1 H2 H3 HF ⊢
  unfold maxLen at hd
  have hE0 : Ext w (w.alloc (.cells #[.int .i64 k, .string p, .string d, .int .i64 v, .int .i64 f] 33)) := (Kp.refl _ _).alloc _
  go_enter Tryz.func107, Tryz.ntmps107
  go_wp2_with (fail)
  refine (H1.out _ hE0).mono ?_
  rintro e w1 ⟨rfl, hx1⟩
  obtain ⟨x0, x1, x2, x3, x4⟩ := box_cells hx1
  have hE1 := hE0.ext hx1
  cases b1 with
  | false =>
    go_wp2_with (fail)
    go_ret
    go_light
    exact ⟨ret_val (by rw [HF.out]; rfl), hE1⟩
  | true =>
    by_cases hbig : d.size ≤ 1000
    · go_wp2_with (fail)
      refine (H2.out _ hE1).mono ?_
      rintro e w2 ⟨rfl, hx2⟩
      obtain ⟨y0, y1, y2, y3, y4⟩ := box_cells (hx1.ext hx2)
      have hE2 := hE1.ext hx2
      have hbig' : ¬ 1000 < d.size := by omega
      cases b2 with
      | false =>
        go_wp2_with (fail)
        go_ret
        go_light
        exact ⟨ret_val (by rw [HF.out]; first | (simp [hbig']; done) | (simp [hbig']; rfl)), hE2⟩
      | true =>
        go_wp2_with (fail)
        refine (H3.out _ hE2 trivial).mono ?_
        rintro e w3 ⟨rfl, hx3⟩
        have hE3 := hE2.ext hx3
        cases b3
        all_goals
          go_wp2_with (fail)
          go_ret
          go_light
          exact ⟨ret_val (by rw [HF.out]; first | (simp [hbig']; done) | (simp [hbig']; rfl)), hE3⟩
    · have hbig' : 1000 < d.size := by omega
      go_wp2_with (fail)
      go_ret
      go_light
      exact ⟨ret_val (by rw [HF.out]; first | (simp [hbig']; done) | (simp [hbig']; rfl)), hE1⟩
end Go.Proofs.YtnlefnhdhigecaaGreatDoor
