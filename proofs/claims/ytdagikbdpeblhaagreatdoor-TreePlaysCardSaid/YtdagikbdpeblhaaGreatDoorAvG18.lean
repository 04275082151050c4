/- Texts put together: AvWTreeE, AvWRefD, AvWRefE. -/
import Derived.Test.YtdagikbdpeblhaaGreatDoorAvG13
import Derived.Test.YtdagikbdpeblhaaGreatDoorAvG10
import Derived.Deep.QuietTactic
import Derived.BigQuiet
import Derived.Deep.RegionWith
import Derived.Laws.BytesArg

/- Walks of package tree: create. -/
namespace Go.Proofs.YtdagikbdpeblhaaGreatDoor
set_option maxRecDepth 100000
open Go.RowKit Av

theorem place_small (room : Int) (t : Tr) (p : ByteArray) (f : Int) (hp : p.size ≤ 1000000) : (placeT room t p f).1.size ≤ 1000000 := by
  have hz : ∀ q : ByteArray, q.size ≤ 1000000 → (finP room t q).1.size ≤ 1000000 := by
    intro q hq
    unfold finP
    split
    · decide
    · split
      · decide
      · exact hq
  unfold placeT
  split
  · exact hz p hp
  · split
    · decide
    · split
      · decide
      · split
        · split
          · decide
          · rename_i q hq
            refine hz _ ?_
            unfold numberL at hq
            split at hq
            · rename_i hg
              simp only [Option.some.injEq] at hq
              simp only [Bool.and_eq_true] at hg
              have := path_small ⟨q.toArray⟩ (by simpa [← hq] using hg.2)
              omega
            · cases hq
        · exact hz p hp
theorem new_ok (z o : Int) (d : ByteArray) : NodeOk (ndNew z o d) := ⟨.nil, by simp [ndNew], by simp [ndNew], by simp [ndNew], by simp [ndNew]⟩
theorem statNew_ex (z o : Int) (d : ByteArray) (w : World) : Calls Tryz.prog 135 #[.int .i64 z, .int .i64 o, .string d] w fun e w' => ∃ n, n = ndNew z o d ∧ e = .returned (.agg (ndA n (.slice none 0 0))) ∧ Ext w w' := by
  refine (statNew_any z o d w).mono ?_
  rintro e w' ⟨rfl, hx⟩
  exact ⟨_, rfl, rfl, hx⟩
set_option maxHeartbeats 6400000 in
theorem create_any (base b m : Nat) (room : Int) (t : Tr) (k : Int) (p d : ByteArray) (v f sess z : Int) (only : Bool) (w0 w : World) (hT : TreeR w base b m room t) (hok : TrOk t) (hG0 : GT w0) (hb0 : w0.heap.size ≤ base) (hE : Ext w0 w) (hp : p.size ≤ 1000000) (hf0 : 0 ≤ f) (hf3 : f ≤ 3) :
    Calls Tryz.prog 95 #[.pointer (some ⟨b, 0, none⟩), .agg #[.int .i64 k, .string p, .string d, .int .i64 v, .int .i64 f], .int .i64 sess, .int .i64 z, .bool only] w fun e w' => DoPost w base b m room t (createP room (pl t) ⟨k, p, d, v, f⟩ sess z only) e w' := by
  obtain ⟨wA, hWA⟩ : ∃ wA, w.alloc (.cells #[.int .i64 k, .string p, .string d, .int .i64 v, .int .i64 f] 33) = wA := ⟨_, rfl⟩
  have hxA : Ext w wA := by rw [← hWA]; exact (Kp.refl _ _).alloc _
  have hA : Blk wA w.heap.size #[.int .i64 k, .string p, .string d, .int .i64 v, .int .i64 f] 33 := by rw [← hWA]; exact heap_alloc_new w _
  obtain ⟨wB, hWB⟩ : ∃ wB, wA.alloc (.cells rsZ rsuT) = wB := ⟨_, rfl⟩
  have hxB : Ext wA wB := by rw [← hWB]; exact (Kp.refl _ _).alloc _
  have hsA : wA.heap.size = w.heap.size + 1 := by rw [← hWA]; exact World.size_alloc _ _
  have hB : Blk wB (w.heap.size + 1) rsZ rsuT := by rw [← hWB, ← hsA]; exact heap_alloc_new wA _
  have HAB := Lib.hid (hA.kp hxB (fun f => f))
  have HB := Lib.hid hB
  have HXB := Lib.hid (hxA.ext hxB)
  have HTB := Lib.hid (hT.ext (hxA.ext hxB))
  have HPL := Lib.hid (fun W (hx : Ext wB W) => place_any base b m room t k p d v f W ((hT.ext (hxA.ext hxB)).ext hx) (((hG0.ext hE).ext (hxA.ext hxB)).ext hx) hp hf0 hf3)
  have HWA := Lib.hid hWA
  unfold rsZ at hWB
  have HWB := Lib.hid hWB
  clear hWA hxA hA hWB hxB hB hsA
  obtain ⟨⟨q, e⟩, hR⟩ : ∃ R, placeT room t p f = R := ⟨_, rfl⟩
  have hqs := place_small room t p f hp
  rw [hR] at HPL hqs
  have hC : Hid (createP room (pl t) ⟨k, p, d, v, f⟩ sess z only = (if e ≠ 0 then (pl t, failR e) else (if only then pl t else tellP ndAdd (mset (pl t) q (ndNew z (ownF f sess) d)) q, ⟨0, q, ⟨#[]⟩, [], ndNew z (ownF f sess) d⟩))) := by
    show _ = _
    unfold createP
    simp only [← pl_place, hR]
  generalize createP room (pl t) ⟨k, p, d, v, f⟩ sess z only = R at hC ⊢
  have HR := Lib.hid hR
  have HFR : Hid (∀ i, nodeFr m t i → i < w.heap.size) := by
    rintro i (rfl | ⟨e, he, rfl⟩)
    · exact hT.map.lt
    · exact (hT.nod e he).lt
  have HOK := Lib.hid hok
  have HX := Lib.hid (And.intro hb0 (And.intro hE hG0))
  have HQS := Lib.hid hqs
  clear hR hok hb0 hE hG0 hp hT hqs
  go_enter Tryz.func95, Tryz.ntmps95
  go_upto_region 1 with (fail)
  rw [HWA.out]
  rw [HWB.out]
  have hab := HAB.out
  have a0 := hab.cell 0 _ rfl
  have a1 := hab.cell 1 _ rfl
  have a2 := hab.cell 2 _ rfl
  have a3 := hab.cell 3 _ rfl
  have a4 := hab.cell 4 _ rfl
  clear hab
  go_wp2_with (fail)
  refine (HPL.out _ (Kp.refl _ _)).mono ?_
  rintro e1 w2 ⟨rfl, hx2⟩
  have HX2 := Lib.hid hx2
  by_cases he : e = 0
  · subst he
    have HE := Lib.hid (hC.out.trans (if_neg (by simp)))
    have HT2 := Lib.hid (HTB.out.ext hx2)
    have hfc : f = 0 ∨ f = 1 ∨ f = 2 ∨ f = 3 := by omega
    have ha2 := HAB.out.kp hx2 (fun f => f)
    have i0 := ha2.cell 0 _ rfl
    have i1 := ha2.cell 1 _ rfl
    have i2 := ha2.cell 2 _ rfl
    have i3 := ha2.cell 3 _ rfl
    have i4 := ha2.cell 4 _ rfl
    clear hx2 ha2 HPL hC hf0 hf3
    rcases hfc with rfl | rfl | rfl | rfl
    all_goals
      first
        | rw [show ownF 1 sess = sess from rfl] at HE
        | rw [show ownF 3 sess = sess from rfl] at HE
        | rw [show ownF 0 sess = 0 from rfl] at HE
        | rw [show ownF 2 sess = 0 from rfl] at HE
      go_wp2_with (fail)
      refine (statNew_ex _ _ _ _).mono ?_
      rintro e1 w3 ⟨n, hn, rfl, hx3⟩
      rw [← hn] at HE
      obtain ⟨wN, hWN⟩ : ∃ wN, w3.alloc (.cells #[.int .i64 n.made, .int .i64 n.chg, .int .i64 n.ver, .int .i64 n.kids, .int .i64 n.own, .int .i64 n.len, .int .i64 n.cnt, .string n.data, .int .i64 n.next, .slice none 0 0] ndT) = wN := ⟨_, rfl⟩
      have hxN : Ext w3 wN := by rw [← hWN]; exact (Kp.refl _ _).alloc _
      have hN : Blk wN w3.heap.size (ndA n (.slice none 0 0)) ndT := by rw [← hWN]; exact heap_alloc_new w3 _
      have HN := Lib.hid hN
      have HXN := Lib.hid ((HX2.out.ext hx3).ext hxN)
      have HWN := Lib.hid hWN
      have HND := Lib.hid hn
      have HS3 : Hid (w.heap.size + 1 < w3.heap.size) := by
        have h1 := HX2.out.size
        have h2 := hx3.size
        have h3 := HB.out.lt
        show _ < _
        omega
      clear hWN hN hxN hx3 hn i0 i1 i2 i3 i4 a0 a1 a2 a3 a4
      unfold ndA
      go_upto_region 8 with (fail)
      rw [HWN.out]
      cases only
      · have HTN := Lib.hid (HTB.out.ext HXN.out)
        have HLY := Lib.hid (treeLay_any base b m room t q n (.slice none 0 0) w0 wN HTN.out HOK.out (by rw [HND.out]; exact new_ok _ _ _) (by rw [HND.out]; exact own_nil _) HX.out.2.2.gl HX.out.1 ((HX.out.2.2.ext HX.out.2.1).gl.ext (HXB.out.ext HXN.out)) HQS.out)
        unfold ndA at HLY
        have hn := HN.out
        unfold ndA at hn
        have j0 := hn.cell 0 _ rfl
        have j1 := hn.cell 1 _ rfl
        have j2 := hn.cell 2 _ rfl
        have j3 := hn.cell 3 _ rfl
        have j4 := hn.cell 4 _ rfl
        have j5 := hn.cell 5 _ rfl
        have j6 := hn.cell 6 _ rfl
        have j7 := hn.cell 7 _ rfl
        have j8 := hn.cell 8 _ rfl
        have j9 := hn.cell 9 _ rfl
        clear hn
        go_wp2_with (fail)
        refine HLY.out.mono ?_
        rintro e1 w4 ⟨⟨u, rfl⟩, g, hg, ht4, hk4⟩
        have hnot : ∀ i, w.heap.size ≤ i → ¬ nodeFr m t i := fun i hi h => by have := HFR.out i h; omega
        have hn4 := HN.out.kp hk4 (hnot _ (by have := HS3.out; omega))
        have hr4 := (HB.out.kp HXN.out (fun f => f)).kp hk4 (hnot _ (by omega))
        have HR4 := Lib.hid hr4
        have HT4 := Lib.hid ht4
        have HK4 : Hid (Kp (nodeFr m t) w w4) := (Ext.kp (HXB.out.ext HXN.out)).trans hk4
        unfold ndA at hn4
        unfold rsZ at hr4
        have y0 := hn4.cell 0 _ rfl
        have y1 := hn4.cell 1 _ rfl
        have y2 := hn4.cell 2 _ rfl
        have y3 := hn4.cell 3 _ rfl
        have y4 := hn4.cell 4 _ rfl
        have y5 := hn4.cell 5 _ rfl
        have y6 := hn4.cell 6 _ rfl
        have y7 := hn4.cell 7 _ rfl
        have y8 := hn4.cell 8 _ rfl
        have y9 := hn4.cell 9 _ rfl
        have c0 := hr4.cell 0 _ rfl
        have c1 := hr4.cell 1 _ rfl
        have c2 := hr4.cell 2 _ rfl
        have c3 := hr4.cell 3 _ rfl
        have c4 := hr4.cell 4 _ rfl
        have c5 := hr4.cell 5 _ rfl
        have c6 := hr4.cell 6 _ rfl
        have c7 := hr4.cell 7 _ rfl
        have c8 := hr4.cell 8 _ rfl
        have c9 := hr4.cell 9 _ rfl
        have c10 := hr4.cell 10 _ rfl
        have fc0 := hr4.free 0
        have fc1 := hr4.free 1
        have fc2 := hr4.free 2
        have fc3 := hr4.free 3
        have fc4 := hr4.free 4
        have fc5 := hr4.free 5
        have fc6 := hr4.free 6
        have fc7 := hr4.free 7
        have fc8 := hr4.free 8
        have fc9 := hr4.free 9
        have fc10 := hr4.free 10
        clear hn4 hr4 hk4 ht4 hnot j0 j1 j2 j3 j4 j5 j6 j7 j8 j9 HLY
        go_wp2_with (fail)
        go_light
        refine bodyPost_ret (v := resA 0 q ⟨#[]⟩ (.slice none 0 0) n) (by simp [results, Tryz.results95, go_sem, resA, c0, c1, c2, c3, c4, c5, c6, c7, c8, c9, c10]) rfl ?_
        rw [HE.out]
        have k11 := kp_set11 w4 (w.heap.size + 1) (.int .i64 0) (.string q) (.string ⟨#[]⟩) (.slice none 0 0) (.int .i64 n.made) (.int .i64 n.chg) (.int .i64 n.ver) (.int .i64 n.kids) (.int .i64 n.own) (.int .i64 n.len) (.int .i64 n.cnt)
        have HFG : w.heap.size ≤ g := by have := HXN.out.size; have := HB.out.lt; omega
        exact ⟨_, .slice none 0 0, rfl, own_nil _, HT4.out.aside HR4.out (by decide) (by decide) (by decide) k11, by rw [pl_tell, pl_set]; rfl, HK4.out.next k11 (fun i hi e => by omega), ((Fresh.refl _ _).set HFG _ _).tell _ _⟩
      · have hn := HN.out
        have hr4 := HB.out.kp HXN.out (fun f => f)
        have HR4 := Lib.hid hr4
        unfold ndA at hn
        unfold rsZ at hr4
        have y0 := hn.cell 0 _ rfl
        have y1 := hn.cell 1 _ rfl
        have y2 := hn.cell 2 _ rfl
        have y3 := hn.cell 3 _ rfl
        have y4 := hn.cell 4 _ rfl
        have y5 := hn.cell 5 _ rfl
        have y6 := hn.cell 6 _ rfl
        have y7 := hn.cell 7 _ rfl
        have y8 := hn.cell 8 _ rfl
        have y9 := hn.cell 9 _ rfl
        have c0 := hr4.cell 0 _ rfl
        have c1 := hr4.cell 1 _ rfl
        have c2 := hr4.cell 2 _ rfl
        have c3 := hr4.cell 3 _ rfl
        have c4 := hr4.cell 4 _ rfl
        have c5 := hr4.cell 5 _ rfl
        have c6 := hr4.cell 6 _ rfl
        have c7 := hr4.cell 7 _ rfl
        have c8 := hr4.cell 8 _ rfl
        have c9 := hr4.cell 9 _ rfl
        have c10 := hr4.cell 10 _ rfl
        have fc0 := hr4.free 0
        have fc1 := hr4.free 1
        have fc2 := hr4.free 2
        have fc3 := hr4.free 3
        have fc4 := hr4.free 4
        have fc5 := hr4.free 5
        have fc6 := hr4.free 6
        have fc7 := hr4.free 7
        have fc8 := hr4.free 8
        have fc9 := hr4.free 9
        have fc10 := hr4.free 10
        clear hn hr4
        go_wp2_with (fail)
        go_light
        refine bodyPost_ret (v := resA 0 q ⟨#[]⟩ (.slice none 0 0) n) (by simp [results, Tryz.results95, go_sem, resA, c0, c1, c2, c3, c4, c5, c6, c7, c8, c9, c10]) rfl ?_
        rw [HE.out]
        have k11 := kp_set11 wN (w.heap.size + 1) (.int .i64 0) (.string q) (.string ⟨#[]⟩) (.slice none 0 0) (.int .i64 n.made) (.int .i64 n.chg) (.int .i64 n.ver) (.int .i64 n.kids) (.int .i64 n.own) (.int .i64 n.len) (.int .i64 n.cnt)
        exact ⟨t, .slice none 0 0, rfl, own_nil _, (HTB.out.ext HXN.out).aside HR4.out (by decide) (by decide) (by decide) k11, rfl, (Ext.kp (HXB.out.ext HXN.out)).next k11 (fun i hi e => by omega), Fresh.refl _ _⟩
  · have HE := Lib.hid (hC.out.trans (if_pos he))
    clear hx2 HPL hC
    go_wp2_with (fail)
    refine (fail_any e _).mono ?_
    rintro e1 w3 ⟨rfl, hx3⟩
    have hB3 := (HB.out.kp HX2.out (fun f => f)).kp hx3 (fun f => f)
    have HT3 := Lib.hid ((HTB.out.ext HX2.out).ext hx3)
    have HB3 := Lib.hid hB3
    have HX3 := Lib.hid (((HXB.out.ext HX2.out).ext hx3))
    unfold rsZ at hB3
    have c0 := hB3.cell 0 _ rfl
    have c1 := hB3.cell 1 _ rfl
    have c2 := hB3.cell 2 _ rfl
    have c3 := hB3.cell 3 _ rfl
    have c4 := hB3.cell 4 _ rfl
    have c5 := hB3.cell 5 _ rfl
    have c6 := hB3.cell 6 _ rfl
    have c7 := hB3.cell 7 _ rfl
    have c8 := hB3.cell 8 _ rfl
    have c9 := hB3.cell 9 _ rfl
    have c10 := hB3.cell 10 _ rfl
    have fc0 := hB3.free 0
    have fc1 := hB3.free 1
    have fc2 := hB3.free 2
    have fc3 := hB3.free 3
    have fc4 := hB3.free 4
    have fc5 := hB3.free 5
    have fc6 := hB3.free 6
    have fc7 := hB3.free 7
    have fc8 := hB3.free 8
    have fc9 := hB3.free 9
    have fc10 := hB3.free 10
    clear hB3 hx3
    unfold resA
    go_wp2_with (fail)
    go_light
    refine bodyPost_ret (v := resA e ⟨#[]⟩ ⟨#[]⟩ (.slice none 0 0) ndZ) (by simp [results, Tryz.results95, go_sem, resA, ndZ, c0, c1, c2, c3, c4, c5, c6, c7, c8, c9, c10]) rfl ?_
    rw [HE.out]
    have k11 := kp_set11 w3 (w.heap.size + 1) (.int .i64 e) (.string ⟨#[]⟩) (.string ⟨#[]⟩) (.slice none 0 0) (.int .i64 0) (.int .i64 0) (.int .i64 0) (.int .i64 0) (.int .i64 0) (.int .i64 0) (.int .i64 0)
    exact ⟨t, .slice none 0 0, rfl, own_nil _, HT3.out.aside HB3.out (by decide) (by decide) (by decide) k11, rfl, (Ext.kp HX3.out).next k11 (fun i hi e => by omega), Fresh.refl _ _⟩
end Go.Proofs.YtdagikbdpeblhaaGreatDoor

/- Walks of package aviaryref1: Name, Within, Same, Digits, Number. -/
namespace Go.Proofs.YtdagikbdpeblhaaGreatDoor
set_option maxRecDepth 100000
open Go.RowKit Av

set_option maxHeartbeats 400000 in
theorem refName_any (p : ByteArray) (w : World) (hp : p.size ≤ maxLen) :
    Calls Tryz.prog 102 #[.string p] w fun e w' => e = .returned (.string ⟨(lastL p.data.toList).toArray⟩) ∧ Ext w w' := by
  have HPt := Lib.hid (refParts_any p w hp)
  go_enter Tryz.func102, Tryz.ntmps102
  go_wp2_with (fail)
  refine HPt.out.mono ?_
  rintro e w1 ⟨v, ps, rfl, hps, hst, hx⟩
  obtain ⟨a', c', rfl, hcc, hm, hop⟩ := Strs.open hst
  have HO := Lib.hid hop
  have HPS := Lib.hid hps
  unfold maxLen at hm
  clear hst hop hps
  by_cases h0 : 0 < ps.length
  · obtain ⟨b, off, rfl, hb, hc⟩ := HO.out h0
    have hlt : ps.length - 1 < ps.length := by omega
    have hcell := hc (ps.length - 1) hlt
    have h0' : ((ps.length : Int) == 0) = false := by rw [beq_eq_false_iff_ne]; omega
    have q1 : 1 ≤ (ps.length : Int) := by omega
    have e2 : ((ps.length : Int) - 1).toNat = ps.length - 1 := by omega
    have HL := Lib.hid (last_of HPS.out hlt)
    clear hc
    go_wp2_with (fail)
    go_ret
    go_light
    exact ⟨ret_val (by rw [HL.out]; rfl), hx⟩
  · have h0' : ((ps.length : Int) == 0) = true := by rw [beq_iff_eq]; omega
    have HL := Lib.hid (last_nil HPS.out (by omega))
    go_wp2_with (fail)
    go_ret
    go_light
    exact ⟨ret_val (by rw [HL.out]; rfl), hx⟩

theorem take_step {α : Type} {a b : List α} {k : Nat} (h : a.take k = b.take k) (ha : k < a.length) (hb : k < b.length) (e : a[k] = b[k]) : a.take (k + 1) = b.take (k + 1) := by
  rw [List.take_succ_eq_append_getElem ha, List.take_succ_eq_append_getElem hb, h, e]
/-- Behind k rounds of a loop that holds two slices against each other. -/
def SameRel (w : World) (xs ys : List ByteArray) (i : Value) (wr : World) : Prop :=
  ∃ k : Nat, k ≤ ys.length ∧ i = .int .i64 k ∧ xs.take k = ys.take k ∧ Ext w wr

set_option maxHeartbeats 400000 in
theorem refSame_any (va vb : Value) (xs ys : List ByteArray) (w : World) (ha : Strs w va xs) (hb : Strs w vb ys) :
    Calls Tryz.prog 19 #[va, vb] w fun e w' => e = .returned (.bool (decide (xs = ys))) ∧ Ext w w' := by
  obtain ⟨aa, ca, rfl, hca, hma, hoa⟩ := Strs.open ha
  obtain ⟨ab, cb, rfl, hcb, hmb, hob⟩ := Strs.open hb
  unfold maxLen at hma hmb
  have HA := Lib.hid hoa
  have HB := Lib.hid hob
  clear ha hb hoa hob
  by_cases hl : xs.length = ys.length
  · have hl' : ((xs.length : Int) != ys.length) = false := by rw [bne_eq_false_iff_eq]; omega
    have HL := Lib.hid hl
    clear hl
    go_enter Tryz.func19, Tryz.ntmps19
    go_wp2_with (fail)
    go_loopw [5] (SameRel w xs ys) (fun i _ => xs.length - (intOf i).toNat)
    case atStart => exact ⟨0, Nat.zero_le _, rfl, rfl, Kp.refl _ _⟩
    case round =>
      obtain ⟨k, hk, rfl, ht, hx⟩ := hrel
      have HT := Lib.hid ht
      clear ht
      by_cases hlt : k < xs.length
      · have hlt2 : k < ys.length := by rw [← HL.out]; exact hlt
        obtain ⟨b1, o1, rfl, _, hc1⟩ := HA.out (by omega)
        obtain ⟨b2, o2, rfl, _, hc2⟩ := HB.out (by omega)
        have g1 := hx.cell (hc1 k hlt) (fun f => f)
        have g2 := hx.cell (hc2 k hlt2) (fun f => f)
        have k1 : (k : Int) < xs.length := by omega
        have k2 : (k : Int) < ys.length := by omega
        have hne := str_eq xs[k] ys[k]
        clear hc1 hc2
        by_cases he : xs[k] = ys[k]
        · have hne' : (xs[k].toList == ys[k].toList) = true := by rw [hne]; simp [he]
          have HE := Lib.hid he
          clear he hne
          go_wp2_with (fail)
          go_quiet (fail)
          go_wp2_with (fail)
          go_light
          exact ⟨⟨k + 1, by omega, by go_num, take_step HT.out hlt hlt2 HE.out, hx.drewN _⟩, by simp [intOf]; omega⟩
        · have hne' : (xs[k].toList == ys[k].toList) = false := by rw [hne]; simp [he]
          have HR : Hid (decide (xs = ys) = false) := by
            show _ = false
            rw [decide_eq_false_iff_not]; rintro rfl; exact he rfl
          clear he hne
          go_wp2_with (fail)
          go_quiet (fail)
          go_wp2_with (fail)
          go_ret
          go_light
          exact ⟨ret_bool HR.out.symm, hx.drewN _⟩
      · have HR : Hid (decide (xs = ys) = true) := by
          show _ = true
          have h1 := HT.out
          have h2 := HL.out
          rw [List.take_of_length_le (by omega), List.take_of_length_le (by omega)] at h1
          exact decide_eq_true h1
        go_wp2_with (fail)
        go_ret
        go_light
        exact ⟨ret_bool HR.out.symm, hx⟩
  · have hl' : ((xs.length : Int) != ys.length) = true := by rw [bne_iff_ne]; omega
    have HR : Hid (decide (xs = ys) = false) := by
      show _ = false
      rw [decide_eq_false_iff_not]; rintro rfl; exact hl rfl
    clear hl
    go_enter Tryz.func19, Tryz.ntmps19
    go_wp2_with (fail)
    go_ret
    go_light
    exact ⟨ret_bool HR.out.symm, Kp.refl _ _⟩

end Go.Proofs.YtdagikbdpeblhaaGreatDoor

/- Walks of package aviaryref1: Digits, Number. -/
namespace Go.Proofs.YtdagikbdpeblhaaGreatDoor
set_option maxRecDepth 100000
open Go.RowKit Av

/-- Cells that lay there read as they did. -/
theorem ext_cells {w w' : World} (h : Ext w w') : ∀ b o, b < w.heap.size → w'.cell? ⟨b, o, none⟩ = w.cell? ⟨b, o, none⟩ := fun b _ hb =>
  World.cell?_of_block (w := w) (h.block b hb (fun f => f))
/-- One byte in a block of its own, as a string. -/
theorem conv_one (W : World) (g : Nat) (z : Int) (h : W.cell? ⟨g, 0, none⟩ = some (.int .u8 z)) :
    (convert 227 9 (.slice (some ⟨g, 0, none⟩) 1 1)).run Tryz.prog W = .ok (.string (strOfNums [z])) W :=
  run_convert_bytes_arg W 227 5 Tryz.underlying227 Tryz.underlying5 g 0 1 1 [z] rfl (fun i hi => by
    obtain rfl : i = 0 := by omega
    exact h) 9 Tryz.underlying9
theorem strOne (z : Int) (k : Nat) (h : z = k) : strOfNums [z] = ⟨#[UInt8.ofNat k]⟩ := by subst h; rfl

set_option maxHeartbeats 400000 in
theorem refDigits_one (z : Int) (w : World) (h0 : 0 ≤ z) (h10 : z < 10) :
    Calls Tryz.prog 140 #[.int .u64 z] w fun e w' => e = .returned (.string ⟨(Lib.decDigits z.toNat).toArray⟩) ∧ Ext w w' := by
  have hcv := conv_one
  have HR : Hid (strOfNums [48 + z] = ⟨(Lib.decDigits z.toNat).toArray⟩) := by
    show _ = _
    rw [strOne _ (48 + z.toNat) (by omega), Lib.decDigits, dif_pos (by omega)]
  go_enter Tryz.func140, Tryz.ntmps140
  go_wp2_with (fail)
  go_ret
  go_light
  exact ⟨ret_val (by rw [HR.out]; rfl), (Kp.refl _ _).alloc _⟩

set_option maxHeartbeats 800000 in
theorem refDigits_any : ∀ (k : Nat) (z : Int) (w : World), 0 ≤ z → z < 10 ^ (k + 1) → z ≤ 4294967295 →
    Calls Tryz.prog 140 #[.int .u64 z] w fun e w' => e = .returned (.string ⟨(Lib.decDigits z.toNat).toArray⟩) ∧ Ext w w' := by
  intro k
  induction k with
  | zero =>
    intro z w h0 h1 _
    exact refDigits_one z w h0 (by simpa using h1)
  | succ k ih =>
    intro z w h0 hk h64
    by_cases h10 : z < 10
    · exact refDigits_one z w h0 h10
    · have hcv := conv_one
      have IH := Lib.hid (fun W => ih (z / 10) W (by omega) (by rw [Int.pow_succ] at hk; omega) (by omega))
      have e1 : IntKind.u64.wrap (z.tdiv 10) = z / 10 := by rw [Int.tdiv_eq_ediv_of_nonneg h0]; exact IntWalk.u64_in _ (by omega)
      have e2 : z.tmod 10 = z % 10 := Int.tmod_eq_emod_of_nonneg h0
      have e3 : IntKind.u64.wrap (48 + z % 10) = 48 + z % 10 := IntWalk.u64_in _ (by omega)
      have e4 : IntKind.u8.wrap (48 + z % 10) = 48 + z % 10 := IntWalk.u8_in _ (by omega)
      have hS := strOne (48 + z % 10) (48 + z.toNat % 10) (by omega)
      have hD : Lib.decDigits z.toNat = Lib.decDigits (z / 10).toNat ++ [UInt8.ofNat (48 + z.toNat % 10)] := by
        rw [show (z / 10).toNat = z.toNat / 10 by omega]
        conv => lhs; rw [Lib.decDigits, dif_neg (by omega)]
      have hl : (Lib.decDigits (z / 10).toNat).length ≤ 20 := by rw [Lib.decDigits_length]; exact Nat.le_trans (nDigits_le 9 _ (by omega)) (by omega)
      have HE : Hid ((⟨(Lib.decDigits (z / 10).toNat).toArray⟩ : ByteArray) ++ strOfNums [48 + z % 10] = ⟨(Lib.decDigits z.toNat).toArray⟩) := by
        show _ = _
        rw [hS, hD]
        exact bytes_append _ [_]
      have hsz : (strOfNums [48 + z % 10]).size = 1 := by rw [hS]; rfl
      obtain ⟨S, hSS⟩ : ∃ S, strOfNums [48 + z % 10] = S := ⟨_, rfl⟩
      obtain ⟨D, hDD⟩ : ∃ D, Lib.decDigits (z / 10).toNat = D := ⟨_, rfl⟩
      rw [hSS] at HE hsz
      rw [hDD] at HE IH hl
      have c1 : ∀ wx, (Op.stringOp .add ⟨D.toArray⟩ S).run Tryz.prog wx = .ok (.string (⟨D.toArray⟩ ++ S)) wx := fun wx =>
        run_string_add_sum (P := Tryz.prog) wx _ _ (by have : (⟨D.toArray⟩ : ByteArray).size = D.length := rfl; omega)
      have hcv' : ∀ (W : World) (g : Nat), W.cell? ⟨g, 0, none⟩ = some (.int .u8 (48 + z % 10)) → (convert 227 9 (.slice (some ⟨g, 0, none⟩) 1 1)).run Tryz.prog W = .ok (.string S) W := fun W g h => by
        rw [hcv W g _ h, hSS]
      clear ih hk hcv hS hD hsz hSS hDD hl
      go_enter Tryz.func140, Tryz.ntmps140
      go_wp2_with (fail)
      go_region_with ((go_at_call 140; refine (IH.out _).mono ?_; rintro e w1 ⟨rfl, hx⟩; have hxc := ext_cells hx))
      all_goals
        go_wp2_with (fail)
        go_ret
        go_light
        refine ⟨ret_val (by rw [← HE.out]; rfl), ?_⟩
        first | exact (((Kp.refl _ _).drew.ext hx).alloc _) | exact ((((Kp.refl _ _).alloc _).drew).ext hx)

theorem refDigits_num (n : Int) (w : World) (h0 : 0 ≤ n) (h1 : n ≤ 2147483647) :
    Calls Tryz.prog 140 #[.int .u64 n] w fun e w' => e = .returned (.string ⟨(Lib.decDigits n.toNat).toArray⟩) ∧ Ext w w' :=
  refDigits_any 9 n w h0 (by omega) (by omega)

/-- The loop that puts noughts ahead. -/
def PadRel (D : List UInt8) (s : Value) : Prop := ∃ k : Nat, k ≤ 10 - D.length ∧ s = .string ⟨(List.replicate k 48 ++ D).toArray⟩
def strLen (v : Value) : Nat := match v with | .string s => s.size | _ => 0

set_option maxHeartbeats 800000 in
theorem refNumber_any (p : ByteArray) (n : Int) (w : World) (hp : p.size ≤ maxLen) :
    Calls Tryz.prog 98 #[.string p, .int .i64 n] w fun e w' => e = .returned (.tuple #[.string (optS (numberL p.data.toList n)), .bool (numberL p.data.toList n).isSome]) ∧ Ext w w' := by
  have H1 := Lib.hid (refGood_any p w hp)
  by_cases h0 : 0 ≤ n
  · by_cases h1 : n ≤ 2147483647
    · have HI := Lib.hid (fun w1 => refDigits_num n w1 h0 h1)
      obtain ⟨hd1, hd2⟩ := dec_len (n := n.toNat) (by omega)
      have hpad : padL n.toNat = List.replicate (10 - (Lib.decDigits n.toNat).length) 48 ++ Lib.decDigits n.toNat := rfl
      have hpl := padL_len (n := n.toNat) (by omega)
      have HN : Hid (∀ g1 g2, goodL p.data.toList = g1 → goodL (p.data.toList ++ padL n.toNat) = g2 → numberL p.data.toList n = if g1 && g2 then some (p.data.toList ++ padL n.toNat) else none) := by
        show ∀ g1 g2, _ → _ → _
        rintro g1 g2 rfl rfl
        unfold numberL
        simp [h0, h1]
      obtain ⟨D, hD⟩ : ∃ D, Lib.decDigits n.toNat = D := ⟨_, rfl⟩
      obtain ⟨Z, hZ⟩ : ∃ Z, padL n.toNat = Z := ⟨_, rfl⟩
      rw [hD] at hd1 hd2 hpad HI
      rw [hZ] at hpad hpl HN
      have HP := Lib.hid hpad
      have hu : IntKind.u64.wrap n = n := IntWalk.u64_in _ (by omega)
      clear hD hZ hpad
      go_enter Tryz.func98, Tryz.ntmps98
      go_wp2_with (fail)
      refine H1.out.mono ?_
      rintro e w1 ⟨rfl, hx1⟩
      cases g1 : goodL p.data.toList with
      | false =>
        have hr := HN.out false _ g1 rfl
        simp only [Bool.false_and, Bool.false_eq_true, if_false] at hr
        have HR := Lib.hid hr
        clear g1 hr
        go_wp2_with (fail)
        go_ret2
        go_light
        exact ⟨by rw [HR.out]; rfl, hx1⟩
      | true =>
        have G1 := Lib.hid g1
        have hql : p.size ≤ 200 := path_small p g1
        clear g1
        go_wp2_with (fail)
        refine (HI.out w1).mono ?_
        rintro e w2 ⟨rfl, hx2⟩
        go_wp2_with (fail)
        have hx := hx1.ext hx2
        go_loop [6] (PadRel D) (fun s => 10 - strLen s)
        case atStart => exact ⟨0, by omega, by simp⟩
        case round =>
          obtain ⟨k, hk, rfl⟩ := hrel
          obtain ⟨R, hR⟩ : ∃ R, List.replicate k (48 : UInt8) ++ D = R := ⟨_, rfl⟩
          have hrl : R.length = k + D.length := by rw [← hR]; simp
          have hsz : (⟨R.toArray⟩ : ByteArray).size = k + D.length := by show R.toArray.size = _; simp [hrl]
          rw [hR]
          by_cases hlt : k < 10 - D.length
          · have c1 : ∀ wx, (Op.stringOp .add ⟨#[48]⟩ ⟨R.toArray⟩).run Tryz.prog wx = .ok (.string ⟨(48 :: R).toArray⟩) wx := fun wx => by
              rw [run_string_add_sum (P := Tryz.prog) wx _ _ (by rw [hsz]; have : (⟨#[48]⟩ : ByteArray).size = 1 := rfl; omega)]
              rw [show (⟨#[48]⟩ : ByteArray) = ⟨[48].toArray⟩ from rfl, bytes_append]; rfl
            have hl10 : R.length < 10 := by omega
            have hl10' : (R.length : Int) < 10 := by omega
            have HRR : Hid (48 :: R = List.replicate (k + 1) 48 ++ D) := by show _ = _; rw [← hR]; rfl
            have HSZ := Lib.hid hsz
            clear hR hrl hsz
            go_wp2_with (fail)
            go_light
            refine ⟨⟨k + 1, by omega, by rw [HRR.out]⟩, ?_⟩
            have h1 := HSZ.out
            have h2 : (⟨(48 :: R).toArray⟩ : ByteArray).size = R.length + 1 := by show (48 :: R).toArray.size = _; simp
            have h3 : (⟨R.toArray⟩ : ByteArray).size = R.length := by show R.toArray.size = _; simp
            simp only [strLen, h2, h3]
            omega
          · have hke : R = Z := by rw [← hR, HP.out, show k = 10 - D.length by omega]
            subst hke
            have hl10 : ¬ R.length < 10 := by omega
            have hl10' : ¬ (R.length : Int) < 10 := by omega
            have hRl : (⟨R.toArray⟩ : ByteArray).size ≤ 10 := by omega
            have c2 : ∀ wx, (Op.stringOp .add p ⟨R.toArray⟩).run Tryz.prog wx = .ok (.string ⟨(p.data.toList ++ R).toArray⟩) wx := fun wx => by
              rw [run_string_add_sum (P := Tryz.prog) wx _ _ (by omega)]
              conv => lhs; rw [← bytes_self p]
              rw [bytes_append]
            have HC : Hid ((⟨(p.data.toList ++ R).toArray⟩ : ByteArray).size ≤ maxLen) := by
              show (p.data.toList ++ R).toArray.size ≤ _
              rw [List.size_toArray, List.length_append, ← Lib.size_eq, hpl]; unfold maxLen; omega
            clear hR hrl hsz hpl hRl hlt hk
            go_wp2_with (fail)
            refine (refGood_any _ _ HC.out).mono ?_
            rintro e w4 ⟨rfl, hx4⟩
            rw [show (⟨(p.data.toList ++ R).toArray⟩ : ByteArray).data.toList = p.data.toList ++ R by simp]
            cases g2 : goodL (p.data.toList ++ R) with
            | false =>
              have hr := HN.out _ _ G1.out g2
              simp only [Bool.and_false, Bool.false_eq_true, if_false] at hr
              have HR := Lib.hid hr
              clear g2 hr
              go_wp2_with (fail)
              go_ret2
              go_light
              exact ⟨by rw [HR.out]; rfl, hx.ext hx4⟩
            | true =>
              have hr := HN.out _ _ G1.out g2
              simp only [Bool.and_true, if_true] at hr
              have HR := Lib.hid hr
              clear g2 hr
              go_wp2_with (fail)
              go_ret2
              go_light
              exact ⟨by rw [HR.out]; rfl, hx.ext hx4⟩
    · have hr : numberL p.data.toList n = none := by simp [numberL, h1]
      have HR := Lib.hid hr
      have h1' : 2147483647 < n := by omega
      clear hr
      go_enter Tryz.func98, Tryz.ntmps98
      go_wp2_with (fail)
      refine H1.out.mono ?_
      rintro e w1 ⟨rfl, hx1⟩
      cases g1 : goodL p.data.toList
      all_goals
        clear g1
        go_wp2_with (fail)
        go_ret2
        go_light
        exact ⟨by rw [HR.out]; rfl, hx1⟩
  · have hr : numberL p.data.toList n = none := by simp [numberL, h0]
    have HR := Lib.hid hr
    have h0' : n < 0 := by omega
    clear hr
    go_enter Tryz.func98, Tryz.ntmps98
    go_wp2_with (fail)
    refine H1.out.mono ?_
    rintro e w1 ⟨rfl, hx1⟩
    cases g1 : goodL p.data.toList
    all_goals
      clear g1
      go_wp2_with (fail)
      go_ret2
      go_light
      exact ⟨by rw [HR.out]; rfl, hx1⟩
end Go.Proofs.YtdagikbdpeblhaaGreatDoor
