/- Walks of package op: Tops. -/
import Derived.Test.YtmgnndhhpnedkaaGreatDoorAvTopsLaw
import Derived.Test.YtmgnndhhpnedkaaGreatDoorAvWPathC
import Derived.Test.YtmgnndhhpnedkaaGreatDoorAvOps
import Derived.Test.YtmgnndhhpnedkaaGreatDoorAvDagApp
import Derived.Sort.OwnSorted
import Derived.Shelf.Slices.In.SortNone
import Derived.Test.YtmgnndhhpnedkaaGreatDoorShelf
namespace Go.Proofs.YtmgnndhhpnedkaaGreatDoor
set_option maxRecDepth 100000
open Go.RowKit Av

/-- The first names of ops that have one. -/
def namesOf (xs : List OpV) : List Bs := (xs.map fun o => topL o.path.data.toList).filter fun s => decide (s ≠ [])
theorem namesOf_snoc {xs : List OpV} {k : Nat} (hk : k < xs.length) : namesOf (xs.take (k + 1)) = namesOf (xs.take k) ++ (if topL xs[k].path.data.toList = [] then [] else [topL xs[k].path.data.toList]) := by
  unfold namesOf
  rw [List.take_succ_eq_append_getElem hk, List.map_append, List.filter_append]
  by_cases h : topL xs[k].path.data.toList = [] <;> simp [h]
theorem namesOf_ne (xs : List OpV) : ∀ x ∈ namesOf xs, x ≠ [] := fun x hx => by simpa using (List.mem_filter.1 hx).2
theorem namesOf_len (xs : List OpV) : (namesOf xs).length ≤ xs.length := by
  unfold namesOf
  have := List.length_filter_le (fun s => decide (s ≠ [])) (xs.map fun o => topL o.path.data.toList)
  simpa using this
theorem str_facts1 : ElemOk Tryz.prog 60 9 1 := ⟨by kernel_rfl, by kernel_rfl⟩
theorem str_list (T : Bs) : (⟨T.toArray⟩ : ByteArray).toList = T := by rw [Go.Lib.toList_data]
/-- Names that can be read. -/
def NmR (w : World) (v : Value) (l : List Bs) : Prop := Sl w 1 v l.length (l.map encStr) ∧ Shp v
theorem NmR.ext {w w' : World} {v : Value} {l : List Bs} (h : NmR w v l) (k : Ext w w') : NmR w' v l := ⟨h.1.ext k, h.2⟩
theorem NmR.open {w : World} {v : Value} {l : List Bs} (h : NmR w v l) : ∃ a c, v = .slice a l.length c ∧ l.length ≤ c ∧ l.length ≤ maxLen ∧ (0 < l.length → ∃ b off, a = some ⟨b, off, none⟩ ∧ b < w.heap.size ∧ ∀ i (hi : i < l.length), w.cell? ⟨b, off + i, none⟩ = some (.string ⟨l[i].toArray⟩)) := by
  obtain ⟨a, c, rfl, hcc, h1, h2, h3⟩ := Sl.open h.1
  refine ⟨a, c, rfl, hcc, h1, fun hn => ?_⟩
  obtain ⟨b, off, rfl, hb, hc⟩ := h3 hn
  exact ⟨b, off, rfl, hb, fun i hi => hc i _ (by rw [List.getElem?_map, List.getElem?_eq_getElem hi]; rfl)⟩
theorem enc_one (l : List Bs) : ∀ y ∈ l.map encStr, y.oneCell' = true := by
  intro y hy
  obtain ⟨b, _, rfl⟩ := List.mem_map.1 hy
  rfl
theorem NmR.strs {w : World} {v : Value} {l : List Bs} (h : NmR w v l) : Strs w v (l.map mkS) := by
  have := h.1
  unfold Strs
  rw [List.length_map, List.map_map]
  exact this
/-- A row that is owned, read from its head on. -/
theorem nm_head {w : World} {base g cap n : Nat} {e : TypeId} {ts r : List Bs} (h : w.ownsRow base e 1 (.slice (some ⟨g, 0, none⟩) n cap) n ((ts ++ r).map encStr)) : NmR w (.slice (some ⟨g, 0, none⟩) ts.length cap) ts := by
  have hs := Sl.of_owns h
  obtain ⟨a, c, e1, hcc, h1, h2, h3⟩ := Sl.open hs
  simp only [Value.slice.injEq, true_and] at e1
  obtain ⟨rfl, rfl⟩ := e1
  simp only [List.length_map, List.length_append, Nat.mul_one] at h2
  refine ⟨⟨by simp, by omega, _, _, rfl, by omega, ?_⟩, Shp.some⟩
  by_cases h0 : ts.length = 0
  · exact .inl h0
  · obtain ⟨b, off, e2, hb, hc⟩ := h3 (by omega)
    simp only [Option.some.injEq, Addr.mk.injEq, and_true] at e2
    obtain ⟨rfl, rfl⟩ := e2
    refine .inr ⟨g, 0, rfl, hb, fun i x hx => hc i x ?_⟩
    have hi : i < (ts.map encStr).length := (List.getElem?_eq_some_iff.1 hx).1
    rw [List.map_append, List.getElem?_append_left hi]
    exact hx
def TopsRel (w : World) (base : Nat) (xs : List OpV) (v i : Value) (wr : World) : Prop :=
  ∃ k : Nat, k ≤ xs.length ∧ i = .int .i64 k ∧ wr.ownsRow base 9 1 v (namesOf (xs.take k)).length ((namesOf (xs.take k)).map encStr) ∧ Ext w wr ∧ (namesOf (xs.take k) = [] → v = .slice none 0 0)

set_option maxHeartbeats 1600000 in
theorem tops_any (v : Value) (xs : List OpV) (w : World) (hG : GT w) (h : OpsAt w v xs) (hsz : OpsSz xs) (hn : xs.length ≤ 1000000) :
    Calls Tryz.prog 23 #[v] w fun e w' => ∃ v, e = .returned v ∧ NmR w' v (topsOf (xs.map fun o => topL o.path.data.toList)) ∧ Ext w w' := by
  obtain ⟨a, c, rfl, hcc, hm, hop⟩ := OpsAt.open h
  unfold maxLen at hm
  have HOP := Lib.hid hop
  have HSZ := Lib.hid hsz
  have HG := Lib.hid hG
  clear h hop hsz hG
  go_enter Tryz.func23, Tryz.ntmps23
  go_wp2_with (fail)
  go_loopw [3, 9] (fun v i wr => TopsRel w w.heap.size xs v i wr) (fun _ i _ => xs.length - (intOf i).toNat)
  case atStart => exact ⟨0, Nat.zero_le _, rfl, ⟨rfl, .inl ⟨rfl, rfl⟩⟩, Kp.refl _ _, fun _ => rfl⟩
  case round =>
    obtain ⟨k, hk, rfl, hown, hxr, hnil⟩ := hrel
    have hsz := hxr.size
    have HOW := Lib.hid hown
    have HXR := Lib.hid hxr
    have HNI := Lib.hid hnil
    clear hown hxr hnil
    by_cases hlt : k < xs.length
    · obtain ⟨b, off, rfl, hb, hc⟩ := HOP.out (by omega)
      obtain ⟨c0, c1, c2, c3, c4⟩ := hc k hlt
      have d0 := HXR.out.cell c0 (fun f => f)
      have d1 := HXR.out.cell c1 (fun f => f)
      have d2 := HXR.out.cell c2 (fun f => f)
      have d3 := HXR.out.cell c3 (fun f => f)
      have d4 := HXR.out.cell c4 (fun f => f)
      have k1 : (k : Int) < xs.length := by omega
      have HSN := Lib.hid (namesOf_snoc hlt)
      have hps := (HSZ.out _ (List.getElem_mem hlt)).1
      obtain ⟨⟨kk, p, dd, vv, ff⟩, hx⟩ : ∃ o, xs[k] = o := ⟨_, rfl⟩
      rw [hx] at d0 d1 d2 d3 d4 HSN hps
      simp only at d0 d1 d2 d3 d4 hps
      obtain ⟨wX, hwX⟩ : ∃ wX, wr.alloc (.cells #[.int .i64 kk, .string p, .string dd, .int .i64 vv, .int .i64 ff] 59) = wX := ⟨_, rfl⟩
      have hxX : Ext wr wX := by rw [← hwX]; exact (Kp.refl _ _).alloc _
      have hbX : Blk wX wr.heap.size #[.int .i64 kk, .string p, .string dd, .int .i64 vv, .int .i64 ff] 59 := by rw [← hwX]; exact heap_alloc_new wr _
      have e1 := hbX.cell 1 _ rfl
      have HCON := Lib.hid (pathTop_any p wX (HG.out.gl.ext (HXR.out.ext hxX)) hps)
      have HXX := Lib.hid hxX
      have HWX := Lib.hid hwX
      obtain ⟨T, hT⟩ : ∃ T, topL p.data.toList = T := ⟨_, rfl⟩
      have HSN2 : Hid (namesOf (xs.take (k + 1)) = namesOf (xs.take k) ++ (if T = [] then [] else [T])) := by show _ = _; rw [HSN.out, ← hT]
      rw [hT] at HCON
      clear c0 c1 c2 c3 c4 hc hx hxX hbX hwX hT HSN hps
      go_upto_region 5 with (fail)
      rw [HWX.out]
      go_wp2_with (fail)
      refine HCON.out.mono ?_
      rintro e w1 ⟨rfl, hx1⟩
      have HX1 := Lib.hid ((HXR.out.ext HXX.out).ext hx1)
      have HO1 := Lib.hid (ownsRow.ext HOW.out (HXX.out.ext hx1))
      have hs1 := hx1.size
      have hs2 := HXX.out.size
      clear hx1 HCON
      by_cases hT0 : T = []
      · subst hT0
        have HE : Hid (namesOf (xs.take (k + 1)) = namesOf (xs.take k)) := by show _ = _; rw [HSN2.out]; simp
        clear HSN2
        go_wp2_with (fail)
        go_light
        exact ⟨⟨k + 1, by omega, by go_num, by rw [HE.out]; exact HO1.out, HX1.out, by rw [HE.out]; exact HNI.out⟩, by simp [intOf]; omega⟩
      · have HE : Hid (namesOf (xs.take (k + 1)) = namesOf (xs.take k) ++ [T]) := by show _ = _; rw [HSN2.out, if_neg hT0]
        have n1 : List.isEmpty T = false := by cases T with | nil => exact absurd rfl hT0 | cons _ _ => rfl
        have n2 : (!List.isEmpty T) = true := by rw [n1]; rfl
        have HLE : Hid ((namesOf (xs.take k)).length ≤ 1000000) := by
          show _ ≤ _
          have h1 := namesOf_len (xs.take k)
          rw [List.length_take] at h1
          omega
        have hone := enc_one [T]
        clear HSN2
        go_wp2_with (at_builtin; refine wpList_appK 60 9 1 (by decide) str_facts1 rfl _ _ rfl w.heap.size _ _ _ rfl (ownsRow.ext HO1.out ((Kp.refl _ w1).alloc _)) _ 1 ([T].map encStr) rfl (Sl.of_block (heap_alloc_new w1 _) rfl (by decide) (Nat.le_refl _)) Shp.some hone ?c1 ?c2 ?_)
        case c1 => have := HLE.out; omega
        case c2 => first | omega | (simp; omega)
        intro v' w' h1 k2
        have hx' : Ext w w' := (HX1.out.ext ((Kp.refl _ w1).alloc (.cells #[.string ⟨T.toArray⟩] 9))).next k2 (fun i hi e => by have := owns_base HO1.out i e; omega)
        have HX' := Lib.hid hx'
        have HO' := Lib.hid h1
        clear h1 k2 hx'
        go_wp2_with (fail)
        go_light
        refine ⟨⟨k + 1, by omega, by go_num, ?_, HX'.out, fun e => ?_⟩, by simp [intOf]; omega⟩
        · rw [HE.out, List.length_append, List.map_append]
          exact HO'.out
        · rw [HE.out] at e; simp at e
    · obtain rfl : k = xs.length := by omega
      rw [List.take_length] at HOW HNI
      have HCT := Lib.hid (compact_tops (namesOf xs) (namesOf_ne xs))
      have HTN : Hid (topsOf (namesOf xs) = topsOf (xs.map fun o => topL o.path.data.toList)) := by
        show _ = _
        refine rising_ext (topsOf_rising _) (topsOf_rising _) (fun x => ?_)
        rw [topsOf_mem, topsOf_mem]
        unfold namesOf
        rw [List.mem_filter]
        simp only [decide_eq_true_eq]
        exact ⟨fun h => h.1, fun h => ⟨h, h.2⟩⟩
      have hnl := namesOf_len xs
      generalize namesOf xs = nm at *
      by_cases hN : nm = []
      · subst hN
        obtain rfl := HNI.out rfl
        clear HOW HNI
        go_wp2_with (fail)
        refine (Any.slices_Sort_string_none Tryz.lays190 none 0 wr).mono ?_
        rintro e w2 ⟨rfl, rfl⟩
        go_wp2_with (fail)
        refine (Tryz.slices_Compact_string_empty none 0 w2).mono ?_
        rintro e w3 ⟨rfl, rfl⟩
        go_wp2_with (fail)
        go_ret
        go_light
        refine ⟨.slice none 0 0, rfl, ?_, HXR.out⟩
        rw [← HTN.out]
        exact ⟨Sl.nil _ _, .inl rfl⟩
      · rcases HOW.out.2 with ⟨hnil, hn0⟩ | ⟨g, cap, cur, rfl, hbase, hb, h1, h2, h3, h4⟩
        · exact absurd (List.length_eq_zero_iff.1 hn0) hN
        · have hH : Sort.Holds encStr wr g 0 nm.toArray := holds_of_block hb (by simpa using h4)
          have HST := Lib.hid (Tryz.slices_Sort_string g 0 cap nm wr hH (Array.getElem?_eq_some_iff.1 hb).1 (by omega))
          have HSO := Lib.hid (fun n os => ownsRow_sorted (n := n) (os := os) (ss := nm) (ts := nm.mergeSort fun x y => decide (x ≤ y)) (by simp) hbase hb h1 h2 h3)
          have hgr := fun n os => grownBy_sorted (w := wr) (g := g) (n := n) (os := os) (nm.mergeSort fun x y => decide (x ≤ y)).toArray
          have HGR := Lib.hid hgr
          have hml : (nm.mergeSort fun x y => decide (x ≤ y)).length = nm.length := by simp
          generalize (nm.mergeSort fun x y => decide (x ≤ y)) = ms at *
          clear hH hb h1 h2 h3 h4 hgr HOW HNI
          go_wp2_with (fail)
          refine HST.out.mono ?_
          rintro e w2 ⟨rfl, n, os, hw2⟩
          have ho2 := HSO.out n os
          have hx2 : Ext w w2 := by
            rw [hw2]
            exact HXR.out.next ((Kp.refl (fun i => i = g) wr).grown (HGR.out n os) (fun k hk _ => by simpa using hk.symm)) (fun i hi e => by have := hbase; omega)
          rw [← hw2] at ho2
          have HX2 := Lib.hid hx2
          rcases ho2.2 with ⟨hnil, _⟩ | ⟨g', cap', cur', e3, hbase', hb', h1', h2', h3', h4'⟩
          · cases hnil
          · simp only [Value.slice.injEq, Option.some.injEq, Addr.mk.injEq, and_true, true_and] at e3
            obtain ⟨rfl, rfl⟩ := e3
            rw [← hml] at h1' h4'
            have hH : Sort.Holds encStr w2 g 0 ms.toArray := holds_of_block hb' (by simpa using h4')
            have HCC := Lib.hid (Tryz.slices_Compact_string g 0 cap ms w2 hH (by rw [hml]; omega) h1')
            rw [HCT.out, hml] at HCC
            have hcl : (topsOf nm).length ≤ ms.length := by rw [← HCT.out]; exact Lib.compact_length_le ms
            have HCO := Lib.hid (fun n => ownsRow_sorted (n := n) (os := #[]) (ss := ms) (ts := topsOf nm ++ List.replicate (ms.length - (topsOf nm).length) []) (by simp; omega) hbase' hb' h1' h2' h3')
            have HGC := Lib.hid (fun n => grownBy_sorted (w := w2) (g := g) (n := n) (os := #[]) (topsOf nm ++ List.replicate (ms.length - (topsOf nm).length) []).toArray)
            clear hH hb' h1' h2' h3' h4' ho2 hw2 hx2 HST HSO HGR
            go_wp2_with (fail)
            refine HCC.out.mono ?_
            rintro e w3 ⟨rfl, q, hw3⟩
            have ho3 := HCO.out q
            rw [hml, Sort.grow_empty, ← hw3] at ho3
            have hx3 : Ext w w3 := by
              have hg := HGC.out q
              rw [hml, Sort.grow_empty, ← hw3] at hg
              exact HX2.out.next ((Kp.refl (fun i => i = g) w2).grown hg (fun k hk _ => by simpa using hk.symm)) (fun i hi e => by have := hbase; omega)
            have HX3 := Lib.hid hx3
            have HN3 := Lib.hid (nm_head ho3)
            clear ho3 hx3 hw3
            go_wp2_with (fail)
            go_ret
            go_light
            refine ⟨_, rfl, ?_, HX3.out⟩
            rw [← HTN.out]
            exact HN3.out
end Go.Proofs.YtmgnndhhpnedkaaGreatDoor
