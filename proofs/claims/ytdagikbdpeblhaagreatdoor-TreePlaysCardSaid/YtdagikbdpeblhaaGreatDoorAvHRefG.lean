


/- Walks over the reference's tree: Do that reads. -/
import Derived.Test.YtdagikbdpeblhaaGreatDoorAvHRefF
namespace Go.Proofs.YtdagikbdpeblhaaGreatDoor
set_option maxRecDepth 100000
open Go.RowKit Av

set_option maxHeartbeats 6400000 in
theorem do_read (base g : Nat) (room : Int) (v : Value) (E : List Ent) (k : Int) (p d : ByteArray) (ver f sess z : Int) (w : World) (h : RefA w base g room v E) (hr : Rising (keysR (entL E))) (hp : p.size ≤ 1000000) (hd : d.size ≤ 1000000) (hgood : goodO ⟨k, p, d, ver, f⟩ = 0 ∧ 1 ≤ sess ∧ 0 ≤ z) (hk1 : k ≠ 1) {n : NodeV} (hg : mget (entL E) p = some n) (hkd : k = 5 ∨ k = 6 ∨ k = 7) :
    Calls Tryz.prog 10 #[.pointer (some ⟨g, 0, none⟩), .agg #[.int .i64 k, .string p, .string d, .int .i64 ver, .int .i64 f], .int .i64 sess, .int .i64 z] w fun e w' => RDPost w base g room v (doL room (entL E) ⟨k, p, d, ver, f⟩ sess z) e w' := by
  obtain ⟨wA, hWA⟩ : ∃ wA, w.alloc (.cells #[.int .i64 k, .string p, .string d, .int .i64 ver, .int .i64 f] 33) = wA := ⟨_, rfl⟩
  have hxA : Ext w wA := by rw [← hWA]; exact (Kp.refl _ _).alloc _
  have hA : Blk wA w.heap.size #[.int .i64 k, .string p, .string d, .int .i64 ver, .int .i64 f] 33 := by rw [← hWA]; exact heap_alloc_new w _
  obtain ⟨wB, hWB⟩ : ∃ wB, wA.alloc (.cells rsZ rsuT) = wB := ⟨_, rfl⟩
  have hxB : Ext wA wB := by rw [← hWB]; exact (Kp.refl _ _).alloc _
  have hsA : wA.heap.size = w.heap.size + 1 := by rw [← hWA]; exact World.size_alloc _ _
  have hB : Blk wB (w.heap.size + 1) rsZ rsuT := by rw [← hWB, ← hsA]; exact heap_alloc_new wA _
  have HAB := Lib.hid (hA.kp hxB (fun f => f))
  have HB := Lib.hid hB
  have HXB := Lib.hid (hxA.ext hxB)
  have HRB := Lib.hid (h.ext (hxA.ext hxB))
  have HWA := Lib.hid hWA
  unfold rsZ at hWB
  have HWB := Lib.hid hWB
  have HOP : Hid (Calls Tryz.prog 48 #[.agg #[.int .i64 k, .string p, .string d, .int .i64 ver, .int .i64 f]] wB fun e w' => e = .returned (.int .i64 (goodO ⟨k, p, d, ver, f⟩)) ∧ Ext wB w') := refOp_any ⟨k, p, d, ver, f⟩ wB (by show p.size ≤ _; unfold maxLen; omega) (by show d.size ≤ _; unfold maxLen; omega)
  have HAT := Lib.hid (fun W (hW : Ext wB W) => at_any base g room v E p W ((h.ext (hxA.ext hxB)).ext hW))
  obtain ⟨X, hX⟩ : ∃ X, doL room (entL E) ⟨k, p, d, ver, f⟩ sess z = X := ⟨_, rfl⟩
  rw [hX]
  have HC : Hid (X = doL room (entL E) ⟨k, p, d, ver, f⟩ sess z) := hX.symm
  clear hWA hxA hA hWB hxB hB hsA hX
  obtain ⟨hg0, hs1, hz1⟩ := hgood
  rw [hg0] at HOP
  have s0 : ¬ sess < 1 := by omega
  have s1 : ¬ z < 0 := by omega
  have q1 : (k == 1) = false := by simpa using hk1
  have HE : Hid (X = (entL E, readP (entL E) ⟨k, p, d, ver, f⟩)) := by
    show _ = _
    rw [HC.out]
    unfold doL
    rw [if_neg (by rw [hg0]; simp), if_neg (by omega), if_neg hk1, if_neg (by show ¬ (k = 2 ∨ k = 3 ∨ k = 4); omega)]
  unfold readP at HE
  rw [hg] at HE
  clear HC hg0 hs1 hz1 hk1
  obtain ⟨hk, hkp, hkn⟩ := at_ent hr hg
  rw [isAt_some hr hg] at HAT
  clear h hr
  generalize hkk : atR (entL E) p = j at *
  clear hkk
  obtain ⟨va, vc, rfl⟩ := owns_slice HRB.out.ents.row
  have HROW : Hid (∃ q, va = some ⟨q, 0, none⟩ ∧ RowB wB q entT 11 vc (E.flatMap entC)) := by
    have h1 : E.length ≠ 0 := by omega
    rcases HRB.out.ents.row.2 with ⟨_, h2⟩ | ⟨q, cc, cur, h2, _⟩
    · exact absurd h2 h1
    · simp only [Value.slice.injEq] at h2
      obtain ⟨rfl, _⟩ := h2
      obtain ⟨q2, e2, hr2, _⟩ := RowB.of_owns HRB.out.ents.row
      exact ⟨q2, congrArg some e2, hr2⟩
  obtain ⟨q, rfl, hrow⟩ := HROW.out
  have HROWB := Lib.hid hrow
  obtain ⟨nv, hnv⟩ : ∃ nv, E[j].nv = nv := ⟨_, rfl⟩
  have HNM : Hid (NmO wB nv n.names) := by
    have := HRB.out.ents.ok _ (List.getElem_mem hk)
    unfold EntOk at this
    rw [hkn, hnv] at this
    exact this
  obtain ⟨na, nc, rfl⟩ := owns_slice HNM.out
  have HKE : Hid (entC E[j] = [.string p, .int .i64 n.made, .int .i64 n.chg, .int .i64 n.ver, .int .i64 n.kids, .int .i64 n.own, .int .i64 n.len, .int .i64 n.cnt, .string n.data, .int .i64 n.next, .slice na n.names.length nc]) := by show _ = _; unfold entC; rw [hkp, hkn, hnv]
  clear hrow HROW hkn hnv
  have hjI : (j : Int) < (E.length : Int) := by omega
  have hj0 : (0 : Int) ≤ (j : Int) := by omega
  clear hg
  rcases hkd with rfl | rfl | rfl
  · go_enter Tryz.func10, Tryz.ntmps10
    go_upto_region 1 with (fail)
    rw [HWA.out]
    rw [HWB.out]
    have hab := HAB.out
    have a0 := hab.cell 0 _ rfl
    have a1 := hab.cell 1 _ rfl
    have a2 := hab.cell 2 _ rfl
    have a3 := hab.cell 3 _ rfl
    have a4 := hab.cell 4 _ rfl
    clear hab
    go_wp2_with (fail)
    refine HOP.out.mono ?_
    rintro e w1 ⟨rfl, hx1⟩
    have HX1 := Lib.hid hx1
    have hab := HAB.out.kp hx1 (fun f => f)
    clear hx1 a0 a1 a2 a3 a4
    have b0 := hab.cell 0 _ rfl
    have b1 := hab.cell 1 _ rfl
    have b2 := hab.cell 2 _ rfl
    have b3 := hab.cell 3 _ rfl
    have b4 := hab.cell 4 _ rfl
    clear hab
    go_wp2_with (fail)
    refine (HAT.out w1 HX1.out).mono ?_
    rintro e w2 ⟨rfl, hx2⟩
    have HX2 := Lib.hid (HX1.out.trans hx2)
    clear hx2
    have c1 := (HRB.out.ext HX2.out).blk.cell 1 _ rfl
    have hrw := HROWB.out.kp HX2.out (fun f => f)
    have r1 := rowE hrw hk HKE.out 1 _ (by decide) rfl
    have r2 := rowE hrw hk HKE.out 2 _ (by decide) rfl
    have r3 := rowE hrw hk HKE.out 3 _ (by decide) rfl
    have r4 := rowE hrw hk HKE.out 4 _ (by decide) rfl
    have r5 := rowE hrw hk HKE.out 5 _ (by decide) rfl
    have r6 := rowE hrw hk HKE.out 6 _ (by decide) rfl
    have r7 := rowE hrw hk HKE.out 7 _ (by decide) rfl
    have r8 := rowE hrw hk HKE.out 8 _ (by decide) rfl
    have r9 := rowE hrw hk HKE.out 9 _ (by decide) rfl
    have r10 := rowE hrw hk HKE.out 10 _ (by decide) rfl
    clear hrw
    go_upto_region 12 with (fail)
    obtain ⟨w3, hw3⟩ : ∃ w3, w2.alloc (.cells #[.int .i64 n.made, .int .i64 n.chg, .int .i64 n.ver, .int .i64 n.kids, .int .i64 n.own, .int .i64 n.len, .int .i64 n.cnt, .string n.data, .int .i64 n.next, .slice na n.names.length nc] rnT) = w3 := ⟨_, rfl⟩
    rw [hw3]
    have hx3 : Ext w2 w3 := by rw [← hw3]; exact (Kp.refl _ _).alloc _
    have hn3 : Blk w3 w2.heap.size (ndA n (.slice na n.names.length nc)) rnT := by rw [← hw3]; exact heap_alloc_new w2 _
    have HX3 := Lib.hid (HX2.out.trans hx3)
    have HN3 := Lib.hid hn3
    clear hw3 hx3 hn3 r1 r2 r3 r4 r5 r6 r7 r8 r9 r10 c1 b0 b1 b2 b3 b4
    have hab := HAB.out.kp HX3.out (fun f => f)
    have hn := HN3.out
    unfold ndA at hn
    have a0 := hab.cell 0 _ rfl
    have a1 := hab.cell 1 _ rfl
    have a2 := hab.cell 2 _ rfl
    have a3 := hab.cell 3 _ rfl
    have a4 := hab.cell 4 _ rfl
    have l0 := hn.cell 0 _ rfl
    have l1 := hn.cell 1 _ rfl
    have l2 := hn.cell 2 _ rfl
    have l3 := hn.cell 3 _ rfl
    have l4 := hn.cell 4 _ rfl
    have l5 := hn.cell 5 _ rfl
    have l6 := hn.cell 6 _ rfl
    have l7 := hn.cell 7 _ rfl
    have l8 := hn.cell 8 _ rfl
    have l9 := hn.cell 9 _ rfl
    clear hab hn
    go_upto_region 15 with (fail)
    obtain ⟨w4, hw4⟩ : ∃ w4, w3.alloc (.cells #[.int .i64 0, .string p, .string ⟨#[]⟩, .slice none 0 0, .int .i64 0, .int .i64 0, .int .i64 0, .int .i64 0, .int .i64 0, .int .i64 0, .int .i64 0] rsuT) = w4 := ⟨_, rfl⟩
    rw [hw4]
    have hx4 : Ext w3 w4 := by rw [← hw4]; exact (Kp.refl _ _).alloc _
    have hr4 : Blk w4 w3.heap.size #[.int .i64 0, .string p, .string ⟨#[]⟩, .slice none 0 0, .int .i64 0, .int .i64 0, .int .i64 0, .int .i64 0, .int .i64 0, .int .i64 0, .int .i64 0] rsuT := by rw [← hw4]; exact heap_alloc_new w3 _
    have HX4 := Lib.hid (HX3.out.trans hx4)
    have HN4 := Lib.hid (HN3.out.kp hx4 (fun f => f))
    have HR4 := Lib.hid hr4
    have hs3 : w2.heap.size < w3.heap.size := HN3.out.lt
    have hsB : w.heap.size + 1 < w2.heap.size := (HB.out.kp HX2.out (fun f => f)).lt
    have n1 : w2.heap.size ≠ w3.heap.size := by omega
    have n2 : w3.heap.size ≠ w2.heap.size := by omega
    have n3 : w.heap.size ≠ w3.heap.size := by omega
    have n4 : w3.heap.size ≠ w.heap.size := by omega
    have n5 : w.heap.size + 1 ≠ w3.heap.size := by omega
    have n6 : w3.heap.size ≠ w.heap.size + 1 := by omega
    have HLT : Hid (w2.heap.size < w3.heap.size ∧ w.heap.size + 1 < w2.heap.size) := ⟨hs3, hsB⟩
    clear hw4 hx4 hr4 hs3 hsB a0 a1 a2 a3 a4 l0 l1 l2 l3 l4 l5 l6 l7 l8 l9
    have hab := HAB.out.kp HX4.out (fun f => f)
    have hn := HN4.out
    have hr4 := HR4.out
    unfold ndA at hn
    have a0 := hab.cell 0 _ rfl
    have a1 := hab.cell 1 _ rfl
    have a2 := hab.cell 2 _ rfl
    have a3 := hab.cell 3 _ rfl
    have a4 := hab.cell 4 _ rfl
    have l0 := hn.cell 0 _ rfl
    have l1 := hn.cell 1 _ rfl
    have l2 := hn.cell 2 _ rfl
    have l3 := hn.cell 3 _ rfl
    have l4 := hn.cell 4 _ rfl
    have l5 := hn.cell 5 _ rfl
    have l6 := hn.cell 6 _ rfl
    have l7 := hn.cell 7 _ rfl
    have l8 := hn.cell 8 _ rfl
    have l9 := hn.cell 9 _ rfl
    have t0 := hr4.cell 0 _ rfl
    have t1 := hr4.cell 1 _ rfl
    have t2 := hr4.cell 2 _ rfl
    have t3 := hr4.cell 3 _ rfl
    have t4 := hr4.cell 4 _ rfl
    have t5 := hr4.cell 5 _ rfl
    have t6 := hr4.cell 6 _ rfl
    have t7 := hr4.cell 7 _ rfl
    have t8 := hr4.cell 8 _ rfl
    have t9 := hr4.cell 9 _ rfl
    have t10 := hr4.cell 10 _ rfl
    have ft0 := hr4.free 0
    have ft1 := hr4.free 1
    have ft2 := hr4.free 2
    have ft3 := hr4.free 3
    have ft4 := hr4.free 4
    have ft5 := hr4.free 5
    have ft6 := hr4.free 6
    have ft7 := hr4.free 7
    have ft8 := hr4.free 8
    have ft9 := hr4.free 9
    have ft10 := hr4.free 10
    clear hab hn hr4
    go_upto_region 33 with (fail)
    obtain ⟨W5, hW5⟩ : ∃ W5, ((((((((w4).setCell ⟨w3.heap.size, 2, none⟩ (.string n.data)).setCell ⟨w3.heap.size, 4, none⟩ (.int .i64 n.made)).setCell ⟨w3.heap.size, 5, none⟩ (.int .i64 n.chg)).setCell ⟨w3.heap.size, 6, none⟩ (.int .i64 n.ver)).setCell ⟨w3.heap.size, 7, none⟩ (.int .i64 n.kids)).setCell ⟨w3.heap.size, 8, none⟩ (.int .i64 n.own)).setCell ⟨w3.heap.size, 9, none⟩ (.int .i64 n.len)).setCell ⟨w3.heap.size, 10, none⟩ (.int .i64 n.cnt) = W5 := ⟨_, rfl⟩
    rw [hW5]
    have hk5 : Kp (fun i => i = w3.heap.size) w4 W5 := by
      rw [← hW5]
      exact (((((((((Kp.refl (fun i => i = w3.heap.size) w4)).set1 _ 2 _ rfl).set1 _ 4 _ rfl).set1 _ 5 _ rfl).set1 _ 6 _ rfl).set1 _ 7 _ rfl).set1 _ 8 _ rfl).set1 _ 9 _ rfl).set1 _ 10 _ rfl
    have hb5 : Blk W5 w3.heap.size #[.int .i64 0, .string p, .string n.data, (Value.slice none 0 0), .int .i64 n.made, .int .i64 n.chg, .int .i64 n.ver, .int .i64 n.kids, .int .i64 n.own, .int .i64 n.len, .int .i64 n.cnt] rsuT := by
      rw [← hW5]
      exact ((((((((HR4.out).set 2 _).set 4 _).set 5 _).set 6 _).set 7 _).set 8 _).set 9 _).set 10 _
    have hB5 : Blk W5 (w.heap.size + 1) rsZ rsuT := (HB.out.kp HX4.out (fun f => f)).kp hk5 n5
    have HR5 := Lib.hid ((HRB.out.ext HX4.out).aside HR4.out hk5)
    have HB5 := Lib.hid hB5
    have HK5 : Hid (Kp (fun i => i = g ∨ (Value.slice (some ⟨q, 0, none⟩) E.length vc).ownBlock = some i) w W5) := ((HXB.out.trans HX4.out).next hk5 (fun i hi e => by have := HLT.out; omega)).mono (fun _ _ f => f.elim)
    have HN5 : Hid (NmO W5 (Value.slice none 0 0) []) := by
      show NmO _ _ _
      first
        | exact own_nil _
        | (refine ownsRow.kp (ownsRow.ext HNM.out HX4.out) hk5 (fun i hi e => ?_)
           have h3 := (own_in HNM.out hi).2
           have h4 := HX3.out.size
           omega)
    have HE5 : Hid (entL E = X.1) := by show _ = _; rw [HE.out]
    have HO5 : Hid (∀ i, (Value.slice (some ⟨q, 0, none⟩) E.length vc).ownBlock = some i → (Value.slice (some ⟨q, 0, none⟩) E.length vc).ownBlock = some i ∨ w.heap.size ≤ i) := fun i hi => .inl hi
    unfold rsZ at hB5
    clear hW5 hk5
    clear a0 a1 a2 a3 a4 l0 l1 l2 l3 l4 l5 l6 l7 l8 l9 t0 t1 t2 t3 t4 t5 t6 t7 t8 t9 t10 ft0 ft1 ft2 ft3 ft4 ft5 ft6 ft7 ft8 ft9 ft10
    have t0 := hb5.cell 0 _ rfl
    have t1 := hb5.cell 1 _ rfl
    have t2 := hb5.cell 2 _ rfl
    have t3 := hb5.cell 3 _ rfl
    have t4 := hb5.cell 4 _ rfl
    have t5 := hb5.cell 5 _ rfl
    have t6 := hb5.cell 6 _ rfl
    have t7 := hb5.cell 7 _ rfl
    have t8 := hb5.cell 8 _ rfl
    have t9 := hb5.cell 9 _ rfl
    have t10 := hb5.cell 10 _ rfl
    have c0 := hB5.cell 0 _ rfl
    have c1 := hB5.cell 1 _ rfl
    have c2 := hB5.cell 2 _ rfl
    have c3 := hB5.cell 3 _ rfl
    have c4 := hB5.cell 4 _ rfl
    have c5 := hB5.cell 5 _ rfl
    have c6 := hB5.cell 6 _ rfl
    have c7 := hB5.cell 7 _ rfl
    have c8 := hB5.cell 8 _ rfl
    have c9 := hB5.cell 9 _ rfl
    have c10 := hB5.cell 10 _ rfl
    have fc0 := hB5.free 0
    have fc1 := hB5.free 1
    have fc2 := hB5.free 2
    have fc3 := hB5.free 3
    have fc4 := hB5.free 4
    have fc5 := hB5.free 5
    have fc6 := hB5.free 6
    have fc7 := hB5.free 7
    have fc8 := hB5.free 8
    have fc9 := hB5.free 9
    have fc10 := hB5.free 10
    clear hb5 hB5
    go_wp2_with (fail)
    go_light
    refine bodyPost_ret (v := resA 0 p n.data (Value.slice none 0 0) n) (by simp [results, Tryz.results10, go_sem, resA, c0, c1, c2, c3, c4, c5, c6, c7, c8, c9, c10]) rfl ?_
    have k11 := kp_set11 W5 (w.heap.size + 1) (.int .i64 0) (.string p) (.string n.data) (Value.slice none 0 0) (.int .i64 n.made) (.int .i64 n.chg) (.int .i64 n.ver) (.int .i64 n.kids) (.int .i64 n.own) (.int .i64 n.len) (.int .i64 n.cnt)
    refine ⟨_, E, (Value.slice none 0 0), ?_, ?_, HR5.out.aside HB5.out k11, HE5.out, HK5.out.next k11 (fun i hi e => by omega), HO5.out⟩
    · (rw [HE.out]) <;> rfl
    · rw [HE.out]
      refine ownsRow.kp HN5.out k11 (fun i hi e => ?_)
      obtain ⟨cur, f, h1⟩ := own_type HN5.out hi
      have e2 : i = w.heap.size + 1 := e
      subst e2
      have h2 : W5.heap[w.heap.size + 1]? = some (.cells rsZ rsuT (0, 0)) := HB5.out
      rw [h2] at h1
      simp only [Option.some.injEq, Obj.cells.injEq] at h1
      exact absurd h1.2.1 (by decide)
  · go_enter Tryz.func10, Tryz.ntmps10
    go_upto_region 1 with (fail)
    rw [HWA.out]
    rw [HWB.out]
    have hab := HAB.out
    have a0 := hab.cell 0 _ rfl
    have a1 := hab.cell 1 _ rfl
    have a2 := hab.cell 2 _ rfl
    have a3 := hab.cell 3 _ rfl
    have a4 := hab.cell 4 _ rfl
    clear hab
    go_wp2_with (fail)
    refine HOP.out.mono ?_
    rintro e w1 ⟨rfl, hx1⟩
    have HX1 := Lib.hid hx1
    have hab := HAB.out.kp hx1 (fun f => f)
    clear hx1 a0 a1 a2 a3 a4
    have b0 := hab.cell 0 _ rfl
    have b1 := hab.cell 1 _ rfl
    have b2 := hab.cell 2 _ rfl
    have b3 := hab.cell 3 _ rfl
    have b4 := hab.cell 4 _ rfl
    clear hab
    go_wp2_with (fail)
    refine (HAT.out w1 HX1.out).mono ?_
    rintro e w2 ⟨rfl, hx2⟩
    have HX2 := Lib.hid (HX1.out.trans hx2)
    clear hx2
    have c1 := (HRB.out.ext HX2.out).blk.cell 1 _ rfl
    have hrw := HROWB.out.kp HX2.out (fun f => f)
    have r1 := rowE hrw hk HKE.out 1 _ (by decide) rfl
    have r2 := rowE hrw hk HKE.out 2 _ (by decide) rfl
    have r3 := rowE hrw hk HKE.out 3 _ (by decide) rfl
    have r4 := rowE hrw hk HKE.out 4 _ (by decide) rfl
    have r5 := rowE hrw hk HKE.out 5 _ (by decide) rfl
    have r6 := rowE hrw hk HKE.out 6 _ (by decide) rfl
    have r7 := rowE hrw hk HKE.out 7 _ (by decide) rfl
    have r8 := rowE hrw hk HKE.out 8 _ (by decide) rfl
    have r9 := rowE hrw hk HKE.out 9 _ (by decide) rfl
    have r10 := rowE hrw hk HKE.out 10 _ (by decide) rfl
    clear hrw
    go_upto_region 12 with (fail)
    obtain ⟨w3, hw3⟩ : ∃ w3, w2.alloc (.cells #[.int .i64 n.made, .int .i64 n.chg, .int .i64 n.ver, .int .i64 n.kids, .int .i64 n.own, .int .i64 n.len, .int .i64 n.cnt, .string n.data, .int .i64 n.next, .slice na n.names.length nc] rnT) = w3 := ⟨_, rfl⟩
    rw [hw3]
    have hx3 : Ext w2 w3 := by rw [← hw3]; exact (Kp.refl _ _).alloc _
    have hn3 : Blk w3 w2.heap.size (ndA n (.slice na n.names.length nc)) rnT := by rw [← hw3]; exact heap_alloc_new w2 _
    have HX3 := Lib.hid (HX2.out.trans hx3)
    have HN3 := Lib.hid hn3
    clear hw3 hx3 hn3 r1 r2 r3 r4 r5 r6 r7 r8 r9 r10 c1 b0 b1 b2 b3 b4
    have hab := HAB.out.kp HX3.out (fun f => f)
    have hn := HN3.out
    unfold ndA at hn
    have a0 := hab.cell 0 _ rfl
    have a1 := hab.cell 1 _ rfl
    have a2 := hab.cell 2 _ rfl
    have a3 := hab.cell 3 _ rfl
    have a4 := hab.cell 4 _ rfl
    have l0 := hn.cell 0 _ rfl
    have l1 := hn.cell 1 _ rfl
    have l2 := hn.cell 2 _ rfl
    have l3 := hn.cell 3 _ rfl
    have l4 := hn.cell 4 _ rfl
    have l5 := hn.cell 5 _ rfl
    have l6 := hn.cell 6 _ rfl
    have l7 := hn.cell 7 _ rfl
    have l8 := hn.cell 8 _ rfl
    have l9 := hn.cell 9 _ rfl
    clear hab hn
    go_upto_region 15 with (fail)
    obtain ⟨w4, hw4⟩ : ∃ w4, w3.alloc (.cells #[.int .i64 0, .string p, .string ⟨#[]⟩, .slice none 0 0, .int .i64 0, .int .i64 0, .int .i64 0, .int .i64 0, .int .i64 0, .int .i64 0, .int .i64 0] rsuT) = w4 := ⟨_, rfl⟩
    rw [hw4]
    have hx4 : Ext w3 w4 := by rw [← hw4]; exact (Kp.refl _ _).alloc _
    have hr4 : Blk w4 w3.heap.size #[.int .i64 0, .string p, .string ⟨#[]⟩, .slice none 0 0, .int .i64 0, .int .i64 0, .int .i64 0, .int .i64 0, .int .i64 0, .int .i64 0, .int .i64 0] rsuT := by rw [← hw4]; exact heap_alloc_new w3 _
    have HX4 := Lib.hid (HX3.out.trans hx4)
    have HN4 := Lib.hid (HN3.out.kp hx4 (fun f => f))
    have HR4 := Lib.hid hr4
    have hs3 : w2.heap.size < w3.heap.size := HN3.out.lt
    have hsB : w.heap.size + 1 < w2.heap.size := (HB.out.kp HX2.out (fun f => f)).lt
    have n1 : w2.heap.size ≠ w3.heap.size := by omega
    have n2 : w3.heap.size ≠ w2.heap.size := by omega
    have n3 : w.heap.size ≠ w3.heap.size := by omega
    have n4 : w3.heap.size ≠ w.heap.size := by omega
    have n5 : w.heap.size + 1 ≠ w3.heap.size := by omega
    have n6 : w3.heap.size ≠ w.heap.size + 1 := by omega
    have HLT : Hid (w2.heap.size < w3.heap.size ∧ w.heap.size + 1 < w2.heap.size) := ⟨hs3, hsB⟩
    clear hw4 hx4 hr4 hs3 hsB a0 a1 a2 a3 a4 l0 l1 l2 l3 l4 l5 l6 l7 l8 l9
    have hab := HAB.out.kp HX4.out (fun f => f)
    have hn := HN4.out
    have hr4 := HR4.out
    unfold ndA at hn
    have a0 := hab.cell 0 _ rfl
    have a1 := hab.cell 1 _ rfl
    have a2 := hab.cell 2 _ rfl
    have a3 := hab.cell 3 _ rfl
    have a4 := hab.cell 4 _ rfl
    have l0 := hn.cell 0 _ rfl
    have l1 := hn.cell 1 _ rfl
    have l2 := hn.cell 2 _ rfl
    have l3 := hn.cell 3 _ rfl
    have l4 := hn.cell 4 _ rfl
    have l5 := hn.cell 5 _ rfl
    have l6 := hn.cell 6 _ rfl
    have l7 := hn.cell 7 _ rfl
    have l8 := hn.cell 8 _ rfl
    have l9 := hn.cell 9 _ rfl
    have t0 := hr4.cell 0 _ rfl
    have t1 := hr4.cell 1 _ rfl
    have t2 := hr4.cell 2 _ rfl
    have t3 := hr4.cell 3 _ rfl
    have t4 := hr4.cell 4 _ rfl
    have t5 := hr4.cell 5 _ rfl
    have t6 := hr4.cell 6 _ rfl
    have t7 := hr4.cell 7 _ rfl
    have t8 := hr4.cell 8 _ rfl
    have t9 := hr4.cell 9 _ rfl
    have t10 := hr4.cell 10 _ rfl
    have ft0 := hr4.free 0
    have ft1 := hr4.free 1
    have ft2 := hr4.free 2
    have ft3 := hr4.free 3
    have ft4 := hr4.free 4
    have ft5 := hr4.free 5
    have ft6 := hr4.free 6
    have ft7 := hr4.free 7
    have ft8 := hr4.free 8
    have ft9 := hr4.free 9
    have ft10 := hr4.free 10
    clear hab hn hr4
    go_upto_region 33 with (fail)
    obtain ⟨W5, hW5⟩ : ∃ W5, (((((((w4).setCell ⟨w3.heap.size, 4, none⟩ (.int .i64 n.made)).setCell ⟨w3.heap.size, 5, none⟩ (.int .i64 n.chg)).setCell ⟨w3.heap.size, 6, none⟩ (.int .i64 n.ver)).setCell ⟨w3.heap.size, 7, none⟩ (.int .i64 n.kids)).setCell ⟨w3.heap.size, 8, none⟩ (.int .i64 n.own)).setCell ⟨w3.heap.size, 9, none⟩ (.int .i64 n.len)).setCell ⟨w3.heap.size, 10, none⟩ (.int .i64 n.cnt) = W5 := ⟨_, rfl⟩
    rw [hW5]
    have hk5 : Kp (fun i => i = w3.heap.size) w4 W5 := by
      rw [← hW5]
      exact ((((((((Kp.refl (fun i => i = w3.heap.size) w4)).set1 _ 4 _ rfl).set1 _ 5 _ rfl).set1 _ 6 _ rfl).set1 _ 7 _ rfl).set1 _ 8 _ rfl).set1 _ 9 _ rfl).set1 _ 10 _ rfl
    have hb5 : Blk W5 w3.heap.size #[.int .i64 0, .string p, .string ⟨#[]⟩, (Value.slice none 0 0), .int .i64 n.made, .int .i64 n.chg, .int .i64 n.ver, .int .i64 n.kids, .int .i64 n.own, .int .i64 n.len, .int .i64 n.cnt] rsuT := by
      rw [← hW5]
      exact (((((((HR4.out).set 4 _).set 5 _).set 6 _).set 7 _).set 8 _).set 9 _).set 10 _
    have hB5 : Blk W5 (w.heap.size + 1) rsZ rsuT := (HB.out.kp HX4.out (fun f => f)).kp hk5 n5
    have HR5 := Lib.hid ((HRB.out.ext HX4.out).aside HR4.out hk5)
    have HB5 := Lib.hid hB5
    have HK5 : Hid (Kp (fun i => i = g ∨ (Value.slice (some ⟨q, 0, none⟩) E.length vc).ownBlock = some i) w W5) := ((HXB.out.trans HX4.out).next hk5 (fun i hi e => by have := HLT.out; omega)).mono (fun _ _ f => f.elim)
    have HN5 : Hid (NmO W5 (Value.slice none 0 0) []) := by
      show NmO _ _ _
      first
        | exact own_nil _
        | (refine ownsRow.kp (ownsRow.ext HNM.out HX4.out) hk5 (fun i hi e => ?_)
           have h3 := (own_in HNM.out hi).2
           have h4 := HX3.out.size
           omega)
    have HE5 : Hid (entL E = X.1) := by show _ = _; rw [HE.out]
    have HO5 : Hid (∀ i, (Value.slice (some ⟨q, 0, none⟩) E.length vc).ownBlock = some i → (Value.slice (some ⟨q, 0, none⟩) E.length vc).ownBlock = some i ∨ w.heap.size ≤ i) := fun i hi => .inl hi
    unfold rsZ at hB5
    clear hW5 hk5
    clear a0 a1 a2 a3 a4 l0 l1 l2 l3 l4 l5 l6 l7 l8 l9 t0 t1 t2 t3 t4 t5 t6 t7 t8 t9 t10 ft0 ft1 ft2 ft3 ft4 ft5 ft6 ft7 ft8 ft9 ft10
    have t0 := hb5.cell 0 _ rfl
    have t1 := hb5.cell 1 _ rfl
    have t2 := hb5.cell 2 _ rfl
    have t3 := hb5.cell 3 _ rfl
    have t4 := hb5.cell 4 _ rfl
    have t5 := hb5.cell 5 _ rfl
    have t6 := hb5.cell 6 _ rfl
    have t7 := hb5.cell 7 _ rfl
    have t8 := hb5.cell 8 _ rfl
    have t9 := hb5.cell 9 _ rfl
    have t10 := hb5.cell 10 _ rfl
    have c0 := hB5.cell 0 _ rfl
    have c1 := hB5.cell 1 _ rfl
    have c2 := hB5.cell 2 _ rfl
    have c3 := hB5.cell 3 _ rfl
    have c4 := hB5.cell 4 _ rfl
    have c5 := hB5.cell 5 _ rfl
    have c6 := hB5.cell 6 _ rfl
    have c7 := hB5.cell 7 _ rfl
    have c8 := hB5.cell 8 _ rfl
    have c9 := hB5.cell 9 _ rfl
    have c10 := hB5.cell 10 _ rfl
    have fc0 := hB5.free 0
    have fc1 := hB5.free 1
    have fc2 := hB5.free 2
    have fc3 := hB5.free 3
    have fc4 := hB5.free 4
    have fc5 := hB5.free 5
    have fc6 := hB5.free 6
    have fc7 := hB5.free 7
    have fc8 := hB5.free 8
    have fc9 := hB5.free 9
    have fc10 := hB5.free 10
    clear hb5 hB5
    go_wp2_with (fail)
    go_light
    refine bodyPost_ret (v := resA 0 p ⟨#[]⟩ (Value.slice none 0 0) n) (by simp [results, Tryz.results10, go_sem, resA, c0, c1, c2, c3, c4, c5, c6, c7, c8, c9, c10]) rfl ?_
    have k11 := kp_set11 W5 (w.heap.size + 1) (.int .i64 0) (.string p) (.string ⟨#[]⟩) (Value.slice none 0 0) (.int .i64 n.made) (.int .i64 n.chg) (.int .i64 n.ver) (.int .i64 n.kids) (.int .i64 n.own) (.int .i64 n.len) (.int .i64 n.cnt)
    refine ⟨_, E, (Value.slice none 0 0), ?_, ?_, HR5.out.aside HB5.out k11, HE5.out, HK5.out.next k11 (fun i hi e => by omega), HO5.out⟩
    · (rw [HE.out]) <;> rfl
    · rw [HE.out]
      refine ownsRow.kp HN5.out k11 (fun i hi e => ?_)
      obtain ⟨cur, f, h1⟩ := own_type HN5.out hi
      have e2 : i = w.heap.size + 1 := e
      subst e2
      have h2 : W5.heap[w.heap.size + 1]? = some (.cells rsZ rsuT (0, 0)) := HB5.out
      rw [h2] at h1
      simp only [Option.some.injEq, Obj.cells.injEq] at h1
      exact absurd h1.2.1 (by decide)
  · go_enter Tryz.func10, Tryz.ntmps10
    go_upto_region 1 with (fail)
    rw [HWA.out]
    rw [HWB.out]
    have hab := HAB.out
    have a0 := hab.cell 0 _ rfl
    have a1 := hab.cell 1 _ rfl
    have a2 := hab.cell 2 _ rfl
    have a3 := hab.cell 3 _ rfl
    have a4 := hab.cell 4 _ rfl
    clear hab
    go_wp2_with (fail)
    refine HOP.out.mono ?_
    rintro e w1 ⟨rfl, hx1⟩
    have HX1 := Lib.hid hx1
    have hab := HAB.out.kp hx1 (fun f => f)
    clear hx1 a0 a1 a2 a3 a4
    have b0 := hab.cell 0 _ rfl
    have b1 := hab.cell 1 _ rfl
    have b2 := hab.cell 2 _ rfl
    have b3 := hab.cell 3 _ rfl
    have b4 := hab.cell 4 _ rfl
    clear hab
    go_wp2_with (fail)
    refine (HAT.out w1 HX1.out).mono ?_
    rintro e w2 ⟨rfl, hx2⟩
    have HX2 := Lib.hid (HX1.out.trans hx2)
    clear hx2
    have c1 := (HRB.out.ext HX2.out).blk.cell 1 _ rfl
    have hrw := HROWB.out.kp HX2.out (fun f => f)
    have r1 := rowE hrw hk HKE.out 1 _ (by decide) rfl
    have r2 := rowE hrw hk HKE.out 2 _ (by decide) rfl
    have r3 := rowE hrw hk HKE.out 3 _ (by decide) rfl
    have r4 := rowE hrw hk HKE.out 4 _ (by decide) rfl
    have r5 := rowE hrw hk HKE.out 5 _ (by decide) rfl
    have r6 := rowE hrw hk HKE.out 6 _ (by decide) rfl
    have r7 := rowE hrw hk HKE.out 7 _ (by decide) rfl
    have r8 := rowE hrw hk HKE.out 8 _ (by decide) rfl
    have r9 := rowE hrw hk HKE.out 9 _ (by decide) rfl
    have r10 := rowE hrw hk HKE.out 10 _ (by decide) rfl
    clear hrw
    go_upto_region 12 with (fail)
    obtain ⟨w3, hw3⟩ : ∃ w3, w2.alloc (.cells #[.int .i64 n.made, .int .i64 n.chg, .int .i64 n.ver, .int .i64 n.kids, .int .i64 n.own, .int .i64 n.len, .int .i64 n.cnt, .string n.data, .int .i64 n.next, .slice na n.names.length nc] rnT) = w3 := ⟨_, rfl⟩
    rw [hw3]
    have hx3 : Ext w2 w3 := by rw [← hw3]; exact (Kp.refl _ _).alloc _
    have hn3 : Blk w3 w2.heap.size (ndA n (.slice na n.names.length nc)) rnT := by rw [← hw3]; exact heap_alloc_new w2 _
    have HX3 := Lib.hid (HX2.out.trans hx3)
    have HN3 := Lib.hid hn3
    clear hw3 hx3 hn3 r1 r2 r3 r4 r5 r6 r7 r8 r9 r10 c1 b0 b1 b2 b3 b4
    have hab := HAB.out.kp HX3.out (fun f => f)
    have hn := HN3.out
    unfold ndA at hn
    have a0 := hab.cell 0 _ rfl
    have a1 := hab.cell 1 _ rfl
    have a2 := hab.cell 2 _ rfl
    have a3 := hab.cell 3 _ rfl
    have a4 := hab.cell 4 _ rfl
    have l0 := hn.cell 0 _ rfl
    have l1 := hn.cell 1 _ rfl
    have l2 := hn.cell 2 _ rfl
    have l3 := hn.cell 3 _ rfl
    have l4 := hn.cell 4 _ rfl
    have l5 := hn.cell 5 _ rfl
    have l6 := hn.cell 6 _ rfl
    have l7 := hn.cell 7 _ rfl
    have l8 := hn.cell 8 _ rfl
    have l9 := hn.cell 9 _ rfl
    clear hab hn
    go_upto_region 15 with (fail)
    obtain ⟨w4, hw4⟩ : ∃ w4, w3.alloc (.cells #[.int .i64 0, .string p, .string ⟨#[]⟩, .slice none 0 0, .int .i64 0, .int .i64 0, .int .i64 0, .int .i64 0, .int .i64 0, .int .i64 0, .int .i64 0] rsuT) = w4 := ⟨_, rfl⟩
    rw [hw4]
    have hx4 : Ext w3 w4 := by rw [← hw4]; exact (Kp.refl _ _).alloc _
    have hr4 : Blk w4 w3.heap.size #[.int .i64 0, .string p, .string ⟨#[]⟩, .slice none 0 0, .int .i64 0, .int .i64 0, .int .i64 0, .int .i64 0, .int .i64 0, .int .i64 0, .int .i64 0] rsuT := by rw [← hw4]; exact heap_alloc_new w3 _
    have HX4 := Lib.hid (HX3.out.trans hx4)
    have HN4 := Lib.hid (HN3.out.kp hx4 (fun f => f))
    have HR4 := Lib.hid hr4
    have hs3 : w2.heap.size < w3.heap.size := HN3.out.lt
    have hsB : w.heap.size + 1 < w2.heap.size := (HB.out.kp HX2.out (fun f => f)).lt
    have n1 : w2.heap.size ≠ w3.heap.size := by omega
    have n2 : w3.heap.size ≠ w2.heap.size := by omega
    have n3 : w.heap.size ≠ w3.heap.size := by omega
    have n4 : w3.heap.size ≠ w.heap.size := by omega
    have n5 : w.heap.size + 1 ≠ w3.heap.size := by omega
    have n6 : w3.heap.size ≠ w.heap.size + 1 := by omega
    have HLT : Hid (w2.heap.size < w3.heap.size ∧ w.heap.size + 1 < w2.heap.size) := ⟨hs3, hsB⟩
    clear hw4 hx4 hr4 hs3 hsB a0 a1 a2 a3 a4 l0 l1 l2 l3 l4 l5 l6 l7 l8 l9
    have hab := HAB.out.kp HX4.out (fun f => f)
    have hn := HN4.out
    have hr4 := HR4.out
    unfold ndA at hn
    have a0 := hab.cell 0 _ rfl
    have a1 := hab.cell 1 _ rfl
    have a2 := hab.cell 2 _ rfl
    have a3 := hab.cell 3 _ rfl
    have a4 := hab.cell 4 _ rfl
    have l0 := hn.cell 0 _ rfl
    have l1 := hn.cell 1 _ rfl
    have l2 := hn.cell 2 _ rfl
    have l3 := hn.cell 3 _ rfl
    have l4 := hn.cell 4 _ rfl
    have l5 := hn.cell 5 _ rfl
    have l6 := hn.cell 6 _ rfl
    have l7 := hn.cell 7 _ rfl
    have l8 := hn.cell 8 _ rfl
    have l9 := hn.cell 9 _ rfl
    have t0 := hr4.cell 0 _ rfl
    have t1 := hr4.cell 1 _ rfl
    have t2 := hr4.cell 2 _ rfl
    have t3 := hr4.cell 3 _ rfl
    have t4 := hr4.cell 4 _ rfl
    have t5 := hr4.cell 5 _ rfl
    have t6 := hr4.cell 6 _ rfl
    have t7 := hr4.cell 7 _ rfl
    have t8 := hr4.cell 8 _ rfl
    have t9 := hr4.cell 9 _ rfl
    have t10 := hr4.cell 10 _ rfl
    have ft0 := hr4.free 0
    have ft1 := hr4.free 1
    have ft2 := hr4.free 2
    have ft3 := hr4.free 3
    have ft4 := hr4.free 4
    have ft5 := hr4.free 5
    have ft6 := hr4.free 6
    have ft7 := hr4.free 7
    have ft8 := hr4.free 8
    have ft9 := hr4.free 9
    have ft10 := hr4.free 10
    clear hab hn hr4
    go_upto_region 33 with (fail)
    obtain ⟨W5, hW5⟩ : ∃ W5, ((((((((w4).setCell ⟨w3.heap.size, 3, none⟩ (.slice na n.names.length nc)).setCell ⟨w3.heap.size, 4, none⟩ (.int .i64 n.made)).setCell ⟨w3.heap.size, 5, none⟩ (.int .i64 n.chg)).setCell ⟨w3.heap.size, 6, none⟩ (.int .i64 n.ver)).setCell ⟨w3.heap.size, 7, none⟩ (.int .i64 n.kids)).setCell ⟨w3.heap.size, 8, none⟩ (.int .i64 n.own)).setCell ⟨w3.heap.size, 9, none⟩ (.int .i64 n.len)).setCell ⟨w3.heap.size, 10, none⟩ (.int .i64 n.cnt) = W5 := ⟨_, rfl⟩
    rw [hW5]
    have hk5 : Kp (fun i => i = w3.heap.size) w4 W5 := by
      rw [← hW5]
      exact (((((((((Kp.refl (fun i => i = w3.heap.size) w4)).set1 _ 3 _ rfl).set1 _ 4 _ rfl).set1 _ 5 _ rfl).set1 _ 6 _ rfl).set1 _ 7 _ rfl).set1 _ 8 _ rfl).set1 _ 9 _ rfl).set1 _ 10 _ rfl
    have hb5 : Blk W5 w3.heap.size #[.int .i64 0, .string p, .string ⟨#[]⟩, (Value.slice na n.names.length nc), .int .i64 n.made, .int .i64 n.chg, .int .i64 n.ver, .int .i64 n.kids, .int .i64 n.own, .int .i64 n.len, .int .i64 n.cnt] rsuT := by
      rw [← hW5]
      exact ((((((((HR4.out).set 3 _).set 4 _).set 5 _).set 6 _).set 7 _).set 8 _).set 9 _).set 10 _
    have hB5 : Blk W5 (w.heap.size + 1) rsZ rsuT := (HB.out.kp HX4.out (fun f => f)).kp hk5 n5
    have HR5 := Lib.hid ((HRB.out.ext HX4.out).aside HR4.out hk5)
    have HB5 := Lib.hid hB5
    have HK5 : Hid (Kp (fun i => i = g ∨ (Value.slice (some ⟨q, 0, none⟩) E.length vc).ownBlock = some i) w W5) := ((HXB.out.trans HX4.out).next hk5 (fun i hi e => by have := HLT.out; omega)).mono (fun _ _ f => f.elim)
    have HN5 : Hid (NmO W5 (Value.slice na n.names.length nc) n.names) := by
      show NmO _ _ _
      first
        | exact own_nil _
        | (refine ownsRow.kp (ownsRow.ext HNM.out HX4.out) hk5 (fun i hi e => ?_)
           have h3 := (own_in HNM.out hi).2
           have h4 := HX3.out.size
           omega)
    have HE5 : Hid (entL E = X.1) := by show _ = _; rw [HE.out]
    have HO5 : Hid (∀ i, (Value.slice (some ⟨q, 0, none⟩) E.length vc).ownBlock = some i → (Value.slice (some ⟨q, 0, none⟩) E.length vc).ownBlock = some i ∨ w.heap.size ≤ i) := fun i hi => .inl hi
    unfold rsZ at hB5
    clear hW5 hk5
    clear a0 a1 a2 a3 a4 l0 l1 l2 l3 l4 l5 l6 l7 l8 l9 t0 t1 t2 t3 t4 t5 t6 t7 t8 t9 t10 ft0 ft1 ft2 ft3 ft4 ft5 ft6 ft7 ft8 ft9 ft10
    have t0 := hb5.cell 0 _ rfl
    have t1 := hb5.cell 1 _ rfl
    have t2 := hb5.cell 2 _ rfl
    have t3 := hb5.cell 3 _ rfl
    have t4 := hb5.cell 4 _ rfl
    have t5 := hb5.cell 5 _ rfl
    have t6 := hb5.cell 6 _ rfl
    have t7 := hb5.cell 7 _ rfl
    have t8 := hb5.cell 8 _ rfl
    have t9 := hb5.cell 9 _ rfl
    have t10 := hb5.cell 10 _ rfl
    have c0 := hB5.cell 0 _ rfl
    have c1 := hB5.cell 1 _ rfl
    have c2 := hB5.cell 2 _ rfl
    have c3 := hB5.cell 3 _ rfl
    have c4 := hB5.cell 4 _ rfl
    have c5 := hB5.cell 5 _ rfl
    have c6 := hB5.cell 6 _ rfl
    have c7 := hB5.cell 7 _ rfl
    have c8 := hB5.cell 8 _ rfl
    have c9 := hB5.cell 9 _ rfl
    have c10 := hB5.cell 10 _ rfl
    have fc0 := hB5.free 0
    have fc1 := hB5.free 1
    have fc2 := hB5.free 2
    have fc3 := hB5.free 3
    have fc4 := hB5.free 4
    have fc5 := hB5.free 5
    have fc6 := hB5.free 6
    have fc7 := hB5.free 7
    have fc8 := hB5.free 8
    have fc9 := hB5.free 9
    have fc10 := hB5.free 10
    clear hb5 hB5
    go_wp2_with (fail)
    go_light
    refine bodyPost_ret (v := resA 0 p ⟨#[]⟩ (Value.slice na n.names.length nc) n) (by simp [results, Tryz.results10, go_sem, resA, c0, c1, c2, c3, c4, c5, c6, c7, c8, c9, c10]) rfl ?_
    have k11 := kp_set11 W5 (w.heap.size + 1) (.int .i64 0) (.string p) (.string ⟨#[]⟩) (Value.slice na n.names.length nc) (.int .i64 n.made) (.int .i64 n.chg) (.int .i64 n.ver) (.int .i64 n.kids) (.int .i64 n.own) (.int .i64 n.len) (.int .i64 n.cnt)
    refine ⟨_, E, (Value.slice na n.names.length nc), ?_, ?_, HR5.out.aside HB5.out k11, HE5.out, HK5.out.next k11 (fun i hi e => by omega), HO5.out⟩
    · (rw [HE.out]) <;> rfl
    · rw [HE.out]
      refine ownsRow.kp HN5.out k11 (fun i hi e => ?_)
      obtain ⟨cur, f, h1⟩ := own_type HN5.out hi
      have e2 : i = w.heap.size + 1 := e
      subst e2
      have h2 : W5.heap[w.heap.size + 1]? = some (.cells rsZ rsuT (0, 0)) := HB5.out
      rw [h2] at h1
      simp only [Option.some.injEq, Obj.cells.injEq] at h1
      exact absurd h1.2.1 (by decide)
end Go.Proofs.YtdagikbdpeblhaaGreatDoor
