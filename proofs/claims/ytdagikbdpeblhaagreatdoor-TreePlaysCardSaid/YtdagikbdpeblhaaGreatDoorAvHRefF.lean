


/- Walks over the reference's tree: Do, where a node is there. -/
import Derived.Test.YtdagikbdpeblhaaGreatDoorAvG32
namespace Go.Proofs.YtdagikbdpeblhaaGreatDoor
set_option maxRecDepth 100000
open Go.RowKit Av

set_option maxHeartbeats 6400000 in
theorem do_none (base g : Nat) (room : Int) (v : Value) (E : List Ent) (k : Int) (p d : ByteArray) (ver f sess z : Int) (w : World) (h : RefA w base g room v E) (hp : p.size ≤ 1000000) (hd : d.size ≤ 1000000) (hgood : goodO ⟨k, p, d, ver, f⟩ = 0 ∧ 1 ≤ sess ∧ 0 ≤ z) (hk1 : k ≠ 1) (hg : mget (entL E) p = none) :
    Calls Tryz.prog 10 #[.pointer (some ⟨g, 0, none⟩), .agg #[.int .i64 k, .string p, .string d, .int .i64 ver, .int .i64 f], .int .i64 sess, .int .i64 z] w fun e w' => RDPost w base g room v (doL room (entL E) ⟨k, p, d, ver, f⟩ sess z) e w' := by
  obtain ⟨wA, hWA⟩ : ∃ wA, w.alloc (.cells #[.int .i64 k, .string p, .string d, .int .i64 ver, .int .i64 f] 33) = wA := ⟨_, rfl⟩
  have hxA : Ext w wA := by rw [← hWA]; exact (Kp.refl _ _).alloc _
  have hA : Blk wA w.heap.size #[.int .i64 k, .string p, .string d, .int .i64 ver, .int .i64 f] 33 := by rw [← hWA]; exact heap_alloc_new w _
  obtain ⟨wB, hWB⟩ : ∃ wB, wA.alloc (.cells rsZ rsuT) = wB := ⟨_, rfl⟩
  have hxB : Ext wA wB := by rw [← hWB]; exact (Kp.refl _ _).alloc _
  have hsA : wA.heap.size = w.heap.size + 1 := by rw [← hWA]; exact World.size_alloc _ _
  have hB : Blk wB (w.heap.size + 1) rsZ rsuT := by rw [← hWB, ← hsA]; exact heap_alloc_new wA _
  have HAB := Lib.hid (hA.kp hxB (fun f => f))
  have HB := Lib.hid hB
  have HXB := Lib.hid (hxA.ext hxB)
  have HRB := Lib.hid (h.ext (hxA.ext hxB))
  have HWA := Lib.hid hWA
  unfold rsZ at hWB
  have HWB := Lib.hid hWB
  have HOP : Hid (Calls Tryz.prog 48 #[.agg #[.int .i64 k, .string p, .string d, .int .i64 ver, .int .i64 f]] wB fun e w' => e = .returned (.int .i64 (goodO ⟨k, p, d, ver, f⟩)) ∧ Ext wB w') := refOp_any ⟨k, p, d, ver, f⟩ wB (by show p.size ≤ _; unfold maxLen; omega) (by show d.size ≤ _; unfold maxLen; omega)
  have HAT := Lib.hid (fun W (hW : Ext wB W) => at_any base g room v E p W ((h.ext (hxA.ext hxB)).ext hW))
  obtain ⟨X, hX⟩ : ∃ X, doL room (entL E) ⟨k, p, d, ver, f⟩ sess z = X := ⟨_, rfl⟩
  rw [hX]
  have HC : Hid (X = doL room (entL E) ⟨k, p, d, ver, f⟩ sess z) := hX.symm
  clear hWA hxA hA hWB hxB hB hsA hX
  obtain ⟨hg0, hs1, hz1⟩ := hgood
  rw [hg0] at HOP
  have s0 : ¬ sess < 1 := by omega
  have s1 : ¬ z < 0 := by omega
  have q1 : (k == 1) = false := by simpa using hk1
  have HE : Hid (X = (entL E, failR 4)) := by
    show _ = _
    rw [HC.out]
    unfold doL
    rw [if_neg (by rw [hg0]; simp), if_neg (by omega), if_neg hk1]
    unfold changeL readP
    simp only [hg]
    split <;> rfl
  rw [isAt_none hg] at HAT
  clear h hg HC hg0 hs1 hz1 hk1
  go_enter Tryz.func10, Tryz.ntmps10
  go_upto_region 1 with (fail)
  rw [HWA.out]
  rw [HWB.out]
  have hab := HAB.out
  have a0 := hab.cell 0 _ rfl
  have a1 := hab.cell 1 _ rfl
  have a2 := hab.cell 2 _ rfl
  have a3 := hab.cell 3 _ rfl
  have a4 := hab.cell 4 _ rfl
  clear hab
  go_wp2_with (fail)
  refine HOP.out.mono ?_
  rintro e w1 ⟨rfl, hx1⟩
  have HX1 := Lib.hid hx1
  have hab := HAB.out.kp hx1 (fun f => f)
  clear hx1 a0 a1 a2 a3 a4
  have b0 := hab.cell 0 _ rfl
  have b1 := hab.cell 1 _ rfl
  have b2 := hab.cell 2 _ rfl
  have b3 := hab.cell 3 _ rfl
  have b4 := hab.cell 4 _ rfl
  clear hab
  go_wp2_with (fail)
  refine (HAT.out w1 HX1.out).mono ?_
  rintro e w2 ⟨rfl, hx2⟩
  have HX2 := Lib.hid (HX1.out.trans hx2)
  clear hx2
  go_wp2_with (fail)
  refine (fail10_any 4 _).mono ?_
  rintro e1 w8 ⟨rfl, hx8⟩
  have hB8 := HB.out.kp (HX2.out.trans hx8) (fun f => f)
  have HR8 := Lib.hid (HRB.out.ext (HX2.out.trans hx8))
  have HB8 := Lib.hid hB8
  have HX8 := Lib.hid (HXB.out.ext (HX2.out.trans hx8))
  unfold rsZ at hB8
  have c0 := hB8.cell 0 _ rfl
  have c1 := hB8.cell 1 _ rfl
  have c2 := hB8.cell 2 _ rfl
  have c3 := hB8.cell 3 _ rfl
  have c4 := hB8.cell 4 _ rfl
  have c5 := hB8.cell 5 _ rfl
  have c6 := hB8.cell 6 _ rfl
  have c7 := hB8.cell 7 _ rfl
  have c8 := hB8.cell 8 _ rfl
  have c9 := hB8.cell 9 _ rfl
  have c10 := hB8.cell 10 _ rfl
  have fc0 := hB8.free 0
  have fc1 := hB8.free 1
  have fc2 := hB8.free 2
  have fc3 := hB8.free 3
  have fc4 := hB8.free 4
  have fc5 := hB8.free 5
  have fc6 := hB8.free 6
  have fc7 := hB8.free 7
  have fc8 := hB8.free 8
  have fc9 := hB8.free 9
  have fc10 := hB8.free 10
  clear hB8 hx8
  unfold resA
  go_wp2_with (fail)
  go_light
  refine bodyPost_ret (v := resA 4 ⟨#[]⟩ ⟨#[]⟩ (.slice none 0 0) ndZ) (by simp [results, Tryz.results10, go_sem, resA, ndZ, c0, c1, c2, c3, c4, c5, c6, c7, c8, c9, c10]) rfl ?_
  have k11 := kp_set11 w8 (w.heap.size + 1) (.int .i64 4) (.string ⟨#[]⟩) (.string ⟨#[]⟩) (.slice none 0 0) (.int .i64 0) (.int .i64 0) (.int .i64 0) (.int .i64 0) (.int .i64 0) (.int .i64 0) (.int .i64 0)
  exact RDPost.fail HE.out (HR8.out.aside HB8.out k11) (HX8.out.next k11 (fun i hi e => by omega))
set_option maxHeartbeats 6400000 in
theorem do_wrong (base g : Nat) (room : Int) (v : Value) (E : List Ent) (k : Int) (p d : ByteArray) (ver f sess z : Int) (w : World) (h : RefA w base g room v E) (hr : Rising (keysR (entL E))) (hp : p.size ≤ 1000000) (hd : d.size ≤ 1000000) (hgood : goodO ⟨k, p, d, ver, f⟩ = 0 ∧ 1 ≤ sess ∧ 0 ≤ z) (hk1 : k ≠ 1) {n : NodeV} (hg : mget (entL E) p = some n) (hkd : k = 2 ∨ k = 3 ∨ k = 4) (hw : wrongB ⟨k, p, d, ver, f⟩ n = true) :
    Calls Tryz.prog 10 #[.pointer (some ⟨g, 0, none⟩), .agg #[.int .i64 k, .string p, .string d, .int .i64 ver, .int .i64 f], .int .i64 sess, .int .i64 z] w fun e w' => RDPost w base g room v (doL room (entL E) ⟨k, p, d, ver, f⟩ sess z) e w' := by
  obtain ⟨wA, hWA⟩ : ∃ wA, w.alloc (.cells #[.int .i64 k, .string p, .string d, .int .i64 ver, .int .i64 f] 33) = wA := ⟨_, rfl⟩
  have hxA : Ext w wA := by rw [← hWA]; exact (Kp.refl _ _).alloc _
  have hA : Blk wA w.heap.size #[.int .i64 k, .string p, .string d, .int .i64 ver, .int .i64 f] 33 := by rw [← hWA]; exact heap_alloc_new w _
  obtain ⟨wB, hWB⟩ : ∃ wB, wA.alloc (.cells rsZ rsuT) = wB := ⟨_, rfl⟩
  have hxB : Ext wA wB := by rw [← hWB]; exact (Kp.refl _ _).alloc _
  have hsA : wA.heap.size = w.heap.size + 1 := by rw [← hWA]; exact World.size_alloc _ _
  have hB : Blk wB (w.heap.size + 1) rsZ rsuT := by rw [← hWB, ← hsA]; exact heap_alloc_new wA _
  have HAB := Lib.hid (hA.kp hxB (fun f => f))
  have HB := Lib.hid hB
  have HXB := Lib.hid (hxA.ext hxB)
  have HRB := Lib.hid (h.ext (hxA.ext hxB))
  have HWA := Lib.hid hWA
  unfold rsZ at hWB
  have HWB := Lib.hid hWB
  have HOP : Hid (Calls Tryz.prog 48 #[.agg #[.int .i64 k, .string p, .string d, .int .i64 ver, .int .i64 f]] wB fun e w' => e = .returned (.int .i64 (goodO ⟨k, p, d, ver, f⟩)) ∧ Ext wB w') := refOp_any ⟨k, p, d, ver, f⟩ wB (by show p.size ≤ _; unfold maxLen; omega) (by show d.size ≤ _; unfold maxLen; omega)
  have HAT := Lib.hid (fun W (hW : Ext wB W) => at_any base g room v E p W ((h.ext (hxA.ext hxB)).ext hW))
  obtain ⟨X, hX⟩ : ∃ X, doL room (entL E) ⟨k, p, d, ver, f⟩ sess z = X := ⟨_, rfl⟩
  rw [hX]
  have HC : Hid (X = doL room (entL E) ⟨k, p, d, ver, f⟩ sess z) := hX.symm
  clear hWA hxA hA hWB hxB hB hsA hX
  obtain ⟨hg0, hs1, hz1⟩ := hgood
  rw [hg0] at HOP
  have s0 : ¬ sess < 1 := by omega
  have s1 : ¬ z < 0 := by omega
  have q1 : (k == 1) = false := by simpa using hk1
  have HE : Hid (X = (entL E, failR 6)) := by
    show _ = _
    rw [HC.out]
    unfold doL
    rw [if_neg (by rw [hg0]; simp), if_neg (by omega), if_neg hk1, if_pos hkd]
    unfold changeL
    simp only [hg, if_pos hw]
  have hv : (ver != -1) = true ∧ (ver != n.ver) = true := by
    unfold wrongB at hw
    simpa using hw
  obtain ⟨v1, v2⟩ := hv
  clear hw HC hg0 hs1 hz1 hk1
  obtain ⟨hk, hkp, hkn⟩ := at_ent hr hg
  rw [isAt_some hr hg] at HAT
  clear h hr
  generalize hkk : atR (entL E) p = j at *
  clear hkk
  obtain ⟨va, vc, rfl⟩ := owns_slice HRB.out.ents.row
  have HROW : Hid (∃ q, va = some ⟨q, 0, none⟩ ∧ RowB wB q entT 11 vc (E.flatMap entC)) := by
    have h1 : E.length ≠ 0 := by omega
    rcases HRB.out.ents.row.2 with ⟨_, h2⟩ | ⟨q, cc, cur, h2, _⟩
    · exact absurd h2 h1
    · simp only [Value.slice.injEq] at h2
      obtain ⟨rfl, _⟩ := h2
      obtain ⟨q2, e2, hr2, _⟩ := RowB.of_owns HRB.out.ents.row
      exact ⟨q2, congrArg some e2, hr2⟩
  obtain ⟨q, rfl, hrow⟩ := HROW.out
  have HROWB := Lib.hid hrow
  obtain ⟨nv, hnv⟩ : ∃ nv, E[j].nv = nv := ⟨_, rfl⟩
  have HNM : Hid (NmO wB nv n.names) := by
    have := HRB.out.ents.ok _ (List.getElem_mem hk)
    unfold EntOk at this
    rw [hkn, hnv] at this
    exact this
  obtain ⟨na, nc, rfl⟩ := owns_slice HNM.out
  have HKE : Hid (entC E[j] = [.string p, .int .i64 n.made, .int .i64 n.chg, .int .i64 n.ver, .int .i64 n.kids, .int .i64 n.own, .int .i64 n.len, .int .i64 n.cnt, .string n.data, .int .i64 n.next, .slice na n.names.length nc]) := by show _ = _; unfold entC; rw [hkp, hkn, hnv]
  clear hrow HROW hkn hnv
  have hjI : (j : Int) < (E.length : Int) := by omega
  have hj0 : (0 : Int) ≤ (j : Int) := by omega
  clear hg
  rcases hkd with rfl | rfl | rfl
  all_goals
    go_enter Tryz.func10, Tryz.ntmps10
    go_upto_region 1 with (fail)
    rw [HWA.out]
    rw [HWB.out]
    have hab := HAB.out
    have a0 := hab.cell 0 _ rfl
    have a1 := hab.cell 1 _ rfl
    have a2 := hab.cell 2 _ rfl
    have a3 := hab.cell 3 _ rfl
    have a4 := hab.cell 4 _ rfl
    clear hab
    go_wp2_with (fail)
    refine HOP.out.mono ?_
    rintro e w1 ⟨rfl, hx1⟩
    have HX1 := Lib.hid hx1
    have hab := HAB.out.kp hx1 (fun f => f)
    clear hx1 a0 a1 a2 a3 a4
    have b0 := hab.cell 0 _ rfl
    have b1 := hab.cell 1 _ rfl
    have b2 := hab.cell 2 _ rfl
    have b3 := hab.cell 3 _ rfl
    have b4 := hab.cell 4 _ rfl
    clear hab
    go_wp2_with (fail)
    refine (HAT.out w1 HX1.out).mono ?_
    rintro e w2 ⟨rfl, hx2⟩
    have HX2 := Lib.hid (HX1.out.trans hx2)
    clear hx2
    have c1 := (HRB.out.ext HX2.out).blk.cell 1 _ rfl
    have hrw := HROWB.out.kp HX2.out (fun f => f)
    have r1 := rowE hrw hk HKE.out 1 _ (by decide) rfl
    have r2 := rowE hrw hk HKE.out 2 _ (by decide) rfl
    have r3 := rowE hrw hk HKE.out 3 _ (by decide) rfl
    have r4 := rowE hrw hk HKE.out 4 _ (by decide) rfl
    have r5 := rowE hrw hk HKE.out 5 _ (by decide) rfl
    have r6 := rowE hrw hk HKE.out 6 _ (by decide) rfl
    have r7 := rowE hrw hk HKE.out 7 _ (by decide) rfl
    have r8 := rowE hrw hk HKE.out 8 _ (by decide) rfl
    have r9 := rowE hrw hk HKE.out 9 _ (by decide) rfl
    have r10 := rowE hrw hk HKE.out 10 _ (by decide) rfl
    clear hrw
    go_upto_region 12 with (fail)
    obtain ⟨w3, hw3⟩ : ∃ w3, w2.alloc (.cells #[.int .i64 n.made, .int .i64 n.chg, .int .i64 n.ver, .int .i64 n.kids, .int .i64 n.own, .int .i64 n.len, .int .i64 n.cnt, .string n.data, .int .i64 n.next, .slice na n.names.length nc] rnT) = w3 := ⟨_, rfl⟩
    rw [hw3]
    have hx3 : Ext w2 w3 := by rw [← hw3]; exact (Kp.refl _ _).alloc _
    have hn3 : Blk w3 w2.heap.size (ndA n (.slice na n.names.length nc)) rnT := by rw [← hw3]; exact heap_alloc_new w2 _
    have HX3 := Lib.hid (HX2.out.trans hx3)
    have HN3 := Lib.hid hn3
    clear hw3 hx3 hn3 r1 r2 r3 r4 r5 r6 r7 r8 r9 r10 c1 b0 b1 b2 b3 b4
    have hab := HAB.out.kp HX3.out (fun f => f)
    have hn := HN3.out
    unfold ndA at hn
    have a0 := hab.cell 0 _ rfl
    have a1 := hab.cell 1 _ rfl
    have a2 := hab.cell 2 _ rfl
    have a3 := hab.cell 3 _ rfl
    have a4 := hab.cell 4 _ rfl
    have l0 := hn.cell 0 _ rfl
    have l1 := hn.cell 1 _ rfl
    have l2 := hn.cell 2 _ rfl
    have l3 := hn.cell 3 _ rfl
    have l4 := hn.cell 4 _ rfl
    have l5 := hn.cell 5 _ rfl
    have l6 := hn.cell 6 _ rfl
    have l7 := hn.cell 7 _ rfl
    have l8 := hn.cell 8 _ rfl
    have l9 := hn.cell 9 _ rfl
    clear hab hn
    go_wp2_with (fail)
    refine (fail10_any 6 _).mono ?_
    rintro e1 w8 ⟨rfl, hx8⟩
    have hB8 := HB.out.kp (HX3.out.trans hx8) (fun f => f)
    have HR8 := Lib.hid (HRB.out.ext (HX3.out.trans hx8))
    have HB8 := Lib.hid hB8
    have HX8 := Lib.hid (HXB.out.ext (HX3.out.trans hx8))
    unfold rsZ at hB8
    have c0 := hB8.cell 0 _ rfl
    have c1 := hB8.cell 1 _ rfl
    have c2 := hB8.cell 2 _ rfl
    have c3 := hB8.cell 3 _ rfl
    have c4 := hB8.cell 4 _ rfl
    have c5 := hB8.cell 5 _ rfl
    have c6 := hB8.cell 6 _ rfl
    have c7 := hB8.cell 7 _ rfl
    have c8 := hB8.cell 8 _ rfl
    have c9 := hB8.cell 9 _ rfl
    have c10 := hB8.cell 10 _ rfl
    have fc0 := hB8.free 0
    have fc1 := hB8.free 1
    have fc2 := hB8.free 2
    have fc3 := hB8.free 3
    have fc4 := hB8.free 4
    have fc5 := hB8.free 5
    have fc6 := hB8.free 6
    have fc7 := hB8.free 7
    have fc8 := hB8.free 8
    have fc9 := hB8.free 9
    have fc10 := hB8.free 10
    clear hB8 hx8
    unfold resA
    go_wp2_with (fail)
    go_light
    refine bodyPost_ret (v := resA 6 ⟨#[]⟩ ⟨#[]⟩ (.slice none 0 0) ndZ) (by simp [results, Tryz.results10, go_sem, resA, ndZ, c0, c1, c2, c3, c4, c5, c6, c7, c8, c9, c10]) rfl ?_
    have k11 := kp_set11 w8 (w.heap.size + 1) (.int .i64 6) (.string ⟨#[]⟩) (.string ⟨#[]⟩) (.slice none 0 0) (.int .i64 0) (.int .i64 0) (.int .i64 0) (.int .i64 0) (.int .i64 0) (.int .i64 0) (.int .i64 0)
    exact RDPost.fail HE.out (HR8.out.aside HB8.out k11) (HX8.out.next k11 (fun i hi e => by omega))
end Go.Proofs.YtdagikbdpeblhaaGreatDoor
