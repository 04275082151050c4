


/- Walks over the reference's tree: Do that sets. -/
import Derived.Test.YtdagikbdpeblhaaGreatDoorAvHRefH
namespace Go.Proofs.YtdagikbdpeblhaaGreatDoor
set_option maxRecDepth 100000
open Go.RowKit Av

theorem RefA.aside2 {w w' : World} {base g b : Nat} {room : Int} {v : Value} {E : List Ent} {cs : Array Value} {T0 : TypeId} (h : RefA w base g room v E) (hB : Blk w b cs T0) (hT : T0 ≠ rtT ∧ T0 ≠ strT ∧ T0 ≠ entT) (hk : Kp (fun i => i = b) w w') : RefA w' base g room v E := by
  have hne : ∀ T : TypeId, T ≠ T0 → NoT w (fun i => i = b) T := fun T hT i e cur f hc => by
    have e2 : i = b := e
    subst e2
    have h1 : w.heap[i]? = some (.cells cs T0 (0, 0)) := hB
    rw [h1] at hc
    simp only [Option.some.injEq, Obj.cells.injEq] at hc
    exact hT hc.2.1.symm
  refine ⟨h.low, h.blk.kp hk (fun e => hne rtT hT.1.symm g e _ _ h.blk), ⟨?_, fun x hx => EntOk.kp (h.ents.ok x hx) hk (hne strT hT.2.1.symm)⟩⟩
  refine ownsRow.kp h.ents.row hk (fun i hi e => ?_)
  obtain ⟨cur, f, h4⟩ := own_type h.ents.row hi
  exact hne entT hT.2.2.symm i e cur f h4
theorem blk_set10 {w : World} {r : Nat} {T : TypeId} {c0 c1 c2 c3 c4 c5 c6 c7 c8 c9 : Value} (h : Blk w r #[c0, c1, c2, c3, c4, c5, c6, c7, c8, c9] T) (u0 u1 u2 u3 u4 u5 u6 u7 u8 u9 : Value) : Blk (set10 w r u0 u1 u2 u3 u4 u5 u6 u7 u8 u9) r #[u0, u1, u2, u3, u4, u5, u6, u7, u8, u9] T := by
  have h0 : Blk (w.setCell ⟨r, 0, none⟩ u0) r #[u0, c1, c2, c3, c4, c5, c6, c7, c8, c9] T := h.set 0 u0
  have h1 : Blk ((w.setCell ⟨r, 0, none⟩ u0).setCell ⟨r, 1, none⟩ u1) r #[u0, u1, c2, c3, c4, c5, c6, c7, c8, c9] T := h0.set 1 u1
  have h2 : Blk (((w.setCell ⟨r, 0, none⟩ u0).setCell ⟨r, 1, none⟩ u1).setCell ⟨r, 2, none⟩ u2) r #[u0, u1, u2, c3, c4, c5, c6, c7, c8, c9] T := h1.set 2 u2
  have h3 : Blk ((((w.setCell ⟨r, 0, none⟩ u0).setCell ⟨r, 1, none⟩ u1).setCell ⟨r, 2, none⟩ u2).setCell ⟨r, 3, none⟩ u3) r #[u0, u1, u2, u3, c4, c5, c6, c7, c8, c9] T := h2.set 3 u3
  have h4 : Blk (((((w.setCell ⟨r, 0, none⟩ u0).setCell ⟨r, 1, none⟩ u1).setCell ⟨r, 2, none⟩ u2).setCell ⟨r, 3, none⟩ u3).setCell ⟨r, 4, none⟩ u4) r #[u0, u1, u2, u3, u4, c5, c6, c7, c8, c9] T := h3.set 4 u4
  have h5 : Blk ((((((w.setCell ⟨r, 0, none⟩ u0).setCell ⟨r, 1, none⟩ u1).setCell ⟨r, 2, none⟩ u2).setCell ⟨r, 3, none⟩ u3).setCell ⟨r, 4, none⟩ u4).setCell ⟨r, 5, none⟩ u5) r #[u0, u1, u2, u3, u4, u5, c6, c7, c8, c9] T := h4.set 5 u5
  have h6 : Blk (((((((w.setCell ⟨r, 0, none⟩ u0).setCell ⟨r, 1, none⟩ u1).setCell ⟨r, 2, none⟩ u2).setCell ⟨r, 3, none⟩ u3).setCell ⟨r, 4, none⟩ u4).setCell ⟨r, 5, none⟩ u5).setCell ⟨r, 6, none⟩ u6) r #[u0, u1, u2, u3, u4, u5, u6, c7, c8, c9] T := h5.set 6 u6
  have h7 : Blk ((((((((w.setCell ⟨r, 0, none⟩ u0).setCell ⟨r, 1, none⟩ u1).setCell ⟨r, 2, none⟩ u2).setCell ⟨r, 3, none⟩ u3).setCell ⟨r, 4, none⟩ u4).setCell ⟨r, 5, none⟩ u5).setCell ⟨r, 6, none⟩ u6).setCell ⟨r, 7, none⟩ u7) r #[u0, u1, u2, u3, u4, u5, u6, u7, c8, c9] T := h6.set 7 u7
  have h8 : Blk (((((((((w.setCell ⟨r, 0, none⟩ u0).setCell ⟨r, 1, none⟩ u1).setCell ⟨r, 2, none⟩ u2).setCell ⟨r, 3, none⟩ u3).setCell ⟨r, 4, none⟩ u4).setCell ⟨r, 5, none⟩ u5).setCell ⟨r, 6, none⟩ u6).setCell ⟨r, 7, none⟩ u7).setCell ⟨r, 8, none⟩ u8) r #[u0, u1, u2, u3, u4, u5, u6, u7, u8, c9] T := h7.set 8 u8
  have h9 : Blk ((((((((((w.setCell ⟨r, 0, none⟩ u0).setCell ⟨r, 1, none⟩ u1).setCell ⟨r, 2, none⟩ u2).setCell ⟨r, 3, none⟩ u3).setCell ⟨r, 4, none⟩ u4).setCell ⟨r, 5, none⟩ u5).setCell ⟨r, 6, none⟩ u6).setCell ⟨r, 7, none⟩ u7).setCell ⟨r, 8, none⟩ u8).setCell ⟨r, 9, none⟩ u9) r #[u0, u1, u2, u3, u4, u5, u6, u7, u8, u9] T := h8.set 9 u9
  exact h9
set_option maxHeartbeats 6400000 in
theorem do_set (base g : Nat) (room : Int) (v : Value) (E : List Ent) (k : Int) (p d : ByteArray) (ver f sess z : Int) (w : World) (h : RefA w base g room v E) (hr : Rising (keysR (entL E))) (hp : p.size ≤ 1000000) (hd : d.size ≤ 1000000) (hgood : goodO ⟨k, p, d, ver, f⟩ = 0 ∧ 1 ≤ sess ∧ 0 ≤ z) (hk1 : k ≠ 1) {n : NodeV} (hg : mget (entL E) p = some n) (hkd : k = 3) (hok : EntsK E) (hw : wrongB ⟨k, p, d, ver, f⟩ n = false) :
    Calls Tryz.prog 10 #[.pointer (some ⟨g, 0, none⟩), .agg #[.int .i64 k, .string p, .string d, .int .i64 ver, .int .i64 f], .int .i64 sess, .int .i64 z] w fun e w' => RDPost w base g room v (doL room (entL E) ⟨k, p, d, ver, f⟩ sess z) e w' := by
  obtain ⟨wA, hWA⟩ : ∃ wA, w.alloc (.cells #[.int .i64 k, .string p, .string d, .int .i64 ver, .int .i64 f] 33) = wA := ⟨_, rfl⟩
  have hxA : Ext w wA := by rw [← hWA]; exact (Kp.refl _ _).alloc _
  have hA : Blk wA w.heap.size #[.int .i64 k, .string p, .string d, .int .i64 ver, .int .i64 f] 33 := by rw [← hWA]; exact heap_alloc_new w _
  obtain ⟨wB, hWB⟩ : ∃ wB, wA.alloc (.cells rsZ rsuT) = wB := ⟨_, rfl⟩
  have hxB : Ext wA wB := by rw [← hWB]; exact (Kp.refl _ _).alloc _
  have hsA : wA.heap.size = w.heap.size + 1 := by rw [← hWA]; exact World.size_alloc _ _
  have hB : Blk wB (w.heap.size + 1) rsZ rsuT := by rw [← hWB, ← hsA]; exact heap_alloc_new wA _
  have HAB := Lib.hid (hA.kp hxB (fun f => f))
  have HB := Lib.hid hB
  have HXB := Lib.hid (hxA.ext hxB)
  have HRB := Lib.hid (h.ext (hxA.ext hxB))
  have HWA := Lib.hid hWA
  unfold rsZ at hWB
  have HWB := Lib.hid hWB
  have HOP : Hid (Calls Tryz.prog 48 #[.agg #[.int .i64 k, .string p, .string d, .int .i64 ver, .int .i64 f]] wB fun e w' => e = .returned (.int .i64 (goodO ⟨k, p, d, ver, f⟩)) ∧ Ext wB w') := refOp_any ⟨k, p, d, ver, f⟩ wB (by show p.size ≤ _; unfold maxLen; omega) (by show d.size ≤ _; unfold maxLen; omega)
  have HAT := Lib.hid (fun W (hW : Ext wB W) => at_any base g room v E p W ((h.ext (hxA.ext hxB)).ext hW))
  obtain ⟨X, hX⟩ : ∃ X, doL room (entL E) ⟨k, p, d, ver, f⟩ sess z = X := ⟨_, rfl⟩
  rw [hX]
  have HC : Hid (X = doL room (entL E) ⟨k, p, d, ver, f⟩ sess z) := hX.symm
  clear hWA hxA hA hWB hxB hB hsA hX
  obtain ⟨hg0, hs1, hz1⟩ := hgood
  rw [hg0] at HOP
  have s0 : ¬ sess < 1 := by omega
  have s1 : ¬ z < 0 := by omega
  have q1 : (k == 1) = false := by simpa using hk1
  have HE : Hid (X = ((entL E).set (atR (entL E) p) (p, ndWrite n z d), ⟨0, p, ⟨#[]⟩, [], ndWrite n z d⟩)) := by
    show _ = _
    rw [HC.out]
    unfold doL
    rw [if_neg (by rw [hg0]; simp), if_neg (by omega), if_neg hk1, if_pos (by show k = 2 ∨ k = 3 ∨ k = 4; omega)]
    unfold changeL
    simp only [hg]
    rw [if_neg (by rw [hw]; simp), if_neg (by show ¬ k = 2; omega), if_pos (by show k = 3; omega)]
  have hv : (ver != -1) = false ∨ ((ver != -1) = true ∧ (ver != n.ver) = false) := right_ways hw
  have HGW : Hid (g < w.heap.size) := h.blk.lt
  have HVER : Hid (-9223372036854775808 ≤ n.ver) := by
    obtain ⟨hk, _, hkn⟩ := at_ent hr hg
    have := (hok _ (List.getElem_mem hk)).ver
    rw [hkn] at this
    exact this
  clear HC hg0 hs1 hz1 hk1 hw hok
  obtain ⟨hk, hkp, hkn⟩ := at_ent hr hg
  rw [isAt_some hr hg] at HAT
  clear h hr
  generalize hkk : atR (entL E) p = j at *
  clear hkk
  obtain ⟨va, vc, rfl⟩ := owns_slice HRB.out.ents.row
  have HROW : Hid (∃ q, va = some ⟨q, 0, none⟩ ∧ RowB wB q entT 11 vc (E.flatMap entC)) := by
    have h1 : E.length ≠ 0 := by omega
    rcases HRB.out.ents.row.2 with ⟨_, h2⟩ | ⟨q, cc, cur, h2, _⟩
    · exact absurd h2 h1
    · simp only [Value.slice.injEq] at h2
      obtain ⟨rfl, _⟩ := h2
      obtain ⟨q2, e2, hr2, _⟩ := RowB.of_owns HRB.out.ents.row
      exact ⟨q2, congrArg some e2, hr2⟩
  obtain ⟨q, rfl, hrow⟩ := HROW.out
  have HROWB := Lib.hid hrow
  obtain ⟨nv, hnv⟩ : ∃ nv, E[j].nv = nv := ⟨_, rfl⟩
  have HNM : Hid (NmO wB nv n.names) := by
    have := HRB.out.ents.ok _ (List.getElem_mem hk)
    unfold EntOk at this
    rw [hkn, hnv] at this
    exact this
  obtain ⟨na, nc, rfl⟩ := owns_slice HNM.out
  have HKE : Hid (entC E[j] = [.string p, .int .i64 n.made, .int .i64 n.chg, .int .i64 n.ver, .int .i64 n.kids, .int .i64 n.own, .int .i64 n.len, .int .i64 n.cnt, .string n.data, .int .i64 n.next, .slice na n.names.length nc]) := by show _ = _; unfold entC; rw [hkp, hkn, hnv]
  clear hrow HROW hkn hnv
  have hjI : (j : Int) < (E.length : Int) := by omega
  have hj0 : (0 : Int) ≤ (j : Int) := by omega
  clear hg
  subst hkd
  rcases hv with hv | ⟨hv, hv2⟩
  all_goals
    go_enter Tryz.func10, Tryz.ntmps10
    go_upto_region 1 with (fail)
    rw [HWA.out]
    rw [HWB.out]
    have hab := HAB.out
    have a0 := hab.cell 0 _ rfl
    have a1 := hab.cell 1 _ rfl
    have a2 := hab.cell 2 _ rfl
    have a3 := hab.cell 3 _ rfl
    have a4 := hab.cell 4 _ rfl
    clear hab
    go_wp2_with (fail)
    refine HOP.out.mono ?_
    rintro e w1 ⟨rfl, hx1⟩
    have HX1 := Lib.hid hx1
    have hab := HAB.out.kp hx1 (fun f => f)
    clear hx1 a0 a1 a2 a3 a4
    have b0 := hab.cell 0 _ rfl
    have b1 := hab.cell 1 _ rfl
    have b2 := hab.cell 2 _ rfl
    have b3 := hab.cell 3 _ rfl
    have b4 := hab.cell 4 _ rfl
    clear hab
    go_wp2_with (fail)
    refine (HAT.out w1 HX1.out).mono ?_
    rintro e w2 ⟨rfl, hx2⟩
    have HX2 := Lib.hid (HX1.out.trans hx2)
    clear hx2
    have c1 := (HRB.out.ext HX2.out).blk.cell 1 _ rfl
    have hrw := HROWB.out.kp HX2.out (fun f => f)
    have r1 := rowE hrw hk HKE.out 1 _ (by decide) rfl
    have r2 := rowE hrw hk HKE.out 2 _ (by decide) rfl
    have r3 := rowE hrw hk HKE.out 3 _ (by decide) rfl
    have r4 := rowE hrw hk HKE.out 4 _ (by decide) rfl
    have r5 := rowE hrw hk HKE.out 5 _ (by decide) rfl
    have r6 := rowE hrw hk HKE.out 6 _ (by decide) rfl
    have r7 := rowE hrw hk HKE.out 7 _ (by decide) rfl
    have r8 := rowE hrw hk HKE.out 8 _ (by decide) rfl
    have r9 := rowE hrw hk HKE.out 9 _ (by decide) rfl
    have r10 := rowE hrw hk HKE.out 10 _ (by decide) rfl
    clear hrw
    go_upto_region 12 with (fail)
    obtain ⟨w3, hw3⟩ : ∃ w3, w2.alloc (.cells #[.int .i64 n.made, .int .i64 n.chg, .int .i64 n.ver, .int .i64 n.kids, .int .i64 n.own, .int .i64 n.len, .int .i64 n.cnt, .string n.data, .int .i64 n.next, .slice na n.names.length nc] rnT) = w3 := ⟨_, rfl⟩
    rw [hw3]
    have hx3 : Ext w2 w3 := by rw [← hw3]; exact (Kp.refl _ _).alloc _
    have hn3 : Blk w3 w2.heap.size (ndA n (.slice na n.names.length nc)) rnT := by rw [← hw3]; exact heap_alloc_new w2 _
    have HX3 := Lib.hid (HX2.out.trans hx3)
    have HN3 := Lib.hid hn3
    clear hw3 hx3 hn3 r1 r2 r3 r4 r5 r6 r7 r8 r9 r10 c1 b0 b1 b2 b3 b4
    have hab := HAB.out.kp HX3.out (fun f => f)
    have hn := HN3.out
    unfold ndA at hn
    have a0 := hab.cell 0 _ rfl
    have a1 := hab.cell 1 _ rfl
    have a2 := hab.cell 2 _ rfl
    have a3 := hab.cell 3 _ rfl
    have a4 := hab.cell 4 _ rfl
    have l0 := hn.cell 0 _ rfl
    have l1 := hn.cell 1 _ rfl
    have l2 := hn.cell 2 _ rfl
    have l3 := hn.cell 3 _ rfl
    have l4 := hn.cell 4 _ rfl
    have l5 := hn.cell 5 _ rfl
    have l6 := hn.cell 6 _ rfl
    have l7 := hn.cell 7 _ rfl
    have l8 := hn.cell 8 _ rfl
    have l9 := hn.cell 9 _ rfl
    clear hab hn
    go_upto_region 15 with (fail)
    obtain ⟨w4, hw4⟩ : ∃ w4, w3.alloc (.cells #[.int .i64 0, .string p, .string ⟨#[]⟩, .slice none 0 0, .int .i64 0, .int .i64 0, .int .i64 0, .int .i64 0, .int .i64 0, .int .i64 0, .int .i64 0] rsuT) = w4 := ⟨_, rfl⟩
    rw [hw4]
    have hx4 : Ext w3 w4 := by rw [← hw4]; exact (Kp.refl _ _).alloc _
    have hr4 : Blk w4 w3.heap.size #[.int .i64 0, .string p, .string ⟨#[]⟩, .slice none 0 0, .int .i64 0, .int .i64 0, .int .i64 0, .int .i64 0, .int .i64 0, .int .i64 0, .int .i64 0] rsuT := by rw [← hw4]; exact heap_alloc_new w3 _
    have HX4 := Lib.hid (HX3.out.trans hx4)
    have HN4 := Lib.hid (HN3.out.kp hx4 (fun f => f))
    have HR4 := Lib.hid hr4
    have hs3 : w2.heap.size < w3.heap.size := HN3.out.lt
    have hsB : w.heap.size + 1 < w2.heap.size := (HB.out.kp HX2.out (fun f => f)).lt
    have n1 : w2.heap.size ≠ w3.heap.size := by omega
    have n2 : w3.heap.size ≠ w2.heap.size := by omega
    have n3 : w.heap.size ≠ w3.heap.size := by omega
    have n4 : w3.heap.size ≠ w.heap.size := by omega
    have n5 : w.heap.size + 1 ≠ w3.heap.size := by omega
    have n6 : w3.heap.size ≠ w.heap.size + 1 := by omega
    have HLT : Hid (w2.heap.size < w3.heap.size ∧ w.heap.size + 1 < w2.heap.size) := ⟨hs3, hsB⟩
    clear hw4 hx4 hr4 hs3 hsB a0 a1 a2 a3 a4 l0 l1 l2 l3 l4 l5 l6 l7 l8 l9
    have hab := HAB.out.kp HX4.out (fun f => f)
    have hn := HN4.out
    have hr4 := HR4.out
    unfold ndA at hn
    have a0 := hab.cell 0 _ rfl
    have a1 := hab.cell 1 _ rfl
    have a2 := hab.cell 2 _ rfl
    have a3 := hab.cell 3 _ rfl
    have a4 := hab.cell 4 _ rfl
    have l0 := hn.cell 0 _ rfl
    have l1 := hn.cell 1 _ rfl
    have l2 := hn.cell 2 _ rfl
    have l3 := hn.cell 3 _ rfl
    have l4 := hn.cell 4 _ rfl
    have l5 := hn.cell 5 _ rfl
    have l6 := hn.cell 6 _ rfl
    have l7 := hn.cell 7 _ rfl
    have l8 := hn.cell 8 _ rfl
    have l9 := hn.cell 9 _ rfl
    have t0 := hr4.cell 0 _ rfl
    have t1 := hr4.cell 1 _ rfl
    have t2 := hr4.cell 2 _ rfl
    have t3 := hr4.cell 3 _ rfl
    have t4 := hr4.cell 4 _ rfl
    have t5 := hr4.cell 5 _ rfl
    have t6 := hr4.cell 6 _ rfl
    have t7 := hr4.cell 7 _ rfl
    have t8 := hr4.cell 8 _ rfl
    have t9 := hr4.cell 9 _ rfl
    have t10 := hr4.cell 10 _ rfl
    have ft0 := hr4.free 0
    have ft1 := hr4.free 1
    have ft2 := hr4.free 2
    have ft3 := hr4.free 3
    have ft4 := hr4.free 4
    have ft5 := hr4.free 5
    have ft6 := hr4.free 6
    have ft7 := hr4.free 7
    have ft8 := hr4.free 8
    have ft9 := hr4.free 9
    have ft10 := hr4.free 10
    clear hab hn hr4
    go_wp2_with (fail)
    refine (write10_any n na n.names.length nc z d w4 HVER.out).mono ?_
    rintro e w5 ⟨rfl, hx5⟩
    obtain ⟨M, hM⟩ : ∃ M, ndWrite n z d = M := ⟨_, rfl⟩
    rw [hM] at HE ⊢
    have HMN : Hid (M.names = n.names) := by show _ = _; rw [← hM]; rfl
    have HX5 := Lib.hid (HX4.out.trans hx5)
    have hn5 := HN4.out.kp hx5 (fun f => f)
    have HN5 := Lib.hid hn5
    have HR5 := Lib.hid (HR4.out.kp hx5 (fun f => f))
    unfold ndA at hn5
    clear hM a0 a1 a2 a3 a4 l0 l1 l2 l3 l4 l5 l6 l7 l8 l9 t0 t1 t2 t3 t4 t5 t6 t7 t8 t9 t10 ft0 ft1 ft2 ft3 ft4 ft5 ft6 ft7 ft8 ft9 ft10
    have l0 := hn5.cell 0 _ rfl
    have l1 := hn5.cell 1 _ rfl
    have l2 := hn5.cell 2 _ rfl
    have l3 := hn5.cell 3 _ rfl
    have l4 := hn5.cell 4 _ rfl
    have l5 := hn5.cell 5 _ rfl
    have l6 := hn5.cell 6 _ rfl
    have l7 := hn5.cell 7 _ rfl
    have l8 := hn5.cell 8 _ rfl
    have l9 := hn5.cell 9 _ rfl
    have fl0 := hn5.free 0
    have fl1 := hn5.free 1
    have fl2 := hn5.free 2
    have fl3 := hn5.free 3
    have fl4 := hn5.free 4
    have fl5 := hn5.free 5
    have fl6 := hn5.free 6
    have fl7 := hn5.free 7
    have fl8 := hn5.free 8
    have fl9 := hn5.free 9
    clear hn5 hx5
    unfold ndA
    go_upto_region 23 with (fail)
    obtain ⟨w6, hw6⟩ : ∃ w6, (((((((((w5.setCell ⟨w2.heap.size, 0, none⟩ (.int .i64 M.made)).setCell ⟨w2.heap.size, 1, none⟩ (.int .i64 M.chg)).setCell ⟨w2.heap.size, 2, none⟩ (.int .i64 M.ver)).setCell ⟨w2.heap.size, 3, none⟩ (.int .i64 M.kids)).setCell ⟨w2.heap.size, 4, none⟩ (.int .i64 M.own)).setCell ⟨w2.heap.size, 5, none⟩ (.int .i64 M.len)).setCell ⟨w2.heap.size, 6, none⟩ (.int .i64 M.cnt)).setCell ⟨w2.heap.size, 7, none⟩ (.string M.data)).setCell ⟨w2.heap.size, 8, none⟩ (.int .i64 M.next)).setCell ⟨w2.heap.size, 9, none⟩ (.slice na n.names.length nc) = w6 := ⟨_, rfl⟩
    rw [hw6]
    have hk6 : Kp (fun i => i = w2.heap.size) w5 w6 := by rw [← hw6]; exact kp_set10 w5 w2.heap.size (.int .i64 M.made) (.int .i64 M.chg) (.int .i64 M.ver) (.int .i64 M.kids) (.int .i64 M.own) (.int .i64 M.len) (.int .i64 M.cnt) (.string M.data) (.int .i64 M.next) (.slice na n.names.length nc)
    have hn5 := HN5.out
    unfold ndA at hn5
    have hn6 : Blk w6 w2.heap.size #[.int .i64 M.made, .int .i64 M.chg, .int .i64 M.ver, .int .i64 M.kids, .int .i64 M.own, .int .i64 M.len, .int .i64 M.cnt, .string M.data, .int .i64 M.next, .slice na n.names.length nc] rnT := by rw [← hw6]; exact blk_set10 hn5 (.int .i64 M.made) (.int .i64 M.chg) (.int .i64 M.ver) (.int .i64 M.kids) (.int .i64 M.own) (.int .i64 M.len) (.int .i64 M.cnt) (.string M.data) (.int .i64 M.next) (.slice na n.names.length nc)
    have HK6 := Lib.hid hk6
    have HN6 := Lib.hid hn6
    have hlt := HLT.out
    have hgw := HGW.out
    have hqw : q < w2.heap.size := (HROWB.out.kp HX2.out (fun f => f)).lt
    have HRB6 : Hid (RefA w6 base g room (.slice (some ⟨q, 0, none⟩) E.length vc) E) := (HRB.out.ext HX5.out).aside2 hn5 (by decide) hk6
    have HR6 := Lib.hid (HR5.out.kp hk6 (by omega))
    have HB6 := Lib.hid ((HB.out.kp HX5.out (fun f => f)).kp hk6 (by omega))
    have HA6 := Lib.hid ((HAB.out.kp HX5.out (fun f => f)).kp hk6 (by omega))
    clear hw6 hk6 hn5 hn6 l0 l1 l2 l3 l4 l5 l6 l7 l8 l9 fl0 fl1 fl2 fl3 fl4 fl5 fl6 fl7 fl8 fl9
    refine' wp_region_dagK 8 [] ((106, .val _) :: (107, .val _) :: (108, .val _) :: (109, .val _) :: (110, .val _) :: (111, .val _) :: (112, .val _) :: (113, .val _) :: []) (by exact ⟨fun _ _ _ _ _ => trivial, ⟨fun _ _ _ _ _ => trivial, ⟨fun _ _ _ _ _ => trivial, ⟨fun _ _ _ _ _ => trivial, ⟨fun _ _ _ _ _ => trivial, ⟨fun _ _ _ _ _ => trivial, ⟨fun _ _ _ _ _ => trivial, ⟨fun _ _ _ _ _ => trivial, trivial⟩⟩⟩⟩⟩⟩⟩⟩) (by kernel_rfl) (by kernel_rfl) (by kernel_rfl) ?_
    rotate_left 8
    simp only [List.take_succ_cons, List.take_zero]
    repeat (first
      | (refine wpD_skipv ?_ ?_ ?_
         focus rfl
         focus rfl
         simp only [Act.put, List.setIfInBounds_toArray, List.set_cons_succ, List.set_cons_zero])
      | (refine' wpD_val (c := _) ?_ (fun w => Kp.refl _ w) ?_ (fun wq hwq hfq => ?_) ?_
         rotate_left
         focus rfl
         focus rfl
         focus ((have hnq := HN6.out.kp hwq (Nat.not_le.2 HN6.out.lt); have d0 := hnq.cell 0 _ rfl; have d1 := hnq.cell 1 _ rfl; have d2 := hnq.cell 2 _ rfl; have d3 := hnq.cell 3 _ rfl; have d4 := hnq.cell 4 _ rfl; have d5 := hnq.cell 5 _ rfl; have d6 := hnq.cell 6 _ rfl; have d7 := hnq.cell 7 _ rfl; have d8 := hnq.cell 8 _ rfl; have d9 := hnq.cell 9 _ rfl; have c1 := (HRB6.out.blk.kp hwq (Nat.not_le.2 HRB6.out.blk.lt)).cell 1 _ rfl); go_simp; first | done | rfl)
         simp only [Act.put, List.setIfInBounds_toArray, List.set_cons_succ, List.set_cons_zero])
      | (refine' wpD_con (c := _) ?_ ?_ (fun wq hwq hfq => ?_) ?_
         rotate_left
         focus rfl
         focus rfl
         focus ((have hnq := HN6.out.kp hwq (Nat.not_le.2 HN6.out.lt); have d0 := hnq.cell 0 _ rfl; have d1 := hnq.cell 1 _ rfl; have d2 := hnq.cell 2 _ rfl; have d3 := hnq.cell 3 _ rfl; have d4 := hnq.cell 4 _ rfl; have d5 := hnq.cell 5 _ rfl; have d6 := hnq.cell 6 _ rfl; have d7 := hnq.cell 7 _ rfl; have d8 := hnq.cell 8 _ rfl; have d9 := hnq.cell 9 _ rfl; have c1 := (HRB6.out.blk.kp hwq (Nat.not_le.2 HRB6.out.blk.lt)).cell 1 _ rfl); go_simp; (try (rw [dUpon_enter])); fail)
         simp only [Act.put, List.setIfInBounds_toArray, List.set_cons_succ, List.set_cons_zero])
      | fail)
    refine wpD_nil ?_
    intro w7 hx7 hend
    clear hend
    have hx7 : Ext w6 w7 := hx7.mono (fun i hi h => by omega)
    have hrow := ((HROWB.out.kp HX5.out (fun f => f)).kp HK6.out (by omega)).kp hx7 (fun f => f)
    have HROW7 := Lib.hid hrow
    have HX7 := Lib.hid hx7
    have e1 := rowE hrow hk HKE.out 1 _ (by decide) rfl
    have g1 := hrow.free (j * 11 + 1)
    have e2 := rowE hrow hk HKE.out 2 _ (by decide) rfl
    have g2 := hrow.free (j * 11 + 2)
    have e3 := rowE hrow hk HKE.out 3 _ (by decide) rfl
    have g3 := hrow.free (j * 11 + 3)
    have e4 := rowE hrow hk HKE.out 4 _ (by decide) rfl
    have g4 := hrow.free (j * 11 + 4)
    have e5 := rowE hrow hk HKE.out 5 _ (by decide) rfl
    have g5 := hrow.free (j * 11 + 5)
    have e6 := rowE hrow hk HKE.out 6 _ (by decide) rfl
    have g6 := hrow.free (j * 11 + 6)
    have e7 := rowE hrow hk HKE.out 7 _ (by decide) rfl
    have g7 := hrow.free (j * 11 + 7)
    have e8 := rowE hrow hk HKE.out 8 _ (by decide) rfl
    have g8 := hrow.free (j * 11 + 8)
    have e9 := rowE hrow hk HKE.out 9 _ (by decide) rfl
    have g9 := hrow.free (j * 11 + 9)
    have e10 := rowE hrow hk HKE.out 10 _ (by decide) rfl
    have g10 := hrow.free (j * 11 + 10)
    clear hrow hx7
    go_upto_region 24 with (fail)
    obtain ⟨w8, hw8⟩ : ∃ w8, ((((((((((w7).setCell ⟨q, j * 11 + 1, none⟩ (.int .i64 M.made)).setCell ⟨q, j * 11 + 1 + 1, none⟩ (.int .i64 M.chg)).setCell ⟨q, j * 11 + 1 + 2, none⟩ (.int .i64 M.ver)).setCell ⟨q, j * 11 + 1 + 3, none⟩ (.int .i64 M.kids)).setCell ⟨q, j * 11 + 1 + 4, none⟩ (.int .i64 M.own)).setCell ⟨q, j * 11 + 1 + 5, none⟩ (.int .i64 M.len)).setCell ⟨q, j * 11 + 1 + 6, none⟩ (.int .i64 M.cnt)).setCell ⟨q, j * 11 + 1 + 7, none⟩ (.string M.data)).setCell ⟨q, j * 11 + 1 + 8, none⟩ (.int .i64 M.next)).setCell ⟨q, j * 11 + 1 + 9, none⟩ (.slice na n.names.length nc) = w8 := ⟨_, rfl⟩
    rw [hw8]
    have hw8' : w7.setCells q (j * 11 + 1) (ndL M (.slice na n.names.length nc)) = w8 := hw8
    have hnm7 : NmO w7 (.slice na n.names.length nc) M.names := by
      rw [HMN.out]
      have h5 := ownsRow.ext HNM.out HX5.out
      have h6 : NmO w6 (.slice na n.names.length nc) n.names := ownsRow.kp h5 HK6.out (fun i hi e => by
        have h3 := (own_in HNM.out hi).2
        have h4 := HX2.out.size
        have e2 : i = w2.heap.size := e
        omega)
      exact ownsRow.ext h6 HX7.out
    obtain ⟨q', c', hq', _, hRA, hkA⟩ := (HRB6.out.ext HX7.out).node hk M (.slice na n.names.length nc) hnm7
    simp only [Value.slice.injEq, Option.some.injEq, Addr.mk.injEq, and_true, true_and] at hq'
    obtain ⟨rfl, rfl⟩ := hq'
    rw [hw8'] at hRA hkA
    have hq1 : ¬ w.heap.size + 1 = q := fun e => by
      obtain ⟨cur, h1, _⟩ := HROWB.out
      have h2 : wB.heap[w.heap.size + 1]? = some (.cells rsZ rsuT (0, 0)) := HB.out
      rw [e, h1] at h2
      simp only [Option.some.injEq, Obj.cells.injEq] at h2
      exact absurd h2.2.1 (by decide)
    have hq2 : ¬ w.heap.size = q := fun e => by
      obtain ⟨cur, h1, _⟩ := HROWB.out
      have h2 : wB.heap[w.heap.size]? = some (.cells _ 33 (0, 0)) := HAB.out
      rw [e, h1] at h2
      simp only [Option.some.injEq, Obj.cells.injEq] at h2
      exact absurd h2.2.1 (by decide)
    have hn8 := (HN6.out.kp HX7.out (fun f => f)).kp hkA (by omega)
    have hr8 := (HR6.out.kp HX7.out (fun f => f)).kp hkA (by omega)
    have hB8 := (HB6.out.kp HX7.out (fun f => f)).kp hkA (by omega)
    have ha8 := (HA6.out.kp HX7.out (fun f => f)).kp hkA (by omega)
    have HRA := Lib.hid hRA
    have HKA := Lib.hid hkA
    have HR8 := Lib.hid hr8
    have HB8 := Lib.hid hB8
    clear hw8 hw8' hnm7 hRA hkA hB8 e1 e2 e3 e4 e5 e6 e7 e8 e9 e10 g1 g2 g3 g4 g5 g6 g7 g8 g9 g10
    have a0 := ha8.cell 0 _ rfl
    have a1 := ha8.cell 1 _ rfl
    have a2 := ha8.cell 2 _ rfl
    have a3 := ha8.cell 3 _ rfl
    have a4 := ha8.cell 4 _ rfl
    have l0 := hn8.cell 0 _ rfl
    have l1 := hn8.cell 1 _ rfl
    have l2 := hn8.cell 2 _ rfl
    have l3 := hn8.cell 3 _ rfl
    have l4 := hn8.cell 4 _ rfl
    have l5 := hn8.cell 5 _ rfl
    have l6 := hn8.cell 6 _ rfl
    have l7 := hn8.cell 7 _ rfl
    have l8 := hn8.cell 8 _ rfl
    have l9 := hn8.cell 9 _ rfl
    have t0 := hr8.cell 0 _ rfl
    have t1 := hr8.cell 1 _ rfl
    have t2 := hr8.cell 2 _ rfl
    have t3 := hr8.cell 3 _ rfl
    have t4 := hr8.cell 4 _ rfl
    have t5 := hr8.cell 5 _ rfl
    have t6 := hr8.cell 6 _ rfl
    have t7 := hr8.cell 7 _ rfl
    have t8 := hr8.cell 8 _ rfl
    have t9 := hr8.cell 9 _ rfl
    have t10 := hr8.cell 10 _ rfl
    have ft0 := hr8.free 0
    have ft1 := hr8.free 1
    have ft2 := hr8.free 2
    have ft3 := hr8.free 3
    have ft4 := hr8.free 4
    have ft5 := hr8.free 5
    have ft6 := hr8.free 6
    have ft7 := hr8.free 7
    have ft8 := hr8.free 8
    have ft9 := hr8.free 9
    have ft10 := hr8.free 10
    clear ha8 hn8 hr8
    go_upto_region 33 with (fail)
    obtain ⟨W5, hW5⟩ : ∃ W5, (((((((w8).setCell ⟨w3.heap.size, 4, none⟩ (.int .i64 M.made)).setCell ⟨w3.heap.size, 5, none⟩ (.int .i64 M.chg)).setCell ⟨w3.heap.size, 6, none⟩ (.int .i64 M.ver)).setCell ⟨w3.heap.size, 7, none⟩ (.int .i64 M.kids)).setCell ⟨w3.heap.size, 8, none⟩ (.int .i64 M.own)).setCell ⟨w3.heap.size, 9, none⟩ (.int .i64 M.len)).setCell ⟨w3.heap.size, 10, none⟩ (.int .i64 M.cnt) = W5 := ⟨_, rfl⟩
    rw [hW5]
    have hr8 := HR8.out
    have hk5 : Kp (fun i => i = w3.heap.size) w8 W5 := by
      rw [← hW5]
      exact ((((((((Kp.refl (fun i => i = w3.heap.size) w8)).set1 _ 4 _ rfl).set1 _ 5 _ rfl).set1 _ 6 _ rfl).set1 _ 7 _ rfl).set1 _ 8 _ rfl).set1 _ 9 _ rfl).set1 _ 10 _ rfl
    have hb5 : Blk W5 w3.heap.size #[.int .i64 0, .string p, .string ⟨#[]⟩, .slice none 0 0, .int .i64 M.made, .int .i64 M.chg, .int .i64 M.ver, .int .i64 M.kids, .int .i64 M.own, .int .i64 M.len, .int .i64 M.cnt] rsuT := by
      rw [← hW5]
      exact (((((((hr8).set 4 _).set 5 _).set 6 _).set 7 _).set 8 _).set 9 _).set 10 _
    have hB5 : Blk W5 (w.heap.size + 1) rsZ rsuT := HB8.out.kp hk5 n5
    have HR5 := Lib.hid (HRA.out.aside hr8 hk5)
    have HB5 := Lib.hid hB5
    have HK5 : Hid (Kp (fun i => i = g ∨ (Value.slice (some ⟨q, 0, none⟩) E.length vc).ownBlock = some i) w W5) :=
      ((((((HXB.out.trans HX5.out).mono (T := fun i => i = g ∨ (Value.slice (some ⟨q, 0, none⟩) E.length vc).ownBlock = some i) (fun _ _ f => f.elim)).next HK6.out (fun i hi e => by omega)).next HX7.out (fun _ _ f => f.elim)).next HKA.out (fun i hi e => .inr (by rw [show i = q from e]; rfl))).next hk5 (fun i hi e => by omega))
    have HN5 : Hid (NmO W5 (.slice none 0 0) []) := own_nil _
    have HE5 : Hid (entL (E.set j ⟨E[j].p, M, .slice na n.names.length nc⟩) = X.1) := by show _ = _; rw [HE.out, entL_set, hkp]
    have HO5 : Hid (∀ i, (Value.slice (some ⟨q, 0, none⟩) E.length vc).ownBlock = some i → (Value.slice (some ⟨q, 0, none⟩) E.length vc).ownBlock = some i ∨ w.heap.size ≤ i) := fun i hi => .inl hi
    unfold rsZ at hB5
    clear hW5 hk5 hr8
    clear a0 a1 a2 a3 a4 l0 l1 l2 l3 l4 l5 l6 l7 l8 l9 t0 t1 t2 t3 t4 t5 t6 t7 t8 t9 t10 ft0 ft1 ft2 ft3 ft4 ft5 ft6 ft7 ft8 ft9 ft10
    have t0 := hb5.cell 0 _ rfl
    have t1 := hb5.cell 1 _ rfl
    have t2 := hb5.cell 2 _ rfl
    have t3 := hb5.cell 3 _ rfl
    have t4 := hb5.cell 4 _ rfl
    have t5 := hb5.cell 5 _ rfl
    have t6 := hb5.cell 6 _ rfl
    have t7 := hb5.cell 7 _ rfl
    have t8 := hb5.cell 8 _ rfl
    have t9 := hb5.cell 9 _ rfl
    have t10 := hb5.cell 10 _ rfl
    have c0 := hB5.cell 0 _ rfl
    have c1 := hB5.cell 1 _ rfl
    have c2 := hB5.cell 2 _ rfl
    have c3 := hB5.cell 3 _ rfl
    have c4 := hB5.cell 4 _ rfl
    have c5 := hB5.cell 5 _ rfl
    have c6 := hB5.cell 6 _ rfl
    have c7 := hB5.cell 7 _ rfl
    have c8 := hB5.cell 8 _ rfl
    have c9 := hB5.cell 9 _ rfl
    have c10 := hB5.cell 10 _ rfl
    have fc0 := hB5.free 0
    have fc1 := hB5.free 1
    have fc2 := hB5.free 2
    have fc3 := hB5.free 3
    have fc4 := hB5.free 4
    have fc5 := hB5.free 5
    have fc6 := hB5.free 6
    have fc7 := hB5.free 7
    have fc8 := hB5.free 8
    have fc9 := hB5.free 9
    have fc10 := hB5.free 10
    clear hb5 hB5
    go_wp2_with (fail)
    go_light
    refine bodyPost_ret (v := resA 0 p ⟨#[]⟩ (Value.slice none 0 0) M) (by simp [results, Tryz.results10, go_sem, resA, c0, c1, c2, c3, c4, c5, c6, c7, c8, c9, c10]) rfl ?_
    have k11 := kp_set11 W5 (w.heap.size + 1) (.int .i64 0) (.string p) (.string ⟨#[]⟩) (Value.slice none 0 0) (.int .i64 M.made) (.int .i64 M.chg) (.int .i64 M.ver) (.int .i64 M.kids) (.int .i64 M.own) (.int .i64 M.len) (.int .i64 M.cnt)
    refine ⟨_, (E.set j ⟨E[j].p, M, .slice na n.names.length nc⟩), (Value.slice none 0 0), ?_, ?_, HR5.out.aside HB5.out k11, HE5.out, HK5.out.next k11 (fun i hi e => by omega), HO5.out⟩
    · (rw [HE.out]) <;> rfl
    · rw [HE.out]
      refine ownsRow.kp HN5.out k11 (fun i hi e => ?_)
      obtain ⟨cur, f, h1⟩ := own_type HN5.out hi
      have e2 : i = w.heap.size + 1 := e
      subst e2
      have h2 : W5.heap[w.heap.size + 1]? = some (.cells rsZ rsuT (0, 0)) := HB5.out
      rw [h2] at h1
      simp only [Option.some.injEq, Obj.cells.injEq] at h1
      exact absurd h1.2.1 (by decide)
end Go.Proofs.YtdagikbdpeblhaaGreatDoor
