/- Texts put together: AvTreeS, AvLaw11A. -/
import Derived.Test.YtjapjpigpakejaaGreatDoorAvHWTreeH
import Derived.Test.YtjapjpigpakejaaGreatDoorAvHWTreeI
import Derived.Test.YtjapjpigpakejaaGreatDoorAvHTreeQ

/- A tree that a law has made: contracts in one shape. -/
namespace Go.Proofs.YtjapjpigpakejaaGreatDoor
set_option maxRecDepth 100000
open Go.RowKit Av

theorem TreeR.less {w : World} {base base' b m : Nat} {room : Int} {t : Tr} (h : TreeR w base b m room t) (hb : base' ≤ base) : TreeR w base' b m room t :=
  ⟨⟨Nat.le_trans hb h.low.1, Nat.le_trans hb h.low.2.1, fun e he => Nat.le_trans hb (h.low.2.2 e he)⟩, h.blk, h.map, h.nod, h.inj⟩
/-- A tree made since w0: its nodes' blocks, what it holds. -/
structure TS (w0 w : World) (b m : Nat) (room : Int) (K : Nat) (t : Tr) : Prop where
  tr : TreeR w w0.heap.size b m room t
  pk : PtK K (pl t)
  ex : Ext w0 w
theorem TS.ext {w0 w w' : World} {b m : Nat} {room : Int} {K : Nat} {t : Tr} (h : TS w0 w b m room K t) (k : Ext w w') : TS w0 w' b m room K t := ⟨h.tr.ext k, h.pk, h.ex.ext k⟩
/-- What a tree's calls may write. -/
def TOwn (b m : Nat) (t : Tr) (i : Nat) : Prop := i = b ∨ nodeFr m t i
/-- A tree stands where none of its blocks is written. -/
theorem TreeR.apart {w w' : World} {base b m : Nat} {room : Int} {t : Tr} (h : TreeR w base b m room t) {S : Nat → Prop} (k : Kp S w w') (hs : ∀ i, TOwn b m t i → ¬ S i) (hy : ∀ i, S i → i < w.heap.size → ∀ cur f, w.heap[i]? ≠ some (.cells cur strT f)) : TreeR w' base b m room t := by
  refine ⟨h.low, h.blk.kp k (hs _ (.inl rfl)), h.map.kp k (hs _ (.inr (.inl rfl))), fun e he => ?_, h.inj⟩
  refine (h.nod e he).kp k (hs _ (.inr (.inr ⟨e, he, rfl⟩))) (fun i cur f hi hc => ?_)
  exact hy i hi (Array.getElem?_eq_some_iff.1 hc).1 cur f hc
/-- Blocks of a tree are no rows of strings, nor any block of another type than its own. -/
theorem TreeR.types {w : World} {base b m : Nat} {room : Int} {t : Tr} (h : TreeR w base b m room t) {i : Nat} (hi : nodeFr m t i) {cur : Array Value} {T : TypeId} {f : Nat × Nat} (hc : w.heap[i]? = some (.cells cur T f)) : T = ndT := by
  rcases hi with rfl | ⟨e, he, rfl⟩
  · obtain ⟨L, clock, hr, _⟩ := h.map
    have h1 := hr.1
    rw [hc] at h1
    simp at h1
  · obtain ⟨nv, h4, _⟩ := h.nod e he
    have h5 : w.heap[e.2.1]? = some (.cells (ndA e.2.2 nv) ndT (0, 0)) := h4
    rw [hc] at h5
    simp only [Option.some.injEq, Obj.cells.injEq] at h5
    exact h5.2.1
/-- A block of another type than a node's stands behind a call. -/
theorem TreeR.blk' {w w' : World} {base b m : Nat} {room : Int} {t : Tr} (h : TreeR w base b m room t) (k : Kp (nodeFr m t) w w') {r : Nat} {A : Array Value} {T : TypeId} (hr : Blk w r A T) (hT : T ≠ ndT) : Blk w' r A T :=
  hr.kp k (fun hi => hT (h.types hi hr))
theorem TreeR.own' {w w' : World} {base b m : Nat} {room : Int} {t : Tr} (h : TreeR w base b m room t) (k : Kp (nodeFr m t) w w') {base' n : Nat} {v : Value} {xs : List Value} (ho : w.ownsRow base' strT 1 v n xs) : w'.ownsRow base' strT 1 v n xs := by
  refine ownsRow.kp ho k (fun i hi hs => ?_)
  obtain ⟨_, ⟨rfl, _⟩ | ⟨q, c, cur, rfl, _, hg, _⟩⟩ := ho
  · simp [Value.ownBlock] at hi
  · simp only [Value.ownBlock, Option.some.injEq] at hi
    subst hi
    exact absurd (h.types hs hg) (by decide)
theorem TS.step {w0 w w' : World} {b m : Nat} {room : Int} {K : Nat} {t : Tr} (h : TS w0 w b m room K t) (k : Kp (nodeFr m t) w w') : Ext w0 w' := tree_old (Nat.le_refl _) h.tr h.ex k
theorem tsNew (room : Int) (w0 w : World) (hx : Ext w0 w) (h1 : 1 ≤ room) (h2 : room ≤ 500) : Calls Tryz.prog 10 #[.int .i64 room] w fun e w' => ∃ b m, e = .returned (.tuple #[.pointer (some ⟨b, 0, none⟩), .int .i64 0]) ∧ TS w0 w' b m room 0 [] ∧ Ext w w' ∧ w.heap.size ≤ b ∧ w.heap.size ≤ m := by
  refine (treeNew_any room w h1 h2).mono ?_
  rintro e w' ⟨b, m, rfl, hT, hx'⟩
  exact ⟨b, m, rfl, ⟨hT.less hx.size, PtK.nil, hx.ext hx'⟩, hx', hT.low.1, hT.low.2.1⟩
/-- What a call on a tree leaves. -/
def TDone (w0 w : World) (b m : Nat) (room : Int) (K : Nat) (t : Tr) (R : Pt × Rp) (e : Ending) (w' : World) : Prop :=
  ∃ t' nv, e = .returned (resA R.2.err R.2.path R.2.data nv R.2.st) ∧ w'.ownsRow 0 strT 1 nv R.2.names.length (R.2.names.map encStr) ∧ TS w0 w' b m room (K + 1) t' ∧ pl t' = R.1 ∧ Kp (nodeFr m t) w w' ∧ Fresh w t t'
theorem tsDo {w0 w : World} {b m : Nat} {room : Int} {K : Nat} {t : Tr} (h : TS w0 w b m room K t) (hG : GT w0) (hK : K ≤ 100000) (o : OpV) (sess z : Int) (hp : o.path.size ≤ 1000000) (hd : o.data.size ≤ 1000000) :
    Calls Tryz.prog 12 #[.pointer (some ⟨b, 0, none⟩), .agg #[.int .i64 o.kind, .string o.path, .string o.data, .int .i64 o.ver, .int .i64 o.flags], .int .i64 sess, .int .i64 z] w fun e w' => TDone w0 w b m room K t (doP room (pl t) o sess z false) e w' := by
  refine (treeDo_any w0.heap.size b m room t o.kind o.path o.data o.ver o.flags sess z w0 w h.tr (h.pk.ok hK) hG (Nat.le_refl _) h.ex hp hd).mono ?_
  rintro e w' ⟨t', nv, he, ho, ht, hp', hk, hf⟩
  exact ⟨t', nv, he, ho, ⟨ht, by rw [hp']; exact h.pk.doP room _ sess z false, h.step hk⟩, hp', hk, hf⟩
theorem tsTry {w0 w : World} {b m : Nat} {room : Int} {K : Nat} {t : Tr} (h : TS w0 w b m room K t) (hG : GT w0) (hK : K ≤ 100000) (o : OpV) (sess z : Int) (hp : o.path.size ≤ 1000000) (hd : o.data.size ≤ 1000000) :
    Calls Tryz.prog 22 #[.pointer (some ⟨b, 0, none⟩), .agg #[.int .i64 o.kind, .string o.path, .string o.data, .int .i64 o.ver, .int .i64 o.flags], .int .i64 sess, .int .i64 z] w fun e w' => TDone w0 w b m room K t (doP room (pl t) o sess z true) e w' := by
  refine (treeTry_any w0.heap.size b m room t o.kind o.path o.data o.ver o.flags sess z w0 w h.tr (h.pk.ok hK) hG (Nat.le_refl _) h.ex hp hd).mono ?_
  rintro e w' ⟨t', nv, he, ho, ht, hp', hk, hf⟩
  exact ⟨t', nv, he, ho, ⟨ht, by rw [hp']; exact h.pk.doP room _ sess z true, h.step hk⟩, hp', hk, hf⟩
/-- What a call on a tree leaves, the answer told piece by piece. -/
def TDoneE (w0 w : World) (b m : Nat) (room : Int) (K : Nat) (t : Tr) (P' : Pt) (er : Int) (q da : ByteArray) (ns : List Bs) (k : Nat) (x : NodeV) (e : Ending) (w' : World) : Prop :=
  ∃ t' a c, e = .returned (.agg #[.int .i64 er, .string q, .string da, .slice a k c, .int .i64 x.made, .int .i64 x.chg, .int .i64 x.ver, .int .i64 x.kids, .int .i64 x.own, .int .i64 x.len, .int .i64 x.cnt]) ∧ w'.ownsRow 0 strT 1 (.slice a k c) k (ns.map encStr) ∧ TS w0 w' b m room (K + 1) t' ∧ pl t' = P' ∧ Kp (nodeFr m t) w w' ∧ Fresh w t t'
theorem tsDoE {w0 w : World} {b m : Nat} {room : Int} {K : Nat} {t : Tr} (h : TS w0 w b m room K t) (hG : GT w0) (hK : K ≤ 100000) (o : OpV) (sess z : Int) (hp : o.path.size ≤ 1000000) (hd : o.data.size ≤ 1000000) {P' : Pt} {er : Int} {q da : ByteArray} {ns : List Bs} {x : NodeV} (hR : doP room (pl t) o sess z false = (P', ⟨er, q, da, ns, x⟩)) (k : Nat) (hk : ns.length = k) :
    Calls Tryz.prog 12 #[.pointer (some ⟨b, 0, none⟩), .agg #[.int .i64 o.kind, .string o.path, .string o.data, .int .i64 o.ver, .int .i64 o.flags], .int .i64 sess, .int .i64 z] w fun e w' => TDoneE w0 w b m room K t P' er q da ns k x e w' := by
  subst hk
  refine (tsDo h hG hK o sess z hp hd).mono ?_
  rw [hR]
  rintro e w' ⟨t', nv, rfl, ho, h1, h2, h3, h4⟩
  obtain ⟨a, c, rfl⟩ := owns_slice ho
  exact ⟨t', a, c, rfl, ho, h1, h2, h3, h4⟩
/-- A node, as the plain tree tells it. -/
def nodeP (t : Pt) (p : ByteArray) : NodeV × Bool := match mget t p with
  | none => (ndZ, false)
  | some n => (n, true)
theorem node_pl (t : Tr) (p : ByteArray) : nodeT t p = nodeP (pl t) p := by
  unfold nodeT nodeP
  rw [pl_get]
  cases mget t p <;> rfl
theorem tsNode {w0 w : World} {b m : Nat} {room : Int} {K : Nat} {t : Tr} (h : TS w0 w b m room K t) (hK : K ≤ 100000) (p : ByteArray) :
    Calls Tryz.prog 14 #[.pointer (some ⟨b, 0, none⟩), .string p] w fun e w' => ∃ nv, e = .returned (.tuple #[.agg (ndA (nodeP (pl t) p).1 nv), .bool (nodeP (pl t) p).2]) ∧ w'.ownsRow w.heap.size strT 1 nv (nodeP (pl t) p).1.names.length ((nodeP (pl t) p).1.names.map encStr) ∧ TS w0 w' b m room K t ∧ Ext w w' := by
  rw [← node_pl]
  refine (treeNode_any w0.heap.size b m room t p w h.tr (h.pk.ok hK)).mono ?_
  rintro e w' ⟨nv, he, ho, hx⟩
  exact ⟨nv, he, ho, h.ext hx, hx⟩
theorem tsLen {w0 w : World} {b m : Nat} {room : Int} {K : Nat} {t : Tr} (h : TS w0 w b m room K t) :
    Calls Tryz.prog 19 #[.pointer (some ⟨b, 0, none⟩)] w fun e w' => e = .returned (.int .i64 (pl t).length) ∧ w = w' := by
  rw [pl_len]
  exact treeLen_any w0.heap.size b m room t w h.tr
end Go.Proofs.YtjapjpigpakejaaGreatDoor

/- Walks of package aviarylaw11: made, awake. -/
namespace Go.Proofs.YtjapjpigpakejaaGreatDoor
set_option maxRecDepth 100000
open Go.RowKit Av

abbrev opT : TypeId := 30
def opZA : Array Value := #[.int .i64 0, .string ⟨#[]⟩, .string ⟨#[]⟩, .int .i64 0, .int .i64 0]
def set5 (w : World) (r : Nat) (u0 u1 u2 u3 u4 : Value) : World := ((((w.setCell ⟨r, 0, none⟩ u0).setCell ⟨r, 1, none⟩ u1).setCell ⟨r, 2, none⟩ u2).setCell ⟨r, 3, none⟩ u3).setCell ⟨r, 4, none⟩ u4
theorem kp_set5 (w : World) (r : Nat) (u0 u1 u2 u3 u4 : Value) : Kp (fun i => i = r) w (set5 w r u0 u1 u2 u3 u4) := by
  have k : ∀ {W : World} (i : Nat) (u : Value), Kp (fun i => i = r) w W → Kp (fun i => i = r) w (W.setCell ⟨r, i, none⟩ u) := fun i u h => h.set1 r i u rfl
  exact k 4 u4 (k 3 u3 (k 2 u2 (k 1 u1 (k 0 u0 (Kp.refl _ _)))))
set_option maxHeartbeats 800000 in
theorem made_any (p : ByteArray) (f : Int) (w : World) : Calls Tryz.prog 39 #[.string p, .int .i64 f] w fun e w' => e = .returned (.agg #[.int .i64 1, .string p, .string ⟨#[]⟩, .int .i64 0, .int .i64 f]) ∧ Ext w w' := by
  obtain ⟨wB, hWB⟩ : ∃ wB, w.alloc (.cells opZA opT) = wB := ⟨_, rfl⟩
  have hxB : Ext w wB := by rw [← hWB]; exact (Kp.refl _ _).alloc _
  have hB : Blk wB w.heap.size opZA opT := by rw [← hWB]; exact heap_alloc_new w _
  have HXB := Lib.hid hxB
  have HWB := Lib.hid hWB
  unfold opZA at hB HWB
  have d0 := hB.cell 0 _ rfl
  have d1 := hB.cell 1 _ rfl
  have d2 := hB.cell 2 _ rfl
  have d3 := hB.cell 3 _ rfl
  have d4 := hB.cell 4 _ rfl
  have fd0 := hB.free 0
  have fd1 := hB.free 1
  have fd2 := hB.free 2
  have fd3 := hB.free 3
  have fd4 := hB.free 4
  clear hWB hxB hB
  go_enter Tryz.func39, Tryz.ntmps39
  go_upto_region 1 with (fail)
  rw [HWB.out]
  go_wp2_with (fail)
  go_light
  refine bodyPost_ret (v := .agg #[.int .i64 1, .string p, .string ⟨#[]⟩, .int .i64 0, .int .i64 f]) (by simp [results, Tryz.results39, go_sem, d0, d1, d2, d3, d4]) rfl ?_
  have k5 := kp_set5 wB w.heap.size (.int .i64 1) (.string p) (.string ⟨#[]⟩) (.int .i64 0) (.int .i64 f)
  exact ⟨rfl, HXB.out.next k5 (fun i hi e => by omega)⟩
def sA : ByteArray := ⟨#[47, 97]⟩
def sAB : ByteArray := ⟨#[47, 97, 47, 98]⟩
def oA : OpV := ⟨1, ⟨#[47, 97]⟩, ⟨#[]⟩, 0, 0⟩
def oAB : OpV := ⟨1, ⟨#[47, 97, 47, 98]⟩, ⟨#[]⟩, 0, 2⟩
/-- What the document tells of two Creates. -/
theorem awake_law : (doP 10 [] oA 1 7 false).2.err = 0 ∧ (doP 10 [] oA 1 7 false).2.path = ⟨#[47, 97]⟩ ∧ (doP 10 [] oA 1 7 false).2.st.made = 7 ∧
    (doP 10 (doP 10 [] oA 1 7 false).1 oAB 1 8 false).2.err = 0 ∧ (doP 10 (doP 10 [] oA 1 7 false).1 oAB 1 8 false).2.path = ⟨#[47, 97, 47, 98, 48, 48, 48, 48, 48, 48, 48, 48, 48, 48]⟩ ∧
    (nodeP (doP 10 (doP 10 [] oA 1 7 false).1 oAB 1 8 false).1 ⟨#[47, 97]⟩).2 = true ∧ (nodeP (doP 10 (doP 10 [] oA 1 7 false).1 oAB 1 8 false).1 ⟨#[47, 97]⟩).1.cnt = 1 ∧ (doP 10 (doP 10 [] oA 1 7 false).1 oAB 1 8 false).1.length = 2 := by decide +kernel
def resB (R : Rp) (a : Option Addr) (c : Nat) : Array Value := #[.int .i64 R.err, .string R.path, .string R.data, .slice a R.names.length c, .int .i64 R.st.made, .int .i64 R.st.chg, .int .i64 R.st.ver, .int .i64 R.st.kids, .int .i64 R.st.own, .int .i64 R.st.len, .int .i64 R.st.cnt]
set_option maxHeartbeats 3200000 in
theorem awake_any (w : World) (hG : GT w) : Calls Tryz.prog 9 #[] w fun e w' => e = .returned (.bool true) ∧ Ext w w' := by
  have HG := Lib.hid hG
  clear hG
  obtain ⟨R1, hR1⟩ : ∃ R, doP 10 [] oA 1 7 false = R := ⟨_, rfl⟩
  have hl := awake_law
  rw [hR1] at hl
  obtain ⟨R2, hR2⟩ : ∃ R, doP 10 R1.1 oAB 1 8 false = R := ⟨_, rfl⟩
  rw [hR2] at hl
  have HL := Lib.hid hl
  have HR1 := Lib.hid hR1
  have HR2 := Lib.hid hR2
  clear hl hR1 hR2
  go_enter Tryz.func9, Tryz.ntmps9
  go_wp2_with (fail)
  refine (tsNew 10 w w (Kp.refl _ _) (by decide) (by decide)).mono ?_
  rintro e w1 ⟨b, m, rfl, h1, hx1, _, _⟩
  have H1 := Lib.hid h1
  clear h1 hx1
  go_wp2_with (fail)
  refine (made_any _ _ _).mono ?_
  rintro e w2 ⟨rfl, hx2⟩
  have hD := tsDo (H1.out.ext hx2) HG.out (by decide) oA 1 7 (by decide) (by decide)
  rw [show pl [] = [] from rfl, HR1.out] at hD
  have HD := Lib.hid hD
  clear hx2 H1 hD
  go_wp2_with (fail)
  refine HD.out.mono ?_
  rintro e w3 ⟨t1, nv1, rfl, ho1, h3, hp1, hk3, hf3⟩
  obtain ⟨a1, c1, rfl⟩ := owns_slice ho1
  obtain ⟨wA, hWA⟩ : ∃ wA, w3.alloc (.cells #[.int .i64 R1.2.err, .string R1.2.path, .string R1.2.data, .slice a1 R1.2.names.length c1, .int .i64 R1.2.st.made, .int .i64 R1.2.st.chg, .int .i64 R1.2.st.ver, .int .i64 R1.2.st.kids, .int .i64 R1.2.st.own, .int .i64 R1.2.st.len, .int .i64 R1.2.st.cnt] rsuT) = wA := ⟨_, rfl⟩
  have hxA : Ext w3 wA := by rw [← hWA]; exact (Kp.refl _ _).alloc _
  have hA : Blk wA w3.heap.size (resB R1.2 a1 c1) rsuT := by rw [← hWA]; exact heap_alloc_new w3 _
  have HA := Lib.hid hA
  have H3 := Lib.hid (h3.ext hxA)
  have HP1 := Lib.hid hp1
  have HWA := Lib.hid hWA
  clear hWA hxA hA h3 hp1 hk3 hf3 ho1 HD
  unfold resA
  go_upto_region 5 with (fail)
  rw [HWA.out]
  go_wp2_with (fail)
  refine (made_any _ _ _).mono ?_
  rintro e w4 ⟨rfl, hx4⟩
  have hD := tsDo (H3.out.ext hx4) HG.out (by decide) oAB 1 8 (by decide) (by decide)
  rw [HP1.out, HR2.out] at hD
  have HD := Lib.hid hD
  have HA4 := Lib.hid (HA.out.kp hx4 (fun f => f))
  have H4 := Lib.hid (H3.out.ext hx4)
  clear hx4 hD
  go_wp2_with (fail)
  refine HD.out.mono ?_
  rintro e w5 ⟨t2, nv2, rfl, ho2, h5, hp2, hk5, hf5⟩
  obtain ⟨a2, c2, rfl⟩ := owns_slice ho2
  obtain ⟨wB, hWB⟩ : ∃ wB, w5.alloc (.cells #[.int .i64 R2.2.err, .string R2.2.path, .string R2.2.data, .slice a2 R2.2.names.length c2, .int .i64 R2.2.st.made, .int .i64 R2.2.st.chg, .int .i64 R2.2.st.ver, .int .i64 R2.2.st.kids, .int .i64 R2.2.st.own, .int .i64 R2.2.st.len, .int .i64 R2.2.st.cnt] rsuT) = wB := ⟨_, rfl⟩
  have hxB : Ext w5 wB := by rw [← hWB]; exact (Kp.refl _ _).alloc _
  have hB : Blk wB w5.heap.size (resB R2.2 a2 c2) rsuT := by rw [← hWB]; exact heap_alloc_new w5 _
  have HB := Lib.hid hB
  have HA5 := Lib.hid ((H4.out.tr.blk' hk5 HA4.out (by decide)).kp hxB (fun f => f))
  have H5 := Lib.hid (h5.ext hxB)
  have HP2 := Lib.hid hp2
  have HWB := Lib.hid hWB
  clear hWB hxB hB h5 hp2 hk5 hf5 ho2 HD
  unfold resA
  go_upto_region 6 with (fail)
  rw [HWB.out]
  have hN := tsNode H5.out (by decide) ⟨#[47, 97]⟩
  rw [HP2.out] at hN
  obtain ⟨nd, hnd⟩ : ∃ nd, nodeP R2.1 ⟨#[47, 97]⟩ = nd := ⟨_, rfl⟩
  have hl := HL.out
  rw [hnd] at hl hN
  have HN := Lib.hid hN
  clear hN hnd HL
  obtain ⟨e1, e2, e3, e4, e5, e6, e7, e8⟩ := hl
  rw [e6] at HN
  have E12 := Lib.hid (And.intro e1 (And.intro e2 (And.intro e3 (And.intro e4 (And.intro e5 (And.intro e7 e8))))))
  clear e1 e2 e3 e4 e5 e6 e7 e8
  go_wp2_with (fail)
  refine HN.out.mono ?_
  rintro e w7 ⟨nv7, rfl, ho7, h7, hx7⟩
  obtain ⟨a7, c7, rfl⟩ := owns_slice ho7
  obtain ⟨wC, hWC⟩ : ∃ wC, w7.alloc (.cells #[.int .i64 nd.1.made, .int .i64 nd.1.chg, .int .i64 nd.1.ver, .int .i64 nd.1.kids, .int .i64 nd.1.own, .int .i64 nd.1.len, .int .i64 nd.1.cnt, .string nd.1.data, .int .i64 nd.1.next, .slice a7 nd.1.names.length c7] ndT) = wC := ⟨_, rfl⟩
  have hxC : Ext w7 wC := by rw [← hWC]; exact (Kp.refl _ _).alloc _
  have hC : Blk wC w7.heap.size (ndA nd.1 (.slice a7 nd.1.names.length c7)) ndT := by rw [← hWC]; exact heap_alloc_new w7 _
  have hA9 := (HA5.out.kp hx7 (fun f => f)).kp hxC (fun f => f)
  have hB9 := (HB.out.kp hx7 (fun f => f)).kp hxC (fun f => f)
  have H7 := Lib.hid (h7.ext hxC)
  have hL := tsLen H7.out
  obtain ⟨e1, e2, e3, e4, e5, e7, e8⟩ := E12.out
  rw [HP2.out, e8] at hL
  have r0 := hA9.cell 0 (.int .i64 R1.2.err) rfl
  have r1 := hA9.cell 1 (.string R1.2.path) rfl
  have r4 := hA9.cell 4 (.int .i64 R1.2.st.made) rfl
  have s0 := hB9.cell 0 (.int .i64 R2.2.err) rfl
  have s1 := hB9.cell 1 (.string R2.2.path) rfl
  have n6 := hC.cell 6 (.int .i64 nd.1.cnt) rfl
  rw [e1] at r0
  rw [e2] at r1
  rw [e3] at r4
  rw [e4] at s0
  rw [e5] at s1
  rw [e7] at n6
  have HLN := Lib.hid hL
  have HWC := Lib.hid hWC
  clear hWC hxC hC hA9 hB9 h7 hx7 ho7 hL e1 e2 e3 e4 e5 e7 e8 E12 HN
  unfold ndA
  go_upto_region 7 with (fail)
  rw [HWC.out]
  go_wp2_with (fail)
  refine HLN.out.mono ?_
  rintro e w9 ⟨rfl, rfl⟩
  go_wp2_with (fail)
  go_ret
  exact ⟨rfl, H7.out.ex⟩
end Go.Proofs.YtjapjpigpakejaaGreatDoor
