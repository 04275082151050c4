/- Texts put together: AvWTreeI, AvTreeS, AvOwnMap, AvWTreeJ, AvOwnL. -/
import Derived.Test.YtdagikbdpeblhaaGreatDoorAvHWTreeC
import Derived.Test.YtdagikbdpeblhaaGreatDoorAvHWTreeH
import Derived.Test.YtdagikbdpeblhaaGreatDoorAvG13
import Derived.Test.YtdagikbdpeblhaaGreatDoorAvHMap
import Derived.Maps.Own
import Derived.Sort.KeysCollected
import Derived.Test.YtdagikbdpeblhaaGreatDoorShelfJ
import Derived.Test.YtdagikbdpeblhaaGreatDoorAvHAllN

/- Walks of package tree: Node, Len. -/
namespace Go.Proofs.YtdagikbdpeblhaaGreatDoor
set_option maxRecDepth 100000
open Go.RowKit Av

def nodeT (t : Tr) (p : ByteArray) : NodeV × Bool := match mget t p with
  | none => (ndZ, false)
  | some e => (e.2, true)
def NodePost (w : World) (x : NodeV × Bool) (e : Ending) (w' : World) : Prop :=
  ∃ nv, e = .returned (.tuple #[.agg (ndA x.1 nv), .bool x.2]) ∧ w'.ownsRow w.heap.size strT 1 nv x.1.names.length (x.1.names.map encStr) ∧ Ext w w'
def ndZA : Array Value := #[.int .i64 0, .int .i64 0, .int .i64 0, .int .i64 0, .int .i64 0, .int .i64 0, .int .i64 0, .string ⟨#[]⟩, .int .i64 0, .slice none 0 0]
def set10 (w : World) (r : Nat) (u0 u1 u2 u3 u4 u5 u6 u7 u8 u9 : Value) : World := (((((((((w.setCell ⟨r, 0, none⟩ u0).setCell ⟨r, 1, none⟩ u1).setCell ⟨r, 2, none⟩ u2).setCell ⟨r, 3, none⟩ u3).setCell ⟨r, 4, none⟩ u4).setCell ⟨r, 5, none⟩ u5).setCell ⟨r, 6, none⟩ u6).setCell ⟨r, 7, none⟩ u7).setCell ⟨r, 8, none⟩ u8).setCell ⟨r, 9, none⟩ u9
theorem kp_set10 (w : World) (r : Nat) (u0 u1 u2 u3 u4 u5 u6 u7 u8 u9 : Value) : Kp (fun i => i = r) w (set10 w r u0 u1 u2 u3 u4 u5 u6 u7 u8 u9) := by
  have k : ∀ {W : World} (i : Nat) (u : Value), Kp (fun i => i = r) w W → Kp (fun i => i = r) w (W.setCell ⟨r, i, none⟩ u) := fun i u h => h.set1 r i u rfl
  exact k 9 u9 (k 8 u8 (k 7 u7 (k 6 u6 (k 5 u5 (k 4 u4 (k 3 u3 (k 2 u2 (k 1 u1 (k 0 u0 (Kp.refl _ _))))))))))
set_option maxHeartbeats 3200000 in
theorem treeNode_any (base b m : Nat) (room : Int) (t : Tr) (p : ByteArray) (w : World) (hT : TreeR w base b m room t) (hok : TrOk t) :
    Calls Tryz.prog 46 #[.pointer (some ⟨b, 0, none⟩), .string p] w fun e w' => NodePost w (nodeT t p) e w' := by
  obtain ⟨wB, hWB⟩ : ∃ wB, w.alloc (.cells ndZA ndT) = wB := ⟨_, rfl⟩
  have hxB : Ext w wB := by rw [← hWB]; exact (Kp.refl _ _).alloc _
  have hB : Blk wB w.heap.size ndZA ndT := by rw [← hWB]; exact heap_alloc_new w _
  have HB := Lib.hid hB
  have HXB := Lib.hid hxB
  have hTB := hT.ext hxB
  have HTB := Lib.hid hTB
  unfold ndZA at hWB
  have HWB := Lib.hid hWB
  have HOK := Lib.hid hok
  have hlk := tree_look hTB p
  have c1 := hTB.blk.cell 1 _ rfl
  clear hWB hxB hB hTB hok hT
  cases hg : mget t p with
  | none =>
    have HE : Hid (nodeT t p = (ndZ, false)) := by show _ = _; unfold nodeT; rw [hg]
    rw [hg] at hlk
    simp only [Option.map_none, Option.getD_none] at hlk
    clear hg
    generalize nodeT t p = R at HE ⊢
    have hbb := HB.out
    unfold ndZA at hbb
    have d0 := hbb.cell 0 _ rfl
    have d1 := hbb.cell 1 _ rfl
    have d2 := hbb.cell 2 _ rfl
    have d3 := hbb.cell 3 _ rfl
    have d4 := hbb.cell 4 _ rfl
    have d5 := hbb.cell 5 _ rfl
    have d6 := hbb.cell 6 _ rfl
    have d7 := hbb.cell 7 _ rfl
    have d8 := hbb.cell 8 _ rfl
    have d9 := hbb.cell 9 _ rfl
    have fd0 := hbb.free 0
    have fd1 := hbb.free 1
    have fd2 := hbb.free 2
    have fd3 := hbb.free 3
    have fd4 := hbb.free 4
    have fd5 := hbb.free 5
    have fd6 := hbb.free 6
    have fd7 := hbb.free 7
    have fd8 := hbb.free 8
    have fd9 := hbb.free 9
    clear hbb
    go_enter Tryz.func46, Tryz.ntmps46
    go_upto_region 1 with (fail)
    rw [HWB.out]
    go_wp2_with (fail)
    go_light
    refine bodyPost_ret (v := .tuple #[.agg (ndA ndZ (.slice none 0 0)), .bool false]) (by simp [results, Tryz.results46, go_sem, ndA, ndZ, d0, d1, d2, d3, d4, d5, d6, d7, d8, d9]) rfl ?_
    rw [HE.out]
    have k10 := kp_set10 wB w.heap.size (.int .i64 0) (.int .i64 0) (.int .i64 0) (.int .i64 0) (.int .i64 0) (.int .i64 0) (.int .i64 0) (.string ⟨#[]⟩) (.int .i64 0) (.slice none 0 0)
    exact ⟨_, rfl, ⟨rfl, .inl ⟨rfl, rfl⟩⟩, HXB.out.next k10 (fun i hi e => by omega)⟩
  | some gn =>
    obtain ⟨g, n⟩ := gn
    have HE : Hid (nodeT t p = (n, true)) := by show _ = _; unfold nodeT; rw [hg]
    rw [hg] at hlk
    simp only [Option.map_some, Option.getD_some] at hlk
    have hmem := mget_mem hg
    have HNO := Lib.hid (HOK.out _ hmem)
    obtain ⟨nv, hnb, hno⟩ := HTB.out.nod _ hmem
    obtain ⟨na, nc, rfl⟩ := owns_slice hno
    have HCP := Lib.hid (statCopied_any n (.slice na n.names.length nc) wB (names_own hno) HNO.out.few)
    unfold ndA at HCP
    clear hg hmem hno
    generalize nodeT t p = R at HE ⊢
    unfold ndA at hnb
    have j0 := hnb.cell 0 _ rfl
    have j1 := hnb.cell 1 _ rfl
    have j2 := hnb.cell 2 _ rfl
    have j3 := hnb.cell 3 _ rfl
    have j4 := hnb.cell 4 _ rfl
    have j5 := hnb.cell 5 _ rfl
    have j6 := hnb.cell 6 _ rfl
    have j7 := hnb.cell 7 _ rfl
    have j8 := hnb.cell 8 _ rfl
    have j9 := hnb.cell 9 _ rfl
    clear hnb
    go_enter Tryz.func46, Tryz.ntmps46
    go_upto_region 1 with (fail)
    rw [HWB.out]
    go_wp2_with (fail)
    refine HCP.out.mono ?_
    rintro e1 w5 ⟨nv5, rfl, ho5, hx5⟩
    obtain ⟨na5, nc5, rfl⟩ := owns_slice ho5
    have hbb := HB.out.kp hx5 (fun f => f)
    have HO5 := Lib.hid ho5
    have HX5 := Lib.hid (HXB.out.ext hx5)
    unfold ndZA at hbb
    have d0 := hbb.cell 0 _ rfl
    have d1 := hbb.cell 1 _ rfl
    have d2 := hbb.cell 2 _ rfl
    have d3 := hbb.cell 3 _ rfl
    have d4 := hbb.cell 4 _ rfl
    have d5 := hbb.cell 5 _ rfl
    have d6 := hbb.cell 6 _ rfl
    have d7 := hbb.cell 7 _ rfl
    have d8 := hbb.cell 8 _ rfl
    have d9 := hbb.cell 9 _ rfl
    have fd0 := hbb.free 0
    have fd1 := hbb.free 1
    have fd2 := hbb.free 2
    have fd3 := hbb.free 3
    have fd4 := hbb.free 4
    have fd5 := hbb.free 5
    have fd6 := hbb.free 6
    have fd7 := hbb.free 7
    have fd8 := hbb.free 8
    have fd9 := hbb.free 9
    clear hbb hx5 ho5 HCP j0 j1 j2 j3 j4 j5 j6 j7 j8 j9 c1 hlk
    go_wp2_with (fail)
    go_light
    refine bodyPost_ret (v := .tuple #[.agg (ndA n (.slice na5 n.names.length nc5)), .bool true]) (by simp [results, Tryz.results46, go_sem, ndA, d0, d1, d2, d3, d4, d5, d6, d7, d8, d9]) rfl ?_
    rw [HE.out]
    have k10 := kp_set10 w5 w.heap.size (.int .i64 n.made) (.int .i64 n.chg) (.int .i64 n.ver) (.int .i64 n.kids) (.int .i64 n.own) (.int .i64 n.len) (.int .i64 n.cnt) (.string n.data) (.int .i64 n.next) (.slice na5 n.names.length nc5)
    exact ⟨_, rfl, own_less (ownsRow.kp HO5.out k10 (fun i hi e => by have h1 := (own_in HO5.out hi).1; have h2 := HB.out.lt; omega)) HXB.out.size, HX5.out.next k10 (fun i hi e => by omega)⟩
set_option maxHeartbeats 400000 in
theorem treeLen_any (base b m : Nat) (room : Int) (t : Tr) (w : World) (hT : TreeR w base b m room t) : Calls Tryz.prog 16 #[.pointer (some ⟨b, 0, none⟩)] w fun e w' => e = .returned (.int .i64 t.length) ∧ w = w' := by
  have c1 := hT.blk.cell 1 _ rfl
  have hl := MapK.len tNodes hT.map
  rw [show (ptrs t).length = t.length from List.length_map _] at hl
  clear hT
  go_enter Tryz.func16, Tryz.ntmps16
  go_wp2_with (fail)
  go_ret
  exact ⟨rfl, rfl⟩
end Go.Proofs.YtdagikbdpeblhaaGreatDoor

/- A tree that a law has made: contracts in one shape. -/
namespace Go.Proofs.YtdagikbdpeblhaaGreatDoor
set_option maxRecDepth 100000
open Go.RowKit Av

theorem TreeR.less {w : World} {base base' b m : Nat} {room : Int} {t : Tr} (h : TreeR w base b m room t) (hb : base' ≤ base) : TreeR w base' b m room t :=
  ⟨⟨Nat.le_trans hb h.low.1, Nat.le_trans hb h.low.2.1, fun e he => Nat.le_trans hb (h.low.2.2 e he)⟩, h.blk, h.map, h.nod, h.inj⟩
/-- A tree made since w0: its nodes' blocks, what it holds. -/
structure TS (w0 w : World) (b m : Nat) (room : Int) (K : Nat) (t : Tr) : Prop where
  tr : TreeR w w0.heap.size b m room t
  pk : PtK K (pl t)
  ex : Ext w0 w
theorem TS.ext {w0 w w' : World} {b m : Nat} {room : Int} {K : Nat} {t : Tr} (h : TS w0 w b m room K t) (k : Ext w w') : TS w0 w' b m room K t := ⟨h.tr.ext k, h.pk, h.ex.ext k⟩
/-- What a tree's calls may write. -/
def TOwn (b m : Nat) (t : Tr) (i : Nat) : Prop := i = b ∨ nodeFr m t i
/-- A tree stands where none of its blocks is written. -/
theorem TreeR.apart {w w' : World} {base b m : Nat} {room : Int} {t : Tr} (h : TreeR w base b m room t) {S : Nat → Prop} (k : Kp S w w') (hs : ∀ i, TOwn b m t i → ¬ S i) (hy : ∀ i, S i → i < w.heap.size → ∀ cur f, w.heap[i]? ≠ some (.cells cur strT f)) : TreeR w' base b m room t := by
  refine ⟨h.low, h.blk.kp k (hs _ (.inl rfl)), h.map.kp k (hs _ (.inr (.inl rfl))), fun e he => ?_, h.inj⟩
  refine (h.nod e he).kp k (hs _ (.inr (.inr ⟨e, he, rfl⟩))) (fun i cur f hi hc => ?_)
  exact hy i hi (Array.getElem?_eq_some_iff.1 hc).1 cur f hc
/-- Blocks of a tree are no rows of strings, nor any block of another type than its own. -/
theorem TreeR.types {w : World} {base b m : Nat} {room : Int} {t : Tr} (h : TreeR w base b m room t) {i : Nat} (hi : nodeFr m t i) {cur : Array Value} {T : TypeId} {f : Nat × Nat} (hc : w.heap[i]? = some (.cells cur T f)) : T = ndT := by
  rcases hi with rfl | ⟨e, he, rfl⟩
  · obtain ⟨L, clock, hr, _⟩ := h.map
    have h1 := hr.1
    rw [hc] at h1
    simp at h1
  · obtain ⟨nv, h4, _⟩ := h.nod e he
    have h5 : w.heap[e.2.1]? = some (.cells (ndA e.2.2 nv) ndT (0, 0)) := h4
    rw [hc] at h5
    simp only [Option.some.injEq, Obj.cells.injEq] at h5
    exact h5.2.1
/-- A block of another type than a node's stands behind a call. -/
theorem TreeR.blk' {w w' : World} {base b m : Nat} {room : Int} {t : Tr} (h : TreeR w base b m room t) (k : Kp (nodeFr m t) w w') {r : Nat} {A : Array Value} {T : TypeId} (hr : Blk w r A T) (hT : T ≠ ndT) : Blk w' r A T :=
  hr.kp k (fun hi => hT (h.types hi hr))
theorem TS.step {w0 w w' : World} {b m : Nat} {room : Int} {K : Nat} {t : Tr} (h : TS w0 w b m room K t) (k : Kp (nodeFr m t) w w') : Ext w0 w' := tree_old (Nat.le_refl _) h.tr h.ex k
theorem tsNew (room : Int) (w0 w : World) (hx : Ext w0 w) (h1 : 1 ≤ room) (h2 : room ≤ 500) : Calls Tryz.prog 6 #[.int .i64 room] w fun e w' => ∃ b m, e = .returned (.tuple #[.pointer (some ⟨b, 0, none⟩), .int .i64 0]) ∧ TS w0 w' b m room 0 [] ∧ Ext w w' ∧ w.heap.size ≤ b ∧ w.heap.size ≤ m := by
  refine (treeNew_any room w h1 h2).mono ?_
  rintro e w' ⟨b, m, rfl, hT, hx'⟩
  exact ⟨b, m, rfl, ⟨hT.less hx.size, PtK.nil, hx.ext hx'⟩, hx', hT.low.1, hT.low.2.1⟩
/-- What a call on a tree leaves. -/
def TDone (w0 w : World) (b m : Nat) (room : Int) (K : Nat) (t : Tr) (R : Pt × Rp) (e : Ending) (w' : World) : Prop :=
  ∃ t' nv, e = .returned (resA R.2.err R.2.path R.2.data nv R.2.st) ∧ w'.ownsRow 0 strT 1 nv R.2.names.length (R.2.names.map encStr) ∧ TS w0 w' b m room (K + 1) t' ∧ pl t' = R.1 ∧ Kp (nodeFr m t) w w' ∧ Fresh w t t'
theorem tsDo {w0 w : World} {b m : Nat} {room : Int} {K : Nat} {t : Tr} (h : TS w0 w b m room K t) (hG : GT w0) (hK : K ≤ 100000) (o : OpV) (sess z : Int) (hp : o.path.size ≤ 1000000) (hd : o.data.size ≤ 1000000) :
    Calls Tryz.prog 9 #[.pointer (some ⟨b, 0, none⟩), .agg #[.int .i64 o.kind, .string o.path, .string o.data, .int .i64 o.ver, .int .i64 o.flags], .int .i64 sess, .int .i64 z] w fun e w' => TDone w0 w b m room K t (doP room (pl t) o sess z false) e w' := by
  refine (treeDo_any w0.heap.size b m room t o.kind o.path o.data o.ver o.flags sess z w0 w h.tr (h.pk.ok hK) hG (Nat.le_refl _) h.ex hp hd).mono ?_
  rintro e w' ⟨t', nv, he, ho, ht, hp', hk, hf⟩
  exact ⟨t', nv, he, ho, ⟨ht, by rw [hp']; exact h.pk.doP room _ sess z false, h.step hk⟩, hp', hk, hf⟩
theorem tsTry {w0 w : World} {b m : Nat} {room : Int} {K : Nat} {t : Tr} (h : TS w0 w b m room K t) (hG : GT w0) (hK : K ≤ 100000) (o : OpV) (sess z : Int) (hp : o.path.size ≤ 1000000) (hd : o.data.size ≤ 1000000) :
    Calls Tryz.prog 11 #[.pointer (some ⟨b, 0, none⟩), .agg #[.int .i64 o.kind, .string o.path, .string o.data, .int .i64 o.ver, .int .i64 o.flags], .int .i64 sess, .int .i64 z] w fun e w' => TDone w0 w b m room K t (doP room (pl t) o sess z true) e w' := by
  refine (treeTry_any w0.heap.size b m room t o.kind o.path o.data o.ver o.flags sess z w0 w h.tr (h.pk.ok hK) hG (Nat.le_refl _) h.ex hp hd).mono ?_
  rintro e w' ⟨t', nv, he, ho, ht, hp', hk, hf⟩
  exact ⟨t', nv, he, ho, ⟨ht, by rw [hp']; exact h.pk.doP room _ sess z true, h.step hk⟩, hp', hk, hf⟩
/-- A node, as the plain tree tells it. -/
def nodeP (t : Pt) (p : ByteArray) : NodeV × Bool := match mget t p with
  | none => (ndZ, false)
  | some n => (n, true)
theorem node_pl (t : Tr) (p : ByteArray) : nodeT t p = nodeP (pl t) p := by
  unfold nodeT nodeP
  rw [pl_get]
  cases mget t p <;> rfl
theorem tsNode {w0 w : World} {b m : Nat} {room : Int} {K : Nat} {t : Tr} (h : TS w0 w b m room K t) (hK : K ≤ 100000) (p : ByteArray) :
    Calls Tryz.prog 46 #[.pointer (some ⟨b, 0, none⟩), .string p] w fun e w' => ∃ nv, e = .returned (.tuple #[.agg (ndA (nodeP (pl t) p).1 nv), .bool (nodeP (pl t) p).2]) ∧ w'.ownsRow w.heap.size strT 1 nv (nodeP (pl t) p).1.names.length ((nodeP (pl t) p).1.names.map encStr) ∧ TS w0 w' b m room K t ∧ Ext w w' := by
  rw [← node_pl]
  refine (treeNode_any w0.heap.size b m room t p w h.tr (h.pk.ok hK)).mono ?_
  rintro e w' ⟨nv, he, ho, hx⟩
  exact ⟨nv, he, ho, h.ext hx, hx⟩
theorem tsLen {w0 w : World} {b m : Nat} {room : Int} {K : Nat} {t : Tr} (h : TS w0 w b m room K t) :
    Calls Tryz.prog 16 #[.pointer (some ⟨b, 0, none⟩)] w fun e w' => e = .returned (.int .i64 (pl t).length) ∧ w = w' := by
  rw [pl_len]
  exact treeLen_any w0.heap.size b m room t w h.tr
end Go.Proofs.YtdagikbdpeblhaaGreatDoor

/- A map at string keys, as the shelf's contracts on maps.Keys ask for it. -/
namespace Av
set_option maxRecDepth 100000
open Go Go.RowKit Go.Maps Go.Sort
open Go.WideElems (Fit rd rg rd_mk)
open Go.WideMaps (keyOf_string_mk)
open Go.WideShapes (sorted_perm)

/-- How an element reads: it does not matter. -/
def noVal (_ : Value) : Option (DataW Unit × List MemPlace) := some (.nil, [])
theorem map_owned {P : Program} {K : TypeId} (hK : P.underlying K = some .string) {w : World} {m : Nat} {es : List (ByteArray × Value)} (h : MapK Value.string w m es) (hl : es.length ≤ maxLen) (hs : ∀ e ∈ es, e.1.size ≤ maxLen) :
    ∃ D0 : DataW Unit, w.ownsMap P K noVal m es.length D0 ∧ (strKeys D0).Perm (es.map (·.1.data.toList)) ∧ Maps.size D0 = es.length := by
  obtain ⟨L, clock, ⟨hb, h2, h3, h4⟩, rfl⟩ := h
  have hsz : ∀ t ∈ L, t.1.size ≤ maxLen := fun t ht => hs (t.1, t.2.1) (List.mem_map.2 ⟨t, ht, rfl⟩)
  have hrd : ∀ t ∈ L, rd (H := Unit) P K noVal (ent Value.string t) = some (.string t.1.data.toList, .nil) := fun t ht => by
    have := rd_mk (R := noVal) (yv := (.nil, [])) (born := t.2.2) (keyOf_string_mk hK (hsz t ht)) (show noVal t.2.1 = _ from rfl)
    exact this
  have hrg : (L.map (ent Value.string)).map (rg P K noVal) = L.map fun t => (Lit.string t.1.data.toList, DataW.nil) := by
    rw [List.map_map]
    refine List.map_congr_left fun t ht => ?_
    simp only [Function.comp, rg, hrd t ht, Option.getD_some]
  have hF : Fit P K noVal (L.map (ent Value.string)).toArray clock := by
    refine ⟨by simpa using hl, ⟨?_, ?_, ?_⟩, ?_⟩
    · intro x hx
      obtain ⟨t, ht, rfl⟩ := List.mem_map.1 (List.mem_toArray.1 (Array.mem_toList_iff.1 hx))
      exact h4 t ht
    · simpa [List.map_map, Function.comp_def, ent] using h3
    · have : ((L.map (·.1)).map Value.string).Nodup := List.pairwise_map.2 (h2.imp fun hab hval => hab (by simpa using hval))
      simpa [List.map_map, Function.comp_def, ent] using this
    · intro x hx
      obtain ⟨t, ht, rfl⟩ := List.mem_map.1 (List.mem_toArray.1 (Array.mem_toList_iff.1 hx))
      exact ⟨_, hrd t ht⟩
  refine ⟨_, ⟨_, _, hb, hF, by simp, rfl⟩, ?_, ?_⟩
  · show (List.map _ _).Perm _
    refine ((sorted_perm _).map _).trans ?_
    rw [show (L.map (ent Value.string)).toArray.toList = L.map (ent Value.string) from rfl, hrg, List.map_map, List.map_map]
    exact List.Perm.refl _
  · show List.length _ = _
    rw [(sorted_perm _).length_eq]
    simp
end Av

/- Walks of package tree: Paths. -/
namespace Go.Proofs.YtdagikbdpeblhaaGreatDoor
set_option maxRecDepth 100000
open Go.RowKit Av Go.Maps Go.Sort

/-- All paths, rising. -/
def pathsP (t : Pt) : List Bs := (t.map (·.1.data.toList)).mergeSort fun x y => decide (x ≤ y)
def PathsPost (w : World) (l : List Bs) (e : Ending) (w' : World) : Prop := ∃ v, e = .returned v ∧ w'.ownsRow w.heap.size strT 1 v l.length (l.map encStr) ∧ Ext w w'
theorem treePaths_any (base b m : Nat) (room : Int) (t : Tr) (w : World) (hT : TreeR w base b m room t) (hs : ∀ e ∈ t, e.1.size ≤ maxLen) (hn : t.length ≤ 1000000) :
    Calls Tryz.prog 63 #[.pointer (some ⟨b, 0, none⟩)] w fun e w' => PathsPost w (pathsP (pl t)) e w' := by
  have hpl : (ptrs t).length = t.length := List.length_map _
  obtain ⟨D0, hown, hperm, hsize⟩ := map_owned (P := Tryz.prog) (K := strT) Tryz.underlying9 hT.map (by unfold maxLen; omega) (fun e he => by
    obtain ⟨x, hx, rfl⟩ := List.mem_map.1 he
    exact hs x hx)
  have c1 := hT.blk.cell 1 _ rfl
  have HP : Hid ((strKeys D0).Perm ((pl t).map (·.1.data.toList))) := by
    show List.Perm _ _
    refine hperm.trans ?_
    unfold ptrs pl
    rw [List.map_map, List.map_map]
    exact List.Perm.refl _
  have hmax : Maps.size D0 ≤ maxLen := by unfold maxLen; omega
  have hbytes : Maps.size D0 * 16 ≤ 140737488355328 := by omega
  clear hT hs hperm
  refine (callsIn_wide (n := 6)).1 ?_
  have hfK : Fence.wide.fn 112 := trivial
  have hfS : Fence.wide.fn 111 := trivial
  refine callsIn_of_wp Tryz.func63 rfl trivial ?_ rfl
  simp only [Tryz.ntmps63, List.size_toArray, List.length_cons, List.length_nil, Nat.reduceAdd, Nat.reduceSub, Array.replicate_succ, Array.replicate_zero, List.push_toArray, List.append_toArray, List.nil_append, List.cons_append]
  gi_wp2_with (first
    | (gi_at_call 112; refine (Tryz.maps_Keys_112 _ _).mono ?_; rintro e w' ⟨rfl, rfl⟩)
    | (gi_at_call 111; refine (Tryz.slices_Sorted_keys_111_112 m t.length D0 noVal w (hpl ▸ hown) hmax hbytes).mono ?_; rintro e w' ⟨v, ss, rfl, hS, hrow, hnil, hb⟩))
  go_ret
  have e1 : (ss.mergeSort fun x y => decide (x ≤ y)) = pathsP (pl t) := mergeSort_of_perm (hS.trans HP.out)
  have e2 : ss.length = (pathsP (pl t)).length := by rw [← e1]; simp
  rw [e1, e2] at hrow
  exact ⟨v, rfl, own_less hrow (by simp), ((Kp.refl _ w).alloc _).ext (Kp.of_below hb)⟩
theorem pathsP_rising {t : Pt} (h : (t.map (·.1)).Nodup) : Rising (pathsP t) := by
  have tr : ∀ a b c : Bs, decide (a ≤ b) = true → decide (b ≤ c) = true → decide (a ≤ c) = true := fun a b c h1 h2 => by simp only [decide_eq_true_eq] at *; exact List.le_trans h1 h2
  have tt : ∀ a b : Bs, (decide (a ≤ b) || decide (b ≤ a)) = true := fun a b => by simp only [Bool.or_eq_true, decide_eq_true_eq]; exact List.le_total a b
  have hp := List.pairwise_mergeSort tr tt (t.map (·.1.data.toList))
  have hk : (t.map (·.1.data.toList)).Nodup := by
    have : (t.map (·.1.data.toList)) = (t.map (·.1)).map (·.data.toList) := by rw [List.map_map]; rfl
    rw [this]
    exact List.pairwise_map.2 (h.imp fun hab e => hab (bytes_eq e))
  have hn : (pathsP t).Nodup := (List.mergeSort_perm _ _).nodup_iff.2 hk
  exact (hp.and hn).imp fun ⟨h1, h2⟩ => lt_of_not (fun h3 => h2 (List.le_antisymm (by simpa using h1) (List.le_of_lt h3))) (fun e => h2 e.symm)
theorem pathsP_mem {t : Pt} {x : Bs} : x ∈ pathsP t ↔ ∃ e ∈ t, e.1.data.toList = x := by
  unfold pathsP
  rw [(List.mergeSort_perm _ _).mem_iff, List.mem_map]
theorem pathsP_len (t : Pt) : (pathsP t).length = t.length := by simp [pathsP]
end Go.Proofs.YtdagikbdpeblhaaGreatDoor

/- A tree as the reference's list: entries that rise by their paths. Plain. -/
namespace Go.Proofs.YtdagikbdpeblhaaGreatDoor
set_option maxRecDepth 100000
open Go.RowKit Av

abbrev RL := List (ByteArray × NodeV)
def keysR (L : RL) : List Bs := L.map (·.1.data.toList)
def entOf (t : Pt) (x : Bs) : ByteArray × NodeV := (⟨x.toArray⟩, (nodeP t ⟨x.toArray⟩).1)
def ownL (t : Pt) : RL := (pathsP t).map (entOf t)
theorem mget_append (A B : RL) (q : ByteArray) : mget (A ++ B) q = (mget A q).or (mget B q) := by
  induction A with
  | nil => rfl
  | cons a r ih =>
    show (if q = a.1 then some a.2 else mget (r ++ B) q) = (if q = a.1 then some a.2 else mget r q).or (mget B q)
    split
    · rfl
    · exact ih
theorem mget_cons (a : ByteArray × NodeV) (B : RL) (q : ByteArray) : mget (a :: B) q = if q = a.1 then some a.2 else mget B q := rfl
structure SortedAs (L : RL) (t : Pt) : Prop where
  rise : Rising (keysR L)
  get : ∀ p, mget L p = mget t p
theorem rise_nodup {L : RL} (h : Rising (keysR L)) : (L.map (·.1)).Nodup := by
  unfold keysR at h
  have h1 := List.pairwise_map.1 h
  exact List.pairwise_map.2 (h1.imp fun {a b} hab e => by rw [e] at hab; exact List.lt_irrefl _ hab)
theorem keys_mem {L : RL} {x : Bs} : x ∈ keysR L ↔ mget L ⟨x.toArray⟩ ≠ none := by
  rw [ne_eq, mget_none, Classical.not_not]
  unfold keysR
  rw [List.mem_map, List.mem_map]
  constructor
  · rintro ⟨e, he, rfl⟩
    exact ⟨e, he, by rw [bytes_self]⟩
  · rintro ⟨e, he, hx⟩
    exact ⟨e, he, by rw [hx]⟩
theorem paths_mem {t : Pt} {x : Bs} : x ∈ pathsP t ↔ mget t ⟨x.toArray⟩ ≠ none := by
  rw [pathsP_mem, ne_eq, mget_none, Classical.not_not, List.mem_map]
  constructor
  · rintro ⟨e, he, rfl⟩
    exact ⟨e, he, by rw [bytes_self]⟩
  · rintro ⟨e, he, hx⟩
    exact ⟨e, he, by rw [hx]⟩
theorem self_own : ∀ {L : RL}, (L.map (·.1)).Nodup → ∀ t : Pt, (∀ e ∈ L, mget t e.1 = some e.2) → L = (keysR L).map (entOf t)
  | [], _, _, _ => rfl
  | a :: L, hn, t, h => by
    have h1 := List.pairwise_cons.1 hn
    have ha := h a (by simp)
    show a :: L = entOf t a.1.data.toList :: (keysR L).map (entOf t)
    rw [← self_own h1.2 t (fun e he => h e (by simp [he]))]
    congr 1
    unfold entOf nodeP
    rw [bytes_self, ha]
theorem SortedAs.own {L : RL} {t : Pt} (h : SortedAs L t) (ht : (t.map (·.1)).Nodup) : L = ownL t := by
  have hn := rise_nodup h.rise
  have h1 := self_own hn t (fun e he => by rw [← h.get]; exact mget_of_mem hn (k := e.1) he)
  have h2 : keysR L = pathsP t := rising_ext h.rise (pathsP_rising ht) (fun x => by rw [keys_mem, paths_mem, h.get])
  rw [h1, h2]; rfl
theorem SortedAs.congr {L : RL} {t u : Pt} (h : SortedAs L t) (e : ∀ p, mget t p = mget u p) : SortedAs L u := ⟨h.rise, fun p => (h.get p).trans (e p)⟩
theorem own_len (t : Pt) : (ownL t).length = t.length := by unfold ownL; rw [List.length_map, pathsP_len]
/-! What acts do to the list. -/
def putR (L : RL) (k : Nat) (e : ByteArray × NodeV) : RL := L.take k ++ e :: L.drop k
def delR (L : RL) (k : Nat) : RL := L.take k ++ L.drop (k + 1)
def atR (L : RL) (p : ByteArray) : Nat := lessN p.data.toList (keysR L)
theorem split_at {L : RL} {k : Nat} {e : ByteArray × NodeV} (h : L[k]? = some e) : L = L.take k ++ e :: L.drop (k + 1) := by
  obtain ⟨hk, rfl⟩ := List.getElem?_eq_some_iff.1 h
  conv => lhs; rw [← List.take_append_drop k L, List.drop_eq_getElem_cons hk]
theorem at_some {L : RL} (hr : Rising (keysR L)) {p : ByteArray} {n : NodeV} (h : mget L p = some n) : L[atR L p]? = some (p, n) := by
  have hm := mget_mem h
  obtain ⟨j, hj, he⟩ := List.getElem_of_mem hm
  have hj2 : j < (keysR L).length := by unfold keysR; simpa using hj
  have hkj : (keysR L)[j] = p.data.toList := by
    have h3 : (L.map fun x => x.1.data.toList)[j]'(by simpa using hj) = p.data.toList := by rw [List.getElem_map, he]
    exact h3
  have hl : atR L p = j := lessN_at _ _ j hj2 (fun z hz => by
    obtain ⟨i, hi, rfl⟩ := List.getElem_of_mem hz
    rw [List.getElem_take, ← hkj]
    have hij : i < j := by simp at hi; omega
    exact List.pairwise_iff_getElem.1 hr i j (by omega) hj2 hij) (by rw [hkj]; exact List.lt_irrefl _)
  rw [hl, List.getElem?_eq_getElem hj, he]
theorem keys_split (A B : RL) (e : ByteArray × NodeV) : keysR (A ++ e :: B) = keysR A ++ e.1.data.toList :: keysR B := by simp [keysR]
theorem SortedAs.put {L : RL} {t : Pt} (h : SortedAs L t) {p : ByteArray} (n : NodeV) (hp : mget t p = none) : SortedAs (putR L (atR L p) (p, n)) (mset t p n) := by
  have hnone : mget L p = none := by rw [h.get, hp]
  have hsplit := List.take_append_drop (atR L p) L
  refine ⟨?_, fun q => ?_⟩
  · have hk : keysR (putR L (atR L p) (p, n)) = insN (keysR L) (lessN p.data.toList (keysR L)) p.data.toList := by
      unfold putR insN atR
      rw [keys_split]
      unfold keysR
      rw [List.map_take, List.map_drop]
    rw [hk]
    refine insN_rising h.rise fun e => ?_
    have hm := List.mem_of_getElem? e
    rw [keys_mem, bytes_self] at hm
    exact hm hnone
  · have hq : mget L q = (mget (L.take (atR L p)) q).or (mget (L.drop (atR L p)) q) := by rw [← mget_append, hsplit]
    unfold putR
    rw [mget_append, mget_cons, mget_mset, ← h.get]
    by_cases e : q = p
    · subst e
      rw [if_pos rfl, if_pos rfl]
      rw [hnone] at hq
      cases hA : mget (L.take (atR L q)) q with
      | none => rfl
      | some x => rw [hA] at hq; cases hq
    · rw [if_neg e, if_neg e, hq]
theorem nodup_mid {A B : RL} {e : ByteArray × NodeV} (h : ((A ++ e :: B).map (·.1)).Nodup) : mget A e.1 = none ∧ mget B e.1 = none := by
  rw [List.map_append, List.map_cons] at h
  obtain ⟨_, h2, h3⟩ := List.nodup_append.1 h
  exact ⟨mget_none.2 fun hm => h3 _ hm _ (by simp) rfl, mget_none.2 (List.nodup_cons.1 h2).1⟩
theorem SortedAs.set {L : RL} {t : Pt} (h : SortedAs L t) {p : ByteArray} {n0 : NodeV} (n : NodeV) (hp : mget t p = some n0) : SortedAs (L.set (atR L p) (p, n)) (mset t p n) := by
  have hat := at_some h.rise ((h.get p).trans hp)
  have hsp := split_at hat
  obtain ⟨hk, _⟩ := List.getElem?_eq_some_iff.1 hat
  have hset : L.set (atR L p) (p, n) = L.take (atR L p) ++ (p, n) :: L.drop (atR L p + 1) := List.set_eq_take_append_cons_drop.trans (if_pos hk)
  have hnd := rise_nodup h.rise
  rw [hsp] at hnd
  have hmid := nodup_mid hnd
  refine ⟨?_, fun q => ?_⟩
  · have e : keysR (L.set (atR L p) (p, n)) = keysR L := by
      rw [hset]
      conv => rhs; rw [hsp]
      rw [keys_split, keys_split]
    rw [e]; exact h.rise
  · rw [hset, mget_append, mget_cons, mget_mset, ← h.get]
    conv => rhs; rw [hsp, mget_append, mget_cons]
    by_cases e : q = p
    · subst e
      rw [if_pos rfl, if_pos rfl, hmid.1]; rfl
    · simp only
      rw [if_neg e, if_neg e, if_neg e]
theorem SortedAs.del {L : RL} {t : Pt} (h : SortedAs L t) {p : ByteArray} {n0 : NodeV} (hp : mget t p = some n0) : SortedAs (delR L (atR L p)) (mdel t p) := by
  have hat := at_some h.rise ((h.get p).trans hp)
  have hsp := split_at hat
  have hnd := rise_nodup h.rise
  rw [hsp] at hnd
  have hmid := nodup_mid hnd
  refine ⟨?_, fun q => ?_⟩
  · have hr := h.rise
    rw [hsp, keys_split] at hr
    have h1 := List.pairwise_append.1 hr
    unfold delR keysR
    rw [List.map_append]
    exact List.pairwise_append.2 ⟨h1.1, (List.pairwise_cons.1 h1.2.1).2, fun a ha b hb => h1.2.2 a ha b (by unfold keysR; simp only [List.mem_cons]; exact .inr hb)⟩
  · unfold delR
    rw [mget_append, mget_mdel, ← h.get]
    conv => rhs; rw [hsp, mget_append, mget_cons]
    by_cases e : q = p
    · subst e
      rw [if_pos rfl, hmid.1, hmid.2]; rfl
    · simp only
      rw [if_neg e, if_neg e]
theorem doP_try (room : Int) (t : Pt) (o : OpV) (sess z : Int) : (doP room t o sess z true).1 = t := by
  unfold doP
  split
  · rfl
  · split
    · rfl
    · split
      · unfold createP
        simp only
        split <;> rfl
      · split
        · unfold changeP
          split
          · rfl
          · split
            · rfl
            · split
              · split <;> rfl
              · split <;> rfl
        · rfl
end Go.Proofs.YtdagikbdpeblhaaGreatDoor
