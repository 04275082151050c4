/- A tree that a law has made: contracts in one shape. -/
import Derived.Test.YtkpcmbgnaenbhaaGreatDoorAvHWTreeH
import Derived.Test.YtkpcmbgnaenbhaaGreatDoorAvHWTreeI
import Derived.Test.YtkpcmbgnaenbhaaGreatDoorAvHTreeQ
namespace Go.Proofs.YtkpcmbgnaenbhaaGreatDoor
set_option maxRecDepth 100000
open Go.RowKit Av

theorem TreeR.less {w : World} {base base' b m : Nat} {room : Int} {t : Tr} (h : TreeR w base b m room t) (hb : base' ≤ base) : TreeR w base' b m room t :=
  ⟨⟨Nat.le_trans hb h.low.1, Nat.le_trans hb h.low.2.1, fun e he => Nat.le_trans hb (h.low.2.2 e he)⟩, h.blk, h.map, h.nod, h.inj⟩
/-- A tree made since w0: its nodes' blocks, what it holds. -/
structure TS (w0 w : World) (b m : Nat) (room : Int) (K : Nat) (t : Tr) : Prop where
  tr : TreeR w w0.heap.size b m room t
  pk : PtK K (pl t)
  ex : Ext w0 w
theorem TS.ext {w0 w w' : World} {b m : Nat} {room : Int} {K : Nat} {t : Tr} (h : TS w0 w b m room K t) (k : Ext w w') : TS w0 w' b m room K t := ⟨h.tr.ext k, h.pk, h.ex.ext k⟩
/-- What a tree's calls may write. -/
def TOwn (b m : Nat) (t : Tr) (i : Nat) : Prop := i = b ∨ nodeFr m t i
/-- A tree stands where none of its blocks is written. -/
theorem TreeR.apart {w w' : World} {base b m : Nat} {room : Int} {t : Tr} (h : TreeR w base b m room t) {S : Nat → Prop} (k : Kp S w w') (hs : ∀ i, TOwn b m t i → ¬ S i) (hy : ∀ i, S i → i < w.heap.size → ∀ cur f, w.heap[i]? ≠ some (.cells cur strT f)) : TreeR w' base b m room t := by
  refine ⟨h.low, h.blk.kp k (hs _ (.inl rfl)), h.map.kp k (hs _ (.inr (.inl rfl))), fun e he => ?_, h.inj⟩
  refine (h.nod e he).kp k (hs _ (.inr (.inr ⟨e, he, rfl⟩))) (fun i cur f hi hc => ?_)
  exact hy i hi (Array.getElem?_eq_some_iff.1 hc).1 cur f hc
/-- Blocks of a tree are no rows of strings, nor any block of another type than its own. -/
theorem TreeR.types {w : World} {base b m : Nat} {room : Int} {t : Tr} (h : TreeR w base b m room t) {i : Nat} (hi : nodeFr m t i) {cur : Array Value} {T : TypeId} {f : Nat × Nat} (hc : w.heap[i]? = some (.cells cur T f)) : T = ndT := by
  rcases hi with rfl | ⟨e, he, rfl⟩
  · obtain ⟨L, clock, hr, _⟩ := h.map
    have h1 := hr.1
    rw [hc] at h1
    simp at h1
  · obtain ⟨nv, h4, _⟩ := h.nod e he
    have h5 : w.heap[e.2.1]? = some (.cells (ndA e.2.2 nv) ndT (0, 0)) := h4
    rw [hc] at h5
    simp only [Option.some.injEq, Obj.cells.injEq] at h5
    exact h5.2.1
/-- A block of another type than a node's stands behind a call. -/
theorem TreeR.blk' {w w' : World} {base b m : Nat} {room : Int} {t : Tr} (h : TreeR w base b m room t) (k : Kp (nodeFr m t) w w') {r : Nat} {A : Array Value} {T : TypeId} (hr : Blk w r A T) (hT : T ≠ ndT) : Blk w' r A T :=
  hr.kp k (fun hi => hT (h.types hi hr))
theorem TreeR.own' {w w' : World} {base b m : Nat} {room : Int} {t : Tr} (h : TreeR w base b m room t) (k : Kp (nodeFr m t) w w') {base' n : Nat} {v : Value} {xs : List Value} (ho : w.ownsRow base' strT 1 v n xs) : w'.ownsRow base' strT 1 v n xs := by
  refine ownsRow.kp ho k (fun i hi hs => ?_)
  obtain ⟨_, ⟨rfl, _⟩ | ⟨q, c, cur, rfl, _, hg, _⟩⟩ := ho
  · simp [Value.ownBlock] at hi
  · simp only [Value.ownBlock, Option.some.injEq] at hi
    subst hi
    exact absurd (h.types hs hg) (by decide)
theorem TS.step {w0 w w' : World} {b m : Nat} {room : Int} {K : Nat} {t : Tr} (h : TS w0 w b m room K t) (k : Kp (nodeFr m t) w w') : Ext w0 w' := tree_old (Nat.le_refl _) h.tr h.ex k
theorem tsNew (room : Int) (w0 w : World) (hx : Ext w0 w) (h1 : 1 ≤ room) (h2 : room ≤ 500) : Calls Tryz.prog 10 #[.int .i64 room] w fun e w' => ∃ b m, e = .returned (.tuple #[.pointer (some ⟨b, 0, none⟩), .int .i64 0]) ∧ TS w0 w' b m room 0 [] ∧ Ext w w' ∧ w.heap.size ≤ b ∧ w.heap.size ≤ m := by
  refine (treeNew_any room w h1 h2).mono ?_
  rintro e w' ⟨b, m, rfl, hT, hx'⟩
  exact ⟨b, m, rfl, ⟨hT.less hx.size, PtK.nil, hx.ext hx'⟩, hx', hT.low.1, hT.low.2.1⟩
/-- What a call on a tree leaves. -/
def TDone (w0 w : World) (b m : Nat) (room : Int) (K : Nat) (t : Tr) (R : Pt × Rp) (e : Ending) (w' : World) : Prop :=
  ∃ t' nv, e = .returned (resA R.2.err R.2.path R.2.data nv R.2.st) ∧ w'.ownsRow 0 strT 1 nv R.2.names.length (R.2.names.map encStr) ∧ TS w0 w' b m room (K + 1) t' ∧ pl t' = R.1 ∧ Kp (nodeFr m t) w w' ∧ Fresh w t t'
theorem tsDo {w0 w : World} {b m : Nat} {room : Int} {K : Nat} {t : Tr} (h : TS w0 w b m room K t) (hG : GT w0) (hK : K ≤ 100000) (o : OpV) (sess z : Int) (hp : o.path.size ≤ 1000000) (hd : o.data.size ≤ 1000000) :
    Calls Tryz.prog 12 #[.pointer (some ⟨b, 0, none⟩), .agg #[.int .i64 o.kind, .string o.path, .string o.data, .int .i64 o.ver, .int .i64 o.flags], .int .i64 sess, .int .i64 z] w fun e w' => TDone w0 w b m room K t (doP room (pl t) o sess z false) e w' := by
  refine (treeDo_any w0.heap.size b m room t o.kind o.path o.data o.ver o.flags sess z w0 w h.tr (h.pk.ok hK) hG (Nat.le_refl _) h.ex hp hd).mono ?_
  rintro e w' ⟨t', nv, he, ho, ht, hp', hk, hf⟩
  exact ⟨t', nv, he, ho, ⟨ht, by rw [hp']; exact h.pk.doP room _ sess z false, h.step hk⟩, hp', hk, hf⟩
theorem tsTry {w0 w : World} {b m : Nat} {room : Int} {K : Nat} {t : Tr} (h : TS w0 w b m room K t) (hG : GT w0) (hK : K ≤ 100000) (o : OpV) (sess z : Int) (hp : o.path.size ≤ 1000000) (hd : o.data.size ≤ 1000000) :
    Calls Tryz.prog 22 #[.pointer (some ⟨b, 0, none⟩), .agg #[.int .i64 o.kind, .string o.path, .string o.data, .int .i64 o.ver, .int .i64 o.flags], .int .i64 sess, .int .i64 z] w fun e w' => TDone w0 w b m room K t (doP room (pl t) o sess z true) e w' := by
  refine (treeTry_any w0.heap.size b m room t o.kind o.path o.data o.ver o.flags sess z w0 w h.tr (h.pk.ok hK) hG (Nat.le_refl _) h.ex hp hd).mono ?_
  rintro e w' ⟨t', nv, he, ho, ht, hp', hk, hf⟩
  exact ⟨t', nv, he, ho, ⟨ht, by rw [hp']; exact h.pk.doP room _ sess z true, h.step hk⟩, hp', hk, hf⟩
/-- What a call on a tree leaves, the answer told piece by piece. -/
def TDoneE (w0 w : World) (b m : Nat) (room : Int) (K : Nat) (t : Tr) (P' : Pt) (er : Int) (q da : ByteArray) (ns : List Bs) (k : Nat) (x : NodeV) (e : Ending) (w' : World) : Prop :=
  ∃ t' a c, e = .returned (.agg #[.int .i64 er, .string q, .string da, .slice a k c, .int .i64 x.made, .int .i64 x.chg, .int .i64 x.ver, .int .i64 x.kids, .int .i64 x.own, .int .i64 x.len, .int .i64 x.cnt]) ∧ w'.ownsRow 0 strT 1 (.slice a k c) k (ns.map encStr) ∧ TS w0 w' b m room (K + 1) t' ∧ pl t' = P' ∧ Kp (nodeFr m t) w w' ∧ Fresh w t t'
theorem tsDoE {w0 w : World} {b m : Nat} {room : Int} {K : Nat} {t : Tr} (h : TS w0 w b m room K t) (hG : GT w0) (hK : K ≤ 100000) (o : OpV) (sess z : Int) (hp : o.path.size ≤ 1000000) (hd : o.data.size ≤ 1000000) {P' : Pt} {er : Int} {q da : ByteArray} {ns : List Bs} {x : NodeV} (hR : doP room (pl t) o sess z false = (P', ⟨er, q, da, ns, x⟩)) (k : Nat) (hk : ns.length = k) :
    Calls Tryz.prog 12 #[.pointer (some ⟨b, 0, none⟩), .agg #[.int .i64 o.kind, .string o.path, .string o.data, .int .i64 o.ver, .int .i64 o.flags], .int .i64 sess, .int .i64 z] w fun e w' => TDoneE w0 w b m room K t P' er q da ns k x e w' := by
  subst hk
  refine (tsDo h hG hK o sess z hp hd).mono ?_
  rw [hR]
  rintro e w' ⟨t', nv, rfl, ho, h1, h2, h3, h4⟩
  obtain ⟨a, c, rfl⟩ := owns_slice ho
  exact ⟨t', a, c, rfl, ho, h1, h2, h3, h4⟩
/-- A node, as the plain tree tells it. -/
def nodeP (t : Pt) (p : ByteArray) : NodeV × Bool := match mget t p with
  | none => (ndZ, false)
  | some n => (n, true)
theorem node_pl (t : Tr) (p : ByteArray) : nodeT t p = nodeP (pl t) p := by
  unfold nodeT nodeP
  rw [pl_get]
  cases mget t p <;> rfl
theorem tsNode {w0 w : World} {b m : Nat} {room : Int} {K : Nat} {t : Tr} (h : TS w0 w b m room K t) (hK : K ≤ 100000) (p : ByteArray) :
    Calls Tryz.prog 14 #[.pointer (some ⟨b, 0, none⟩), .string p] w fun e w' => ∃ nv, e = .returned (.tuple #[.agg (ndA (nodeP (pl t) p).1 nv), .bool (nodeP (pl t) p).2]) ∧ w'.ownsRow w.heap.size strT 1 nv (nodeP (pl t) p).1.names.length ((nodeP (pl t) p).1.names.map encStr) ∧ TS w0 w' b m room K t ∧ Ext w w' := by
  rw [← node_pl]
  refine (treeNode_any w0.heap.size b m room t p w h.tr (h.pk.ok hK)).mono ?_
  rintro e w' ⟨nv, he, ho, hx⟩
  exact ⟨nv, he, ho, h.ext hx, hx⟩
theorem tsLen {w0 w : World} {b m : Nat} {room : Int} {K : Nat} {t : Tr} (h : TS w0 w b m room K t) :
    Calls Tryz.prog 19 #[.pointer (some ⟨b, 0, none⟩)] w fun e w' => e = .returned (.int .i64 (pl t).length) ∧ w = w' := by
  rw [pl_len]
  exact treeLen_any w0.heap.size b m room t w h.tr
end Go.Proofs.YtkpcmbgnaenbhaaGreatDoor
