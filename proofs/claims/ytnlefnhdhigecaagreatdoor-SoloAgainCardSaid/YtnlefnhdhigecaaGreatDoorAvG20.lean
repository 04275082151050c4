/- Texts put together: AvWHeavy, AvActW, AvWTreeN, AvWTreeM, AvRefT, AvWSame, AvCut, AvDagApp. -/
import Derived.Test.YtnlefnhdhigecaaGreatDoorAvG19
import Derived.Test.YtnlefnhdhigecaaGreatDoorAvG8
import Derived.Test.YtnlefnhdhigecaaGreatDoorAvG17
import Derived.Test.YtnlefnhdhigecaaGreatDoorAvG12
import Derived.Test.YtnlefnhdhigecaaGreatDoorAvG11
import Derived.Test.YtnlefnhdhigecaaGreatDoorAvG15
import Derived.Laws.StructEq
import Derived.Test.YtnlefnhdhigecaaGreatDoorAvG2
import Derived.Test.YtnlefnhdhigecaaGreatDoorAvHDag

/- Walks of package aviarylaw11: heavy, has. -/
namespace Go.Proofs.YtnlefnhdhigecaaGreatDoor
set_option maxRecDepth 100000
open Go.RowKit Av

structure Light (a : ActN) : Prop where
  path : a.o.path.size ≤ 300
  data : a.o.data.size ≤ 1100
  few : a.n.names.length ≤ 20
  ndata : a.n.data.size ≤ 1100
  short : ∀ s ∈ a.n.names, s.length ≤ 60
end Go.Proofs.YtnlefnhdhigecaaGreatDoor

/- Acts on a law's tree: what they leave. -/
namespace Go.Proofs.YtnlefnhdhigecaaGreatDoor
set_option maxRecDepth 100000
open Go.RowKit Av

theorem ActsN.open {w : World} {v : Value} {xs : List ActN} (h : ActsN w v xs) : ∃ a c, v = .slice a xs.length c ∧ xs.length ≤ maxLen ∧ (0 < xs.length → ∃ b off, a = some ⟨b, off, none⟩ ∧ b < w.heap.size ∧ ∀ k (hk : k < xs.length) i u, i < 18 → xs[k].cells[i]? = some u → w.cell? ⟨b, off + k * 18 + i, none⟩ = some u) := by
  obtain ⟨a, c, rfl, _, hm, hop⟩ := Sl.rows (f := ActN.cells) (K := 18) (fun _ => rfl) h.1
  refine ⟨a, c, rfl, hm, fun h0 => ?_⟩
  obtain ⟨b, off, rfl, hb, hc⟩ := hop h0
  exact ⟨b, off, rfl, hb, hc⟩
/-- What is known of a tree that acts have made. -/
structure GoodT (room : Int) (S : List Int) (P : Pt) : Prop where
  snd : SoundP room P
  free : PtN P
  parts : AllN PartsOk P
  owned : AllN (OwnedBy S) P
theorem GoodT.nil {room : Int} (h : 0 ≤ room) (S : List Int) : GoodT room S [] := ⟨SoundP.nil h, fun e he => by (cases he), AllN.nil _, AllN.nil _⟩
theorem GoodT.step {room : Int} {S : List Int} {P : Pt} (h : GoodT room S P) {K : Nat} (hk : PtK K P) (o : OpV) {sess : Int} (z : Int) (hs : 1 ≤ sess → sess ∈ S) : GoodT room S (doP room P o sess z false).1 :=
  ⟨h.snd.doP hk h.free _ _ _, h.free.doP _ _ _ _ _, h.parts.doP (partsOk_inv o sess z) _ _, h.owned.doP (ownedBy_inv o z hs) _ _⟩
end Go.Proofs.YtnlefnhdhigecaaGreatDoor

/- Walks of package tree: Copy. -/
namespace Go.Proofs.YtnlefnhdhigecaaGreatDoor
set_option maxRecDepth 100000
open Go.RowKit Av

theorem iter_obj {w : World} {r m : Nat} {es left : List (ByteArray × Value)} (h : Iter Value.string w r m es left) : (∀ cur T f, w.heap[r]? ≠ some (Obj.cells cur T f)) ∧ ∀ e c, w.heap[r]? ≠ some (Obj.map e c) := by
  obtain ⟨L, c, s, sn, _, _, h2, _⟩ := h
  exact ⟨fun cur T f e => by rw [h2] at e; simp at e, fun q c e => by rw [h2] at e; simp at e⟩
/-- The iterator moves on: a tree stands. -/
theorem TreeR.iter {w w' : World} {base b m : Nat} {room : Int} {t : Tr} (h : TreeR w base b m room t) {r m0 : Nat} {es left : List (ByteArray × Value)} (hit : Iter Value.string w r m0 es left) (k : Kp (fun i => i = r) w w') : TreeR w' base b m room t := by
  obtain ⟨h1, h2⟩ := iter_obj hit
  refine h.apart k (fun i hi (hs : i = r) => ?_) (fun i (hs : i = r) _ cur f => by rw [hs]; exact h1 _ _ _)
  rw [← hs] at h1 h2
  rcases hi with rfl | rfl | ⟨e, he, rfl⟩
  · exact h1 _ _ _ (show w.heap[i]? = some (Obj.cells #[.int .i64 room, .map (some m)] trT (0, 0)) from h.blk)
  · obtain ⟨L, clock, hr, _⟩ := h.map
    exact h2 _ _ hr.1
  · obtain ⟨nv, h4, _⟩ := h.nod e he
    exact h1 _ _ _ (show w.heap[e.2.1]? = some (Obj.cells (ndA e.2.2 nv) ndT (0, 0)) from h4)
def CopyRel (w : World) (t : Tr) (room : Int) (m b2 m2 r : Nat) (wr : World) : Prop :=
  ∃ left t2, Iter Value.string wr r m (ptrs t) left ∧ TreeR wr w.heap.size b2 m2 room t2 ∧ (∀ p, mget (pl t2) p = if p ∈ left.map (·.1) then none else mget (pl t) p) ∧ Ext w wr ∧ w.heap.size + 2 ≤ r
def CopyPost (w : World) (room : Int) (t : Tr) (e : Ending) (w' : World) : Prop :=
  ∃ b' m' t', e = .returned (.pointer (some ⟨b', 0, none⟩)) ∧ TreeR w' w.heap.size b' m' room t' ∧ (∀ p, mget (pl t') p = mget (pl t) p) ∧ Ext w w'
set_option maxHeartbeats 3200000 in
theorem treeCopy_any (base b m : Nat) (room : Int) (t : Tr) (w : World) (hT : TreeR w base b m room t) (hok : TrOk t) :
    Calls Tryz.prog 88 #[.pointer (some ⟨b, 0, none⟩)] w fun e w' => CopyPost w room t e w' := by
  have hmm := @run_makeMap Tryz.prog
  obtain ⟨wB, hWB⟩ : ∃ wB, (w.alloc (.map #[] 0)).alloc (.cells #[.int .i64 room, .map (some w.heap.size)] trT) = wB := ⟨_, rfl⟩
  have hxB : Ext w wB := by rw [← hWB]; exact ((Kp.refl _ _).alloc _).alloc _
  have h2 : TreeR wB w.heap.size (w.heap.size + 1) w.heap.size room [] := by
    refine ⟨⟨by omega, by omega, fun e he => by (cases he)⟩, ?_, ?_, fun e he => by (cases he), fun e he => by (cases he)⟩
    · rw [← hWB]
      have := heap_alloc_new (w.alloc (.map #[] 0)) (.cells #[.int .i64 room, .map (some w.heap.size)] trT)
      rw [World.size_alloc] at this
      exact this
    · rw [← hWB]
      exact (MapK.new w).kp ((Kp.refl (fun _ => False) _).alloc _) (fun f => f)
  have hTB := hT.ext hxB
  have c0 := hT.blk.cell 0 _ rfl
  have c1 := hTB.blk.cell 1 _ rfl
  obtain ⟨w3, hrun, hit, hx3, hsz⟩ := MapK.range tNodes hTB.map
  have HIT := Lib.hid hit
  have H2 := Lib.hid (h2.ext hx3)
  have HX3 := Lib.hid (hxB.ext hx3)
  have HT := Lib.hid hT
  have HOK := Lib.hid hok
  have hrs : w.heap.size + 2 ≤ wB.heap.size := by rw [← hWB]; simp
  generalize hr : wB.heap.size = r at hrun HIT hrs
  have HRS := Lib.hid hrs
  have HWB := Lib.hid hWB
  clear hWB hxB h2 hTB hT hok hit hx3 hsz hr hrs
  go_enter Tryz.func88, Tryz.ntmps88
  go_upto_region 2 with (fail)
  rw [HWB.out]
  go_wp2_with (fail)
  go_loopw [] (fun wr => CopyRel w t room m (w.heap.size + 1) w.heap.size r wr) (fun wr => itLeft wr r m)
  case atStart =>
    refine ⟨_, [], HIT.out, H2.out, fun p => ?_, HX3.out, HRS.out⟩
    show none = _
    split
    · rfl
    · rename_i h
      symm
      rw [pl_get]
      have : mget t p = none := mget_none.2 (fun hm => h (by unfold ptrs; rw [List.map_map]; exact hm))
      rw [this]; rfl
  case round =>
    obtain ⟨left, t2, hit, ht2, hget, hxr, hwr⟩ := hrel
    rcases hit.next (P := Tryz.prog) with ⟨rfl, hnx⟩ | ⟨q, v, w', hmem, hnx, hit', hkp, hsz, hen⟩
    · have HR2 := Lib.hid ht2
      have HG := Lib.hid hget
      have HXR := Lib.hid hxr
      clear hit ht2 hget hxr
      go_wp2_with (fail)
      go_ret
      exact ⟨_, _, t2, rfl, HR2.out, fun p => by rw [HG.out]; simp, HXR.out⟩
    · obtain ⟨e0, he0, hev⟩ := List.mem_map.1 (hit.sub.subset hmem)
      obtain ⟨q', g, n⟩ := e0
      simp only [Prod.mk.injEq] at hev
      obtain ⟨rfl, rfl⟩ := hev
      have hxq : Ext w w' := hxr.next hkp (fun i hi e => by omega)
      have ht2' : TreeR w' w.heap.size (w.heap.size + 1) w.heap.size room t2 := ht2.iter hit hkp
      obtain ⟨nv, hnb, hno⟩ : NdAt w' g n := (HT.out.ext hxq).nod _ he0
      obtain ⟨na, nc, rfl⟩ := owns_slice hno
      have HCP := Lib.hid (statCopied_any n (.slice na n.names.length nc) w' (names_own hno) (HOK.out _ he0).few)
      have HGET : Hid (∀ p, (if p = q' then some n else mget (pl t2) p) = if p ∈ (mdel left q').map (·.1) then none else mget (pl t) p) := by
        intro p
        have hmd : p ∈ (mdel left q').map (·.1) ↔ p ∈ left.map (·.1) ∧ p ≠ q' := by
          unfold mdel
          simp only [List.mem_map, List.mem_filter, decide_eq_true_eq]
          constructor
          · rintro ⟨e, ⟨he, hne⟩, rfl⟩
            exact ⟨⟨e, he, rfl⟩, fun h => hne h.symm⟩
          · rintro ⟨⟨e, he, rfl⟩, hne⟩
            exact ⟨e, ⟨he, fun h => hne h.symm⟩, rfl⟩
        by_cases hp : p = q'
        · rw [if_pos hp, if_neg (fun h => (hmd.1 h).2 hp), hp, pl_get, mget_of_mem HT.out.keys he0]; rfl
        · rw [if_neg hp, hget]
          by_cases hl : p ∈ left.map (·.1)
          · rw [if_pos hl, if_pos (hmd.2 ⟨hl, hp⟩)]
          · rw [if_neg hl, if_neg (fun h => hl (hmd.1 h).1)]
      have HML : Hid (∀ {W : World}, Iter Value.string W r m (ptrs t) (mdel left q') → itLeft W r m < itLeft wr r m) := fun h => by rw [hit.left, h.left]; exact mdel_length hmem
      have HT2 := Lib.hid ht2'
      have HIT2 := Lib.hid hit'
      have HXQ := Lib.hid hxq
      have HWR : Hid (w.heap.size + 2 ≤ r ∧ m < w.heap.size) := ⟨hwr, HT.out.map.lt⟩
      unfold ndA at hnb HCP
      have j0 := hnb.cell 0 _ rfl
      have j1 := hnb.cell 1 _ rfl
      have j2 := hnb.cell 2 _ rfl
      have j3 := hnb.cell 3 _ rfl
      have j4 := hnb.cell 4 _ rfl
      have j5 := hnb.cell 5 _ rfl
      have j6 := hnb.cell 6 _ rfl
      have j7 := hnb.cell 7 _ rfl
      have j8 := hnb.cell 8 _ rfl
      have j9 := hnb.cell 9 _ rfl
      clear hno hnb hxq ht2' hget hit hit' hmem he0 hxr ht2 hkp hsz hwr
      go_wp2_with (fail)
      refine HCP.out.mono ?_
      rintro e1 w5 ⟨nv5, rfl, ho5, hx5⟩
      obtain ⟨na5, nc5, rfl⟩ := owns_slice ho5
      obtain ⟨wN, hWN⟩ : ∃ wN, w5.alloc (.cells #[.int .i64 n.made, .int .i64 n.chg, .int .i64 n.ver, .int .i64 n.kids, .int .i64 n.own, .int .i64 n.len, .int .i64 n.cnt, .string n.data, .int .i64 n.next, .slice na5 n.names.length nc5] ndT) = wN := ⟨_, rfl⟩
      have hxN : Ext w5 wN := by rw [← hWN]; exact (Kp.refl _ _).alloc _
      have hN : Blk wN w5.heap.size (ndA n (.slice na5 n.names.length nc5)) ndT := by rw [← hWN]; exact heap_alloc_new w5 _
      have hnd : NdAt wN w5.heap.size n := ⟨_, hN, owns_zero (ownsRow.ext ho5 hxN)⟩
      have hxx := hx5.ext hxN
      have hTN := HT2.out.ext hxx
      obtain ⟨wM, u1, u2, u3, u4⟩ := MapK.update kStr tNodes hTN.map q' (.pointer (some ⟨w5.heap.size, 0, none⟩))
      have hfr : ∀ e ∈ t2, e.2.1 ≠ w5.heap.size := fun e he e2 => by
        have h1 := (HT2.out.nod e he).lt
        have h2 := hx5.size
        omega
      have HTM := Lib.hid (hTN.lay (by have h1 := HXQ.out.size; have h2 := hx5.size; omega) hnd hfr u2 u3)
      have HITM := Lib.hid ((HIT2.out.ext hxx).kp u3 (by have := HWR.out; omega) (by have := HWR.out; omega))
      have HXM : Hid (Ext w wM) := (HXQ.out.ext hxx).next u3 (fun i hi e => by omega)
      have c1 := hTN.blk.cell 1 _ rfl
      have HWN := Lib.hid hWN
      clear hWN hxN hN hnd hxx hTN u2 u3 u4 hfr hx5 ho5 HCP j0 j1 j2 j3 j4 j5 j6 j7 j8 j9 hnx hen
      go_upto_region 6 with (fail)
      rw [HWN.out]
      go_wp2_with (fail)
      go_light
      exact ⟨⟨_, _, HITM.out, HTM.out, fun p => by rw [pl_set, mget_mset]; exact HGET.out p, HXM.out, HWR.out.1⟩, HML.out HITM.out⟩
end Go.Proofs.YtnlefnhdhigecaaGreatDoor

/- Walks of package tree: Load. -/
namespace Go.Proofs.YtnlefnhdhigecaaGreatDoor
set_option maxRecDepth 100000
open Go.RowKit Av
end Go.Proofs.YtnlefnhdhigecaaGreatDoor

/- The reference's tree in memory: a block with a row of entries. -/
namespace Go.Proofs.YtnlefnhdhigecaaGreatDoor
set_option maxRecDepth 100000
open Go.RowKit Av

abbrev entT : TypeId := 122
abbrev rtT : TypeId := 31
structure Ent where
  p : ByteArray
  n : NodeV
  nv : Value
def entC (e : Ent) : List Value := [.string e.p, .int .i64 e.n.made, .int .i64 e.n.chg, .int .i64 e.n.ver, .int .i64 e.n.kids, .int .i64 e.n.own, .int .i64 e.n.len, .int .i64 e.n.cnt, .string e.n.data, .int .i64 e.n.next, e.nv]
theorem entC_len (e : Ent) : (entC e).length = 11 := rfl
def entL (E : List Ent) : RL := E.map fun e => (e.p, e.n)
def EntOk (w : World) (e : Ent) : Prop := w.ownsRow 0 strT 1 e.nv e.n.names.length (e.n.names.map encStr)
/-- No block of strings is among those that are written. -/
def NoT (w : World) (S : Nat → Prop) (T : TypeId) : Prop := ∀ i, S i → ∀ cur f, w.heap[i]? ≠ some (.cells cur T f)
theorem own_type {w : World} {base k n : Nat} {e : TypeId} {v : Value} {xs : List Value} (h : w.ownsRow base e k v n xs) {i : Nat} (hi : v.ownBlock = some i) : ∃ cur f, w.heap[i]? = some (.cells cur e f) := by
  obtain ⟨_, ⟨rfl, _⟩ | ⟨q, c, cur, rfl, _, hg, _⟩⟩ := h
  · simp [Value.ownBlock] at hi
  · simp only [Value.ownBlock, Option.some.injEq] at hi
    subst hi
    exact ⟨cur, _, hg⟩
theorem owns_kpT {S : Nat → Prop} {w w' : World} {base k n : Nat} {e : TypeId} {v : Value} {xs : List Value} (h : w.ownsRow base e k v n xs) (x : Kp S w w') (hs : NoT w S e) : w'.ownsRow base e k v n xs :=
  ownsRow.kp h x (fun i hi hsi => by
    obtain ⟨cur, f, hc⟩ := own_type h hi
    exact hs i hsi cur f hc)
theorem EntOk.ext {w w' : World} {e : Ent} (h : EntOk w e) (k : Ext w w') : EntOk w' e := ownsRow.ext h k
theorem EntOk.kp {S : Nat → Prop} {w w' : World} {e : Ent} (h : EntOk w e) (k : Kp S w w') (hs : NoT w S strT) : EntOk w' e := owns_kpT h k hs
structure EntsR (w : World) (base : Nat) (v : Value) (E : List Ent) : Prop where
  row : w.ownsRow base entT 11 v E.length (E.flatMap entC)
  ok : ∀ e ∈ E, EntOk w e
theorem EntsR.ext {w w' : World} {base : Nat} {v : Value} {E : List Ent} (h : EntsR w base v E) (k : Ext w w') : EntsR w' base v E := ⟨ownsRow.ext h.row k, fun e he => (h.ok e he).ext k⟩
theorem EntsR.kp {S : Nat → Prop} {w w' : World} {base : Nat} {v : Value} {E : List Ent} (h : EntsR w base v E) (k : Kp S w w') (h1 : NoT w S strT) (h2 : NoT w S entT) : EntsR w' base v E :=
  ⟨owns_kpT h.row k h2, fun e he => (h.ok e he).kp k h1⟩
theorem EntsR.less {w : World} {base base' : Nat} {v : Value} {E : List Ent} (h : EntsR w base v E) (hb : base' ≤ base) : EntsR w base' v E := ⟨own_less h.row hb, h.ok⟩
/-- Each entry's cells. -/
theorem EntsR.at {w : World} {base : Nat} {v : Value} {E : List Ent} (h : EntsR w base v E) : ∃ a c, v = .slice a E.length c ∧ E.length ≤ maxLen ∧ (0 < E.length → ∃ b off, a = some ⟨b, off, none⟩ ∧ b < w.heap.size ∧ ∀ k (hk : k < E.length) i u, i < 11 → (entC E[k])[i]? = some u → w.cell? ⟨b, off + k * 11 + i, none⟩ = some u) := by
  obtain ⟨a, c, e, _, hm, hop⟩ := Sl.rows (f := entC) (K := 11) entC_len (Sl.of_owns h.row)
  refine ⟨a, c, e, hm, fun h0 => ?_⟩
  obtain ⟨b, off, e2, hb, hc⟩ := hop h0
  exact ⟨b, off, e2, hb, hc⟩
structure RefT (w : World) (base g : Nat) (room : Int) (L : RL) : Prop where
  low : base ≤ g
  ex : ∃ v E, entL E = L ∧ Blk w g #[.int .i64 room, v] rtT ∧ EntsR w base v E
theorem RefT.ext {w w' : World} {base g : Nat} {room : Int} {L : RL} (h : RefT w base g room L) (k : Ext w w') : RefT w' base g room L := by
  obtain ⟨v, E, h1, h2, h3⟩ := h.ex
  exact ⟨h.low, v, E, h1, h2.kp k (fun f => f), h3.ext k⟩
theorem RefT.kp {S : Nat → Prop} {w w' : World} {base g : Nat} {room : Int} {L : RL} (h : RefT w base g room L) (k : Kp S w w') (h1 : NoT w S strT) (h2 : NoT w S entT) (h3 : NoT w S rtT) : RefT w' base g room L := by
  obtain ⟨v, E, e1, e2, e3⟩ := h.ex
  exact ⟨h.low, v, E, e1, e2.kp k (fun hs => h3 g hs _ _ e2), e3.kp k h1 h2⟩
theorem RefT.less {w : World} {base base' g : Nat} {room : Int} {L : RL} (h : RefT w base g room L) (hb : base' ≤ base) : RefT w base' g room L := by
  obtain ⟨v, E, e1, e2, e3⟩ := h.ex
  exact ⟨Nat.le_trans hb h.low, v, E, e1, e2, e3.less hb⟩
/-- What a tree's calls write is of no other type than its own. -/
theorem TreeR.noT {w : World} {base b m : Nat} {room : Int} {t : Tr} (h : TreeR w base b m room t) {T : TypeId} (hT : T ≠ ndT) : NoT w (nodeFr m t) T := fun _ hi _ _ hc => hT (h.types hi hc)
end Go.Proofs.YtnlefnhdhigecaaGreatDoor

/- Walks over the reference's nodes: nd, Same. -/
namespace Go.Proofs.YtnlefnhdhigecaaGreatDoor
set_option maxRecDepth 100000
open Go.RowKit Av

abbrev rnT : TypeId := 50
abbrev stT : TypeId := 35
def stA (n : NodeV) : Array Value := #[.int .i64 n.made, .int .i64 n.chg, .int .i64 n.ver, .int .i64 n.kids, .int .i64 n.own, .int .i64 n.len, .int .i64 n.cnt]
def stB (x y : NodeV) : Bool := decide (x.made = y.made ∧ x.chg = y.chg ∧ x.ver = y.ver ∧ x.kids = y.kids ∧ x.own = y.own ∧ x.len = y.len ∧ x.cnt = y.cnt)
theorem stat_eql (x y : NodeV) (w : World) : (binOp .eql stT (.agg (stA x)) (.agg (stA y))).run Tryz.prog w = .ok (.bool (stB x y)) w := by
  have u3 := Tryz.underlying3
  have u2 := Tryz.underlying2
  have hS : Tryz.prog.underlying stT = some (.struct (Tryz.prog.fieldsOf stT)) := by kernel_rfl
  have hp : Tryz.prog.stoodInHeld stT = false := by kernel_rfl
  unfold stA stB
  rw [run_eql_struct, show (10000 : Nat) = 9999 + 1 from rfl, run_equalIn_agg w 9999 stT _ _ hS hp]
  simp only [Program.fieldsOf, Tryz.underlying35]
  go_simp
  by_cases h1 : x.made = y.made <;> by_cases h2 : x.chg = y.chg <;> by_cases h3 : x.ver = y.ver <;> by_cases h4 : x.kids = y.kids <;> by_cases h5 : x.own = y.own <;> by_cases h6 : x.len = y.len <;> by_cases h7 : x.cnt = y.cnt <;> simp [h1, h2, h3, h4, h5, h6, h7]
theorem stat_guard : Tryz.prog.eqGuardType Tryz.prog.depth stT = false := by kernel_rfl
def sameB (x y : NodeV) : Bool := stB x y && (decide (x.data = y.data) && (decide (x.next = y.next) && decide (x.names = y.names)))
theorem sameB_iff {x y : NodeV} : sameB x y = true ↔ x = y := by
  unfold sameB stB
  obtain ⟨a1, a2, a3, a4, a5, a6, a7, a8, a9, a10⟩ := x
  obtain ⟨b1, b2, b3, b4, b5, b6, b7, b8, b9, b10⟩ := y
  simp only [Bool.and_eq_true, decide_eq_true_eq, NodeV.mk.injEq]
  constructor
  · rintro ⟨⟨h1, h2, h3, h4, h5, h6, h7⟩, h8, h9, h10⟩
    exact ⟨h1, h2, h3, h4, h5, h6, h7, h8, h9, h10⟩
  · rintro ⟨h1, h2, h3, h4, h5, h6, h7, h8, h9, h10⟩
    exact ⟨⟨h1, h2, h3, h4, h5, h6, h7⟩, h8, h9, h10⟩
instance : DecidableEq NodeV := fun _ _ => decidable_of_iff _ sameB_iff
def strB (l : List Bs) : List ByteArray := l.map fun b => ⟨b.toArray⟩
theorem strB_eq {a b : List Bs} : strB a = strB b ↔ a = b := by
  refine ⟨fun h => ?_, fun h => by rw [h]⟩
  have h2 := congrArg (List.map fun s : ByteArray => s.data.toList) h
  unfold strB at h2
  rw [List.map_map, List.map_map] at h2
  have e : ((fun s : ByteArray => s.data.toList) ∘ fun b : Bs => (⟨b.toArray⟩ : ByteArray)) = id := by
    funext b
    simp
  rwa [e, List.map_id, List.map_id] at h2
theorem nms_strs {w : World} {v : Value} {l : List Bs} (h : NmS w v l) : Strs w v (strB l) := by
  have h1 := h.1
  unfold Strs strB
  rw [List.map_map, List.length_map]
  exact h1
set_option maxHeartbeats 1600000 in
theorem refSame10_any (x y : NodeV) (vx vy : Value) (w : World) (hx : NmS w vx x.names) (hy : NmS w vy y.names) : Calls Tryz.prog 74 #[.agg (ndA x vx), .agg (ndA y vy)] w fun e w' => e = .returned (.bool (sameB x y)) ∧ Ext w w' := by
  obtain ⟨ax, cx, rfl, _⟩ := Sl.open hx.1
  obtain ⟨ay, cy, rfl, _⟩ := Sl.open hy.1
  obtain ⟨wA, hWA⟩ : ∃ wA, (w.alloc (.cells #[.int .i64 x.made, .int .i64 x.chg, .int .i64 x.ver, .int .i64 x.kids, .int .i64 x.own, .int .i64 x.len, .int .i64 x.cnt, .string x.data, .int .i64 x.next, .slice ax x.names.length cx] rnT)).alloc (.cells #[.int .i64 y.made, .int .i64 y.chg, .int .i64 y.ver, .int .i64 y.kids, .int .i64 y.own, .int .i64 y.len, .int .i64 y.cnt, .string y.data, .int .i64 y.next, .slice ay y.names.length cy] rnT) = wA := ⟨_, rfl⟩
  have hxA : Ext w wA := by rw [← hWA]; exact ((Kp.refl _ _).alloc _).alloc _
  have hA : Blk wA w.heap.size #[.int .i64 x.made, .int .i64 x.chg, .int .i64 x.ver, .int .i64 x.kids, .int .i64 x.own, .int .i64 x.len, .int .i64 x.cnt, .string x.data, .int .i64 x.next, .slice ax x.names.length cx] rnT := by
    rw [← hWA]
    exact Blk.kp (heap_alloc_new w _) ((Kp.refl (fun _ => False) _).alloc _) (fun f => f)
  have hB : Blk wA (w.heap.size + 1) #[.int .i64 y.made, .int .i64 y.chg, .int .i64 y.ver, .int .i64 y.kids, .int .i64 y.own, .int .i64 y.len, .int .i64 y.cnt, .string y.data, .int .i64 y.next, .slice ay y.names.length cy] rnT := by
    rw [← hWA]
    have := heap_alloc_new (w.alloc (.cells #[.int .i64 x.made, .int .i64 x.chg, .int .i64 x.ver, .int .i64 x.kids, .int .i64 x.own, .int .i64 x.len, .int .i64 x.cnt, .string x.data, .int .i64 x.next, .slice ax x.names.length cx] rnT)) (.cells #[.int .i64 y.made, .int .i64 y.chg, .int .i64 y.ver, .int .i64 y.kids, .int .i64 y.own, .int .i64 y.len, .int .i64 y.cnt, .string y.data, .int .i64 y.next, .slice ay y.names.length cy] rnT)
    rw [World.size_alloc] at this
    exact this
  have g0 := hA.cell 0 _ rfl
  have g1 := hA.cell 1 _ rfl
  have g2 := hA.cell 2 _ rfl
  have g3 := hA.cell 3 _ rfl
  have g4 := hA.cell 4 _ rfl
  have g5 := hA.cell 5 _ rfl
  have g6 := hA.cell 6 _ rfl
  have g7 := hA.cell 7 _ rfl
  have g8 := hA.cell 8 _ rfl
  have g9 := hA.cell 9 _ rfl
  have h0 := hB.cell 0 _ rfl
  have h1 := hB.cell 1 _ rfl
  have h2 := hB.cell 2 _ rfl
  have h3 := hB.cell 3 _ rfl
  have h4 := hB.cell 4 _ rfl
  have h5 := hB.cell 5 _ rfl
  have h6 := hB.cell 6 _ rfl
  have h7 := hB.cell 7 _ rfl
  have h8 := hB.cell 8 _ rfl
  have h9 := hB.cell 9 _ rfl
  have HS := Lib.hid (refSame_any (.slice ax x.names.length cx) (.slice ay y.names.length cy) (strB x.names) (strB y.names) wA (nms_strs ⟨Sl.ext hx.1 hxA, hx.2⟩) (nms_strs ⟨Sl.ext hy.1 hxA, hy.2⟩))
  have hst := stat_eql x y
  have hgd := stat_guard
  have e1 := str_eq x.data y.data
  have HX := Lib.hid hxA
  have HWA := Lib.hid hWA
  have HE : Hid (sameB x y = (stB x y && (decide (x.data = y.data) && (decide (x.next = y.next) && decide (x.names = y.names))))) := rfl
  clear hWA hxA hA hB hx hy
  unfold ndA
  unfold stA at hst
  generalize stB x y = b at hst HE
  generalize sameB x y = r at HE ⊢
  go_enter Tryz.func74, Tryz.ntmps74
  go_upto_region 1 with (fail)
  rw [HWA.out]
  cases b with
  | false =>
    go_wp2_with (fail)
    go_ret
    exact ⟨ret_bool (by rw [HE.out]; simp), HX.out⟩
  | true =>
    by_cases h1 : x.data = y.data
    · by_cases h2 : x.next = y.next
      · have h2b : (x.next == y.next) = true := by rw [h2]; simp
        go_wp2_with (fail)
        refine HS.out.mono ?_
        rintro e w1 ⟨rfl, hx1⟩
        go_wp2_with (fail)
        go_ret
        exact ⟨ret_bool (by rw [HE.out]; simp [h1, h2, strB_eq]), HX.out.trans hx1⟩
      · have h2b : (x.next == y.next) = false := by simpa using h2
        go_wp2_with (fail)
        go_ret
        exact ⟨ret_bool (by rw [HE.out]; simp [h2]), HX.out⟩
    · go_wp2_with (fail)
      go_ret
      exact ⟨ret_bool (by rw [HE.out]; simp [h1]), HX.out⟩
end Go.Proofs.YtnlefnhdhigecaaGreatDoor

/- A piece of a slice. No program. -/
namespace Av
set_option maxRecDepth 100000
open Go Go.RowKit
/-- The address of a piece that begins at element i (m cells on), as the model has it. -/
def cutAd (a : Option Addr) (c i m : Nat) : Option Addr := if c = i then a else Option.map (fun x => x.add m) a
theorem Sl.cut {w : World} {k n c : Nat} {a : Option Addr} {xs : List Value} (h : Sl w k (.slice a n c) n xs) (i j m : Nat) (hm : m = i * k) (hij : i ≤ j) (hj : j ≤ n) :
    Sl w k (.slice (cutAd a c i m) (j - i) (c - i)) (j - i) ((xs.drop m).take ((j - i) * k)) := by
  obtain ⟨a', c', e, hcc, h2, h1, h3⟩ := Sl.open h
  simp only [Value.slice.injEq, true_and] at e
  obtain ⟨rfl, rfl⟩ := e
  have hmk : (j - i) * k + m ≤ n * k := by rw [hm, ← Nat.add_mul]; exact Nat.mul_le_mul_right k (by omega)
  have hl : ((xs.drop m).take ((j - i) * k)).length = (j - i) * k := by rw [List.length_take, List.length_drop]; omega
  refine ⟨hl, by omega, _, _, rfl, by omega, ?_⟩
  by_cases h0 : j - i = 0
  · exact .inl h0
  · right
    obtain ⟨b, off, rfl, hb, hc⟩ := h3 (by omega)
    refine ⟨b, off + m, ?_, hb, fun t x hx => ?_⟩
    · unfold cutAd
      rw [if_neg (by omega)]
      simp only [Option.map_some, Option.some.injEq]
      by_cases hm0 : m = 0 <;> simp [Addr.add, hm0]
    · rw [List.getElem?_take] at hx
      split at hx
      · rw [List.getElem?_drop] at hx
        rw [Nat.add_assoc]
        exact hc (m + t) x hx
      · cases hx
theorem Shp.cut {a : Option Addr} {n c i j m : Nat} (h : Shp (.slice a n c)) (hij : i ≤ j) (hj : j ≤ n) : Shp (.slice (cutAd a c i m) (j - i) (c - i)) := by
  rcases h with h | ⟨ad, l, c', h⟩
  · simp only [Value.slice.injEq] at h
    obtain ⟨rfl, rfl, rfl⟩ := h
    left
    have : i = 0 := by omega
    have : j = 0 := by omega
    subst i j
    rfl
  · simp only [Value.slice.injEq] at h
    obtain ⟨rfl, rfl, rfl⟩ := h
    right
    unfold cutAd
    split
    · exact ⟨_, _, _, rfl⟩
    · exact ⟨_, _, _, rfl⟩
theorem BytesR.cut {w : World} {a : Option Addr} {c : Nat} {bs : List UInt8} (h : BytesR w (.slice a bs.length c) bs) (i j : Nat) (hij : i ≤ j) (hj : j ≤ bs.length) :
    BytesR w (.slice (cutAd a c i i) (j - i) (c - i)) ((bs.drop i).take (j - i)) := by
  have hl : ((bs.drop i).take (j - i)).length = j - i := by rw [List.length_take, List.length_drop]; omega
  refine ⟨?_, h.2.cut hij hj⟩
  rw [hl]
  have := h.1.cut i j i (by omega) hij hj
  rwa [Nat.mul_one, ← List.map_drop, ← List.map_take] at this
end Av

/- Appends in a region that draws its order. No program. -/
namespace Av
set_option maxRecDepth 100000
open Go Go.RowKit
/-- A slice literal of nothing. -/
def Fresh0 (base : Nat) (e : TypeId) (k : Nat) (v : Value) (w : World) : Prop := w.ownsRow base e k v 0 [] ∧ ∃ g, v = .slice (some ⟨g, 0, none⟩) 0 0 ∧ w.heap[g]? = some (.cells #[] e (0, 0))
theorem Fresh0.ext {base k : Nat} {e : TypeId} {v : Value} {w w' : World} (h : Fresh0 base e k v w) (x : Ext w w') : Fresh0 base e k v w' := by
  obtain ⟨h1, g, rfl, h2⟩ := h
  exact ⟨ownsRow.ext h1 x, g, rfl, x.obj h2 (fun f => f)⟩
theorem Fresh0.new {base k : Nat} {e : TypeId} {w : World} (hb : base ≤ w.heap.size) : Fresh0 base e k (.slice (some ⟨w.heap.size, 0, none⟩) 0 0) (w.alloc (.cells #[] e)) := by
  refine ⟨⟨by simp, .inr ⟨w.heap.size, 0, #[], rfl, hb, ?_, Nat.le_refl _, Nat.zero_le _, by simp, by simp⟩⟩, w.heap.size, rfl, heap_alloc_new w _⟩
  exact heap_alloc_new w _
/-- A slice literal of m elements. -/
def BoxL (base : Nat) (e : TypeId) (m : Nat) (ys : List Value) (u : Value) (w : World) : Prop := ∃ g, base ≤ g ∧ u = .slice (some ⟨g, 0, none⟩) m m ∧ w.heap[g]? = some (.cells ys.toArray e (0, 0))
theorem BoxL.ext {base m : Nat} {e : TypeId} {ys : List Value} {u : Value} {w w' : World} (h : BoxL base e m ys u w) (x : Ext w w') : BoxL base e m ys u w' := by
  obtain ⟨g, h1, rfl, h2⟩ := h
  exact ⟨g, h1, rfl, x.obj h2 (fun f => f)⟩
theorem BoxL.new {base m : Nat} {e : TypeId} {ys : List Value} {w : World} (hb : base ≤ w.heap.size) : BoxL base e m ys (.slice (some ⟨w.heap.size, 0, none⟩) m m) (w.alloc (.cells ys.toArray e)) :=
  ⟨w.heap.size, hb, rfl, heap_alloc_new w _⟩
theorem Fresh0.keep {base base' k k' n : Nat} {e e' : TypeId} {u v : Value} {xs : List Value} {w w' : World} (h : Fresh0 base e k u w) (hv : w.ownsRow base' e' k' v n xs) (hn : 0 < n) (hk : 0 < k') (x : Kp (fun i => v.ownBlock = some i) w w') : Fresh0 base e k u w' := by
  obtain ⟨h1, g, rfl, h2⟩ := h
  have key : ¬ v.ownBlock = some g := by
    intro e1
    rcases hv.2 with ⟨rfl, _⟩ | ⟨g', cap, cur, rfl, _, hg, h3, _, h4, _⟩
    · simp [Value.ownBlock] at e1
    · simp [Value.ownBlock] at e1
      subst e1
      rw [h2] at hg
      simp only [Option.some.injEq, Obj.cells.injEq] at hg
      rw [← hg.1] at h4
      have : 0 < cap * k' := Nat.mul_pos (by omega) hk
      simp at h4
      omega
  refine ⟨ownsRow.kp h1 x (fun b hb e1 => ?_), g, rfl, x.obj h2 key⟩
  simp [Value.ownBlock] at hb
  subst hb
  exact key e1
/-- The blocks that are made on the way. -/
theorem Kp.over {base : Nat} {v : Value} {w w' : World} (x : Kp (fun i => v.ownBlock = some i) w w') (h : ∀ i, v.ownBlock = some i → base ≤ i) : Kp (fun i => base ≤ i) w w' := x.mono (fun i _ hi => h i hi)
end Av
