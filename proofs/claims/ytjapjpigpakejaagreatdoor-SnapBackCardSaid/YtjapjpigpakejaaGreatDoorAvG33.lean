/- Texts put together: AvWTreeM, AvRefT, AvWSame. -/
import Derived.Test.YtjapjpigpakejaaGreatDoorAvG19
import Derived.Test.YtjapjpigpakejaaGreatDoorAvHTreeQ
import Derived.Test.YtjapjpigpakejaaGreatDoorAvG26
import Derived.Test.YtjapjpigpakejaaGreatDoorAvG25
import Derived.Test.YtjapjpigpakejaaGreatDoorAvG22
import Derived.Laws.StructEq

/- Walks of package tree: Load. -/
namespace Go.Proofs.YtjapjpigpakejaaGreatDoor
set_option maxRecDepth 100000
open Go.RowKit Av

/-- A node as it is laid. -/
def ndLoad (n : NodeV) : NodeV := { n with len := n.data.size, cnt := n.names.length }
def loadP (r : Bool) (room : Int) (t : Pt) (p : ByteArray) (n : NodeV) : Pt × Int := if r = false then (t, 1) else if (mget t p).isSome = true then (t, 5) else if room ≤ (t.length : Int) then (t, 9) else (mset t p (ndLoad n), 0)
def LoadPost (w : World) (base b m : Nat) (room : Int) (t : Tr) (R : Pt × Int) (e : Ending) (w' : World) : Prop :=
  ∃ t', e = .returned (.int .i64 R.2) ∧ TreeR w' base b m room t' ∧ pl t' = R.1 ∧ Kp (nodeFr m t) w w' ∧ Fresh w t t'
set_option maxHeartbeats 3200000 in
theorem treeLoad_any (base b m : Nat) (room : Int) (t : Tr) (p : ByteArray) (n : NodeV) (nv : Value) (r : Bool) (w : World) (hT : TreeR w base b m room t) (hG : GL w) (hp : p.size ≤ 1000000) (hn : NmS w nv n.names) (hl : n.names.length ≤ 100000) (hsz : ∀ s ∈ n.names, s.length ≤ 1000000) (hr : r = true ↔ (goodL p.data.toList = true ∧ Named n.names)) :
    Calls Tryz.prog 24 #[.pointer (some ⟨b, 0, none⟩), .string p, .agg (ndA n nv)] w fun e w' => LoadPost w base b m room t (loadP r room (pl t) p n) e w' := by
  obtain ⟨na, nc, rfl, _⟩ := Sl.open hn.1
  obtain ⟨wA, hWA⟩ : ∃ wA, w.alloc (.cells (ndA n (.slice na n.names.length nc)) ndT) = wA := ⟨_, rfl⟩
  have hxA : Ext w wA := by rw [← hWA]; exact (Kp.refl _ _).alloc _
  have hA : Blk wA w.heap.size (ndA n (.slice na n.names.length nc)) ndT := by rw [← hWA]; exact heap_alloc_new w _
  have HA := Lib.hid hA
  have HXA := Lib.hid hxA
  have HTA := Lib.hid (hT.ext hxA)
  have HNM := Lib.hid (show NmS w (.slice na n.names.length nc) n.names from hn)
  have HGA := Lib.hid (hG.ext hxA)
  have HGD := Lib.hid (Good_any p wA (hG.ext hxA) (by unfold maxLen; omega))
  have HC : Hid (loadP r room (pl t) p n = if r = false then (pl t, 1) else if (mget (pl t) p).isSome = true then (pl t, 5) else if room ≤ ((pl t).length : Int) then (pl t, 9) else (mset (pl t) p (ndLoad n), 0)) := rfl
  generalize loadP r room (pl t) p n = R at HC ⊢
  have HFR : Hid (∀ i, nodeFr m t i → i < w.heap.size) := by
    rintro i (rfl | ⟨e, he, rfl⟩)
    · exact hT.map.lt
    · exact (hT.nod e he).lt
  have HHR := Lib.hid hr
  unfold ndA at hWA ⊢
  have HWA := Lib.hid hWA
  clear hWA hxA hA hT hG hn hr
  go_enter Tryz.func24, Tryz.ntmps24
  go_upto_region 1 with (fail)
  rw [HWA.out]
  go_wp2_with (fail)
  refine HGD.out.mono ?_
  rintro e w1 ⟨rfl, hx1⟩
  cases hg : goodL p.data.toList with
  | false =>
    have HE : Hid (R = (pl t, 1)) := HC.out.trans (if_pos (by
      cases r with
      | false => rfl
      | true => exact absurd (HHR.out.1 rfl).1 (by rw [hg]; decide)))
    have HTX := Lib.hid (HTA.out.ext hx1)
    have HXX := Lib.hid (HXA.out.ext hx1)
    clear hx1 HC hg HHR
    clear HWA
    go_wp2_with (fail)
    go_ret
    rw [HE.out]
    exact ⟨t, rfl, HTX.out, rfl, Ext.kp HXX.out, Fresh.refl _ _⟩
  | true =>
    have HX1 := Lib.hid hx1
    have ha1 := HA.out.kp hx1 (fun f => f)
    have HNA := Lib.hid (named_any (.slice na n.names.length nc) n.names w1 (HGA.out.ext hx1) ⟨Sl.ext HNM.out.1 (HXA.out.ext hx1), HNM.out.2⟩ (by omega) hsz)
    have n9 : w1.cell? ⟨w.heap.size, 9, none⟩ = some (.slice na n.names.length nc) := ha1.cell 9 _ rfl
    clear hx1 ha1
    go_wp2_with (fail)
    refine HNA.out.mono ?_
    rintro e w2 ⟨r2, rfl, hr2, hx2⟩
    have HX2 := Lib.hid (HX1.out.ext hx2)
    clear hx2 n9 HNA
    cases r2 with
    | false =>
      have HE : Hid (R = (pl t, 1)) := HC.out.trans (if_pos (by
        cases r with
        | false => rfl
        | true => exact absurd (hr2.2 (HHR.out.1 rfl).2) (by decide)))
      have HTX := Lib.hid (HTA.out.ext HX2.out)
      have HXX := Lib.hid (HXA.out.ext HX2.out)
      clear HC hg HHR hr2
      clear HWA
      go_wp2_with (fail)
      go_ret
      rw [HE.out]
      exact ⟨t, rfl, HTX.out, rfl, Ext.kp HXX.out, Fresh.refl _ _⟩
    | true =>
      have hrt : r = true := HHR.out.2 ⟨hg, hr2.1 rfl⟩
      have hc2 := HC.out.trans (if_neg (by rw [hrt]; decide))
      have HC2 := Lib.hid hc2
      have hT2 := HTA.out.ext HX2.out
      have HT2 := Lib.hid hT2
      have hlk := tree_look hT2 p
      have c1 := hT2.blk.cell 1 _ rfl
      clear HC hg HHR hr2 hc2 hT2 hrt
      cases hgt : mget t p with
      | some gn =>
        have HE : Hid (R = (pl t, 5)) := HC2.out.trans (if_pos (by rw [pl_get, hgt]; rfl))
        rw [hgt] at hlk
        simp only [Option.map_some, Option.getD_some] at hlk
        have HTX := HT2
        have HXX := Lib.hid (HXA.out.ext HX2.out)
        clear hgt HC2
        clear HWA
        go_wp2_with (fail)
        go_ret
        rw [HE.out]
        exact ⟨t, rfl, HTX.out, rfl, Ext.kp HXX.out, Fresh.refl _ _⟩
      | none =>
        have hc3 := HC2.out.trans (if_neg (by rw [pl_get, hgt]; decide))
        have HC3 := Lib.hid hc3
        rw [hgt] at hlk
        simp only [Option.map_none, Option.getD_none] at hlk
        clear hgt HC2 hc3
        go_upto_region 5 with (fail)
        clear hlk c1
        refine' wp_region_dag0 ((27, .val _) :: (28, .val _) :: (29, .val _) :: (30, .val _) :: (31, .val _) :: (32, .val _) :: (33, .val _) :: (34, .val _) :: (35, .val _) :: (36, .val _) :: (26, .val _) :: []) (by exact ⟨fun _ _ _ _ _ => trivial, ⟨fun _ _ _ _ _ => trivial, ⟨fun _ _ _ _ _ => trivial, ⟨fun _ _ _ _ _ => trivial, ⟨fun _ _ _ _ _ => trivial, ⟨fun _ _ _ _ _ => trivial, ⟨fun _ _ _ _ _ => trivial, ⟨fun _ _ _ _ _ => trivial, ⟨fun _ _ _ _ _ => trivial, ⟨fun _ _ _ _ _ => trivial, ⟨fun _ _ _ _ _ => trivial, trivial⟩⟩⟩⟩⟩⟩⟩⟩⟩⟩⟩) (by kernel_rfl) (by kernel_rfl) (by kernel_rfl) ?_
        rotate_left 11
        repeat (first
          | (refine wpD_skipv ?_ ?_ ?_
             focus rfl
             focus rfl
             simp only [Act.put, List.setIfInBounds_toArray, List.set_cons_succ, List.set_cons_zero])
          | (refine' wpD_val (c := _) ?_ (fun w => Kp.refl _ w) ?_ (fun wq hwq hfq => ?_) ?_
             rotate_left
             focus rfl
             focus rfl
             focus ((have c0 := (HT2.out.blk.kp hwq (fun f => f)).cell 0 _ rfl; have c1 := (HT2.out.blk.kp hwq (fun f => f)).cell 1 _ rfl; have hln := MapK.len tNodes (HT2.out.map.ext hwq)); go_simp; first | done | rfl)
             simp only [Act.put, List.setIfInBounds_toArray, List.set_cons_succ, List.set_cons_zero])
          | (refine' wpD_con (c := _) ?_ ?_ (fun wq hwq hfq => ?_) ?_
             rotate_left
             focus rfl
             focus rfl
             focus ((have c0 := (HT2.out.blk.kp hwq (fun f => f)).cell 0 _ rfl; have c1 := (HT2.out.blk.kp hwq (fun f => f)).cell 1 _ rfl; have hln := MapK.len tNodes (HT2.out.map.ext hwq)); go_simp; (try (rw [dUpon_enter])); fail)
             simp only [Act.put, List.setIfInBounds_toArray, List.set_cons_succ, List.set_cons_zero])
          | fail)
        refine wpD_nil ?_
        intro w3 hx3 hend
        clear hend
        have hpl : (ptrs t).length = t.length := List.length_map _
        rw [hpl]
        have HX3 := Lib.hid (HX2.out.ext hx3)
        have HT3 := Lib.hid (HT2.out.ext hx3)
        clear hx3 hpl
        by_cases hfull : room ≤ (t.length : Int)
        · have HE : Hid (R = (pl t, 9)) := HC3.out.trans (if_pos (by rw [pl_len]; exact hfull))
          have HTX := HT3
          have HXX := Lib.hid (HXA.out.ext HX3.out)
          clear HC3
          clear HWA
          go_wp2_with (fail)
          go_ret
          rw [HE.out]
          exact ⟨t, rfl, HTX.out, rfl, Ext.kp HXX.out, Fresh.refl _ _⟩
        · have HE : Hid (R = (mset (pl t) p (ndLoad n), 0)) := HC3.out.trans (if_neg (by rw [pl_len]; exact hfull))
          have ha3 := HA.out.kp HX3.out (fun f => f)
          have HCP := Lib.hid (statCopied_any n (.slice na n.names.length nc) w3 ⟨Sl.ext HNM.out.1 (HXA.out.ext HX3.out), HNM.out.2⟩ hl)
          unfold ndA at ha3 HCP
          have a0 := ha3.cell 0 _ rfl
          have a1 := ha3.cell 1 _ rfl
          have a2 := ha3.cell 2 _ rfl
          have a3 := ha3.cell 3 _ rfl
          have a4 := ha3.cell 4 _ rfl
          have a5 := ha3.cell 5 _ rfl
          have a6 := ha3.cell 6 _ rfl
          have a7 := ha3.cell 7 _ rfl
          have a8 := ha3.cell 8 _ rfl
          have a9 := ha3.cell 9 _ rfl
          clear ha3 HC3
          go_wp2_with (fail)
          refine HCP.out.mono ?_
          rintro e1 w5 ⟨nv5, rfl, ho5, hx5⟩
          obtain ⟨na5, nc5, rfl⟩ := owns_slice ho5
          obtain ⟨wN, hWN⟩ : ∃ wN, w5.alloc (.cells #[.int .i64 n.made, .int .i64 n.chg, .int .i64 n.ver, .int .i64 n.kids, .int .i64 n.own, .int .i64 n.len, .int .i64 n.cnt, .string n.data, .int .i64 n.next, .slice na5 n.names.length nc5] ndT) = wN := ⟨_, rfl⟩
          have hxN : Ext w5 wN := by rw [← hWN]; exact (Kp.refl _ _).alloc _
          have hN : Blk wN w5.heap.size (ndA n (.slice na5 n.names.length nc5)) ndT := by rw [← hWN]; exact heap_alloc_new w5 _
          obtain ⟨wS, hWS⟩ : ∃ wS, (wN.setCell ⟨w5.heap.size, 5, none⟩ (.int .i64 n.data.size)).setCell ⟨w5.heap.size, 6, none⟩ (.int .i64 n.names.length) = wS := ⟨_, rfl⟩
          have hkS : Kp (fun i => i = w5.heap.size) wN wS := by rw [← hWS]; exact ((Kp.refl (fun i => i = w5.heap.size) wN).set1 _ 5 _ rfl).set1 _ 6 _ rfl
          have hS : Blk wS w5.heap.size (ndA (ndLoad n) (.slice na5 n.names.length nc5)) ndT := by rw [← hWS]; exact (hN.set 5 _).set 6 _
          have hxS : Ext w3 wS := (hx5.ext hxN).next hkS (fun i hi e => by have := hx5.size; omega)
          have hnd : NdAt wS w5.heap.size (ndLoad n) := ⟨_, hS, owns_zero (ownsRow.kp (ownsRow.ext ho5 hxN) hkS (fun i hi e => nd_apart hN (owns_zero (ownsRow.ext ho5 hxN)) hi e))⟩
          have hTS := HT3.out.ext hxS
          have hwx := HX3.out.ext hxS
          obtain ⟨wM, u1, u2, u3, u4⟩ := MapK.update kStr tNodes hTS.map p (.pointer (some ⟨w5.heap.size, 0, none⟩))
          have hws : w.heap.size ≤ w5.heap.size := by
            have h1 := HXA.out.size
            have h2 := HX3.out.size
            have h3 := hx5.size
            omega
          have hbw : base ≤ w5.heap.size := by
            have h1 := HTA.out.low.1
            have h2 := HTA.out.blk.lt
            have h3 := HX3.out.size
            have h4 := hx5.size
            omega
          have HTM := Lib.hid (hTS.lay hbw hnd (fun e he e2 => by have := HFR.out _ (.inr ⟨e, he, rfl⟩); omega) u2 u3)
          have HKM : Hid (Kp (nodeFr m t) w wM) := (Ext.kp (HXA.out.ext hwx)).next u3 (fun i hi e => .inl e)
          have c1 := hTS.blk.cell 1 _ rfl
          have HWN := Lib.hid hWN
          have HWS := Lib.hid hWS
          have HFS := Lib.hid hws
          unfold ndA at hN
          have j0 := hN.cell 0 _ rfl
          have j1 := hN.cell 1 _ rfl
          have j2 := hN.cell 2 _ rfl
          have j3 := hN.cell 3 _ rfl
          have j4 := hN.cell 4 _ rfl
          have j5 := hN.cell 5 _ rfl
          have j6 := hN.cell 6 _ rfl
          have j7 := hN.cell 7 _ rfl
          have j8 := hN.cell 8 _ rfl
          have j9 := hN.cell 9 _ rfl
          have fj0 := hN.free 0
          have fj1 := hN.free 1
          have fj2 := hN.free 2
          have fj3 := hN.free 3
          have fj4 := hN.free 4
          have fj5 := hN.free 5
          have fj6 := hN.free 6
          have fj7 := hN.free 7
          have fj8 := hN.free 8
          have fj9 := hN.free 9
          clear hWN hxN hN hkS hS hxS hnd hTS hwx u2 u3 u4 hWS hx5 ho5 HCP a0 a1 a2 a3 a4 a5 a6 a7 a8 a9 hbw hws
          go_upto_region 8 with (fail)
          rw [HWN.out]
          go_upto_region 9 with (fail)
          rw [HWS.out]
          clear j0 j1 j2 j3 j4 j5 j6 j7 j8 j9 fj0 fj1 fj2 fj3 fj4 fj5 fj6 fj7 fj8 fj9
          go_wp2_with (fail)
          go_ret
          rw [HE.out]
          exact ⟨_, rfl, HTM.out, by rw [pl_set], HKM.out, (Fresh.refl _ _).set HFS.out _ _⟩
end Go.Proofs.YtjapjpigpakejaaGreatDoor

/- The reference's tree in memory: a block with a row of entries. -/
namespace Go.Proofs.YtjapjpigpakejaaGreatDoor
set_option maxRecDepth 100000
open Go.RowKit Av

abbrev entT : TypeId := 92
abbrev rtT : TypeId := 53
structure Ent where
  p : ByteArray
  n : NodeV
  nv : Value
def entC (e : Ent) : List Value := [.string e.p, .int .i64 e.n.made, .int .i64 e.n.chg, .int .i64 e.n.ver, .int .i64 e.n.kids, .int .i64 e.n.own, .int .i64 e.n.len, .int .i64 e.n.cnt, .string e.n.data, .int .i64 e.n.next, e.nv]
theorem entC_len (e : Ent) : (entC e).length = 11 := rfl
def entL (E : List Ent) : RL := E.map fun e => (e.p, e.n)
def EntOk (w : World) (e : Ent) : Prop := w.ownsRow 0 strT 1 e.nv e.n.names.length (e.n.names.map encStr)
/-- No block of strings is among those that are written. -/
def NoT (w : World) (S : Nat → Prop) (T : TypeId) : Prop := ∀ i, S i → ∀ cur f, w.heap[i]? ≠ some (.cells cur T f)
theorem own_type {w : World} {base k n : Nat} {e : TypeId} {v : Value} {xs : List Value} (h : w.ownsRow base e k v n xs) {i : Nat} (hi : v.ownBlock = some i) : ∃ cur f, w.heap[i]? = some (.cells cur e f) := by
  obtain ⟨_, ⟨rfl, _⟩ | ⟨q, c, cur, rfl, _, hg, _⟩⟩ := h
  · simp [Value.ownBlock] at hi
  · simp only [Value.ownBlock, Option.some.injEq] at hi
    subst hi
    exact ⟨cur, _, hg⟩
theorem owns_kpT {S : Nat → Prop} {w w' : World} {base k n : Nat} {e : TypeId} {v : Value} {xs : List Value} (h : w.ownsRow base e k v n xs) (x : Kp S w w') (hs : NoT w S e) : w'.ownsRow base e k v n xs :=
  ownsRow.kp h x (fun i hi hsi => by
    obtain ⟨cur, f, hc⟩ := own_type h hi
    exact hs i hsi cur f hc)
theorem EntOk.ext {w w' : World} {e : Ent} (h : EntOk w e) (k : Ext w w') : EntOk w' e := ownsRow.ext h k
theorem EntOk.kp {S : Nat → Prop} {w w' : World} {e : Ent} (h : EntOk w e) (k : Kp S w w') (hs : NoT w S strT) : EntOk w' e := owns_kpT h k hs
structure EntsR (w : World) (base : Nat) (v : Value) (E : List Ent) : Prop where
  row : w.ownsRow base entT 11 v E.length (E.flatMap entC)
  ok : ∀ e ∈ E, EntOk w e
theorem EntsR.ext {w w' : World} {base : Nat} {v : Value} {E : List Ent} (h : EntsR w base v E) (k : Ext w w') : EntsR w' base v E := ⟨ownsRow.ext h.row k, fun e he => (h.ok e he).ext k⟩
theorem EntsR.kp {S : Nat → Prop} {w w' : World} {base : Nat} {v : Value} {E : List Ent} (h : EntsR w base v E) (k : Kp S w w') (h1 : NoT w S strT) (h2 : NoT w S entT) : EntsR w' base v E :=
  ⟨owns_kpT h.row k h2, fun e he => (h.ok e he).kp k h1⟩
theorem EntsR.less {w : World} {base base' : Nat} {v : Value} {E : List Ent} (h : EntsR w base v E) (hb : base' ≤ base) : EntsR w base' v E := ⟨own_less h.row hb, h.ok⟩
/-- Each entry's cells. -/
theorem EntsR.at {w : World} {base : Nat} {v : Value} {E : List Ent} (h : EntsR w base v E) : ∃ a c, v = .slice a E.length c ∧ E.length ≤ maxLen ∧ (0 < E.length → ∃ b off, a = some ⟨b, off, none⟩ ∧ b < w.heap.size ∧ ∀ k (hk : k < E.length) i u, i < 11 → (entC E[k])[i]? = some u → w.cell? ⟨b, off + k * 11 + i, none⟩ = some u) := by
  obtain ⟨a, c, e, _, hm, hop⟩ := Sl.rows (f := entC) (K := 11) entC_len (Sl.of_owns h.row)
  refine ⟨a, c, e, hm, fun h0 => ?_⟩
  obtain ⟨b, off, e2, hb, hc⟩ := hop h0
  exact ⟨b, off, e2, hb, hc⟩
structure RefT (w : World) (base g : Nat) (room : Int) (L : RL) : Prop where
  low : base ≤ g
  ex : ∃ v E, entL E = L ∧ Blk w g #[.int .i64 room, v] rtT ∧ EntsR w base v E
theorem RefT.ext {w w' : World} {base g : Nat} {room : Int} {L : RL} (h : RefT w base g room L) (k : Ext w w') : RefT w' base g room L := by
  obtain ⟨v, E, h1, h2, h3⟩ := h.ex
  exact ⟨h.low, v, E, h1, h2.kp k (fun f => f), h3.ext k⟩
theorem RefT.kp {S : Nat → Prop} {w w' : World} {base g : Nat} {room : Int} {L : RL} (h : RefT w base g room L) (k : Kp S w w') (h1 : NoT w S strT) (h2 : NoT w S entT) (h3 : NoT w S rtT) : RefT w' base g room L := by
  obtain ⟨v, E, e1, e2, e3⟩ := h.ex
  exact ⟨h.low, v, E, e1, e2.kp k (fun hs => h3 g hs _ _ e2), e3.kp k h1 h2⟩
theorem RefT.less {w : World} {base base' g : Nat} {room : Int} {L : RL} (h : RefT w base g room L) (hb : base' ≤ base) : RefT w base' g room L := by
  obtain ⟨v, E, e1, e2, e3⟩ := h.ex
  exact ⟨Nat.le_trans hb h.low, v, E, e1, e2, e3.less hb⟩
/-- What a tree's calls write is of no other type than its own. -/
theorem TreeR.noT {w : World} {base b m : Nat} {room : Int} {t : Tr} (h : TreeR w base b m room t) {T : TypeId} (hT : T ≠ ndT) : NoT w (nodeFr m t) T := fun _ hi _ _ hc => hT (h.types hi hc)
end Go.Proofs.YtjapjpigpakejaaGreatDoor

/- Walks over the reference's nodes: nd, Same. -/
namespace Go.Proofs.YtjapjpigpakejaaGreatDoor
set_option maxRecDepth 100000
open Go.RowKit Av

abbrev rnT : TypeId := 59
abbrev stT : TypeId := 32
def stA (n : NodeV) : Array Value := #[.int .i64 n.made, .int .i64 n.chg, .int .i64 n.ver, .int .i64 n.kids, .int .i64 n.own, .int .i64 n.len, .int .i64 n.cnt]
def stB (x y : NodeV) : Bool := decide (x.made = y.made ∧ x.chg = y.chg ∧ x.ver = y.ver ∧ x.kids = y.kids ∧ x.own = y.own ∧ x.len = y.len ∧ x.cnt = y.cnt)
theorem stat_eql (x y : NodeV) (w : World) : (binOp .eql stT (.agg (stA x)) (.agg (stA y))).run Tryz.prog w = .ok (.bool (stB x y)) w := by
  have u3 := Tryz.underlying3
  have u2 := Tryz.underlying2
  have hS : Tryz.prog.underlying stT = some (.struct (Tryz.prog.fieldsOf stT)) := by kernel_rfl
  have hp : Tryz.prog.stoodInHeld stT = false := by kernel_rfl
  unfold stA stB
  rw [run_eql_struct, show (10000 : Nat) = 9999 + 1 from rfl, run_equalIn_agg w 9999 stT _ _ hS hp]
  simp only [Program.fieldsOf, Tryz.underlying32]
  go_simp
  by_cases h1 : x.made = y.made <;> by_cases h2 : x.chg = y.chg <;> by_cases h3 : x.ver = y.ver <;> by_cases h4 : x.kids = y.kids <;> by_cases h5 : x.own = y.own <;> by_cases h6 : x.len = y.len <;> by_cases h7 : x.cnt = y.cnt <;> simp [h1, h2, h3, h4, h5, h6, h7]
theorem stat_guard : Tryz.prog.eqGuardType Tryz.prog.depth stT = false := by kernel_rfl
set_option maxHeartbeats 1600000 in
theorem nd_any (n : NodeV) (a : Option Addr) (k c : Nat) (w : World) : Calls Tryz.prog 26 #[.agg (ndA n (.slice a k c))] w fun e w' => e = .returned (.agg (ndA n (.slice a k c))) ∧ Ext w w' := by
  obtain ⟨wA, hWA⟩ : ∃ wA, (w.alloc (.cells #[.int .i64 n.made, .int .i64 n.chg, .int .i64 n.ver, .int .i64 n.kids, .int .i64 n.own, .int .i64 n.len, .int .i64 n.cnt, .string n.data, .int .i64 n.next, .slice a k c] ndT)).alloc (.cells ndZA rnT) = wA := ⟨_, rfl⟩
  have hxA : Ext w wA := by rw [← hWA]; exact ((Kp.refl _ _).alloc _).alloc _
  have hA : Blk wA w.heap.size #[.int .i64 n.made, .int .i64 n.chg, .int .i64 n.ver, .int .i64 n.kids, .int .i64 n.own, .int .i64 n.len, .int .i64 n.cnt, .string n.data, .int .i64 n.next, .slice a k c] ndT := by
    rw [← hWA]
    exact Blk.kp (heap_alloc_new w _) ((Kp.refl (fun _ => False) _).alloc _) (fun f => f)
  have hB : Blk wA (w.heap.size + 1) ndZA rnT := by
    rw [← hWA]
    have := heap_alloc_new (w.alloc (.cells #[.int .i64 n.made, .int .i64 n.chg, .int .i64 n.ver, .int .i64 n.kids, .int .i64 n.own, .int .i64 n.len, .int .i64 n.cnt, .string n.data, .int .i64 n.next, .slice a k c] ndT)) (.cells ndZA rnT)
    rw [World.size_alloc] at this
    exact this
  have HF : Hid (∀ u0 u1 u2 u3 u4 u5 u6 u7 u8 u9, Ext w (set10 wA (w.heap.size + 1) u0 u1 u2 u3 u4 u5 u6 u7 u8 u9)) := fun u0 u1 u2 u3 u4 u5 u6 u7 u8 u9 => hxA.next (kp_set10 wA _ u0 u1 u2 u3 u4 u5 u6 u7 u8 u9) (fun i hi e => by omega)
  unfold ndZA at hB
  have h0 := hA.cell 0 _ rfl
  have h1 := hA.cell 1 _ rfl
  have h2 := hA.cell 2 _ rfl
  have h3 := hA.cell 3 _ rfl
  have h4 := hA.cell 4 _ rfl
  have h5 := hA.cell 5 _ rfl
  have h6 := hA.cell 6 _ rfl
  have h7 := hA.cell 7 _ rfl
  have h8 := hA.cell 8 _ rfl
  have h9 := hA.cell 9 _ rfl
  have g0 := hB.cell 0 _ rfl
  have g1 := hB.cell 1 _ rfl
  have g2 := hB.cell 2 _ rfl
  have g3 := hB.cell 3 _ rfl
  have g4 := hB.cell 4 _ rfl
  have g5 := hB.cell 5 _ rfl
  have g6 := hB.cell 6 _ rfl
  have g7 := hB.cell 7 _ rfl
  have g8 := hB.cell 8 _ rfl
  have g9 := hB.cell 9 _ rfl
  have fg0 := hB.free 0
  have fg1 := hB.free 1
  have fg2 := hB.free 2
  have fg3 := hB.free 3
  have fg4 := hB.free 4
  have fg5 := hB.free 5
  have fg6 := hB.free 6
  have fg7 := hB.free 7
  have fg8 := hB.free 8
  have fg9 := hB.free 9
  have HWA := Lib.hid hWA
  clear hWA hxA hA hB
  unfold ndA
  go_enter Tryz.func26, Tryz.ntmps26
  go_upto_region 1 with (fail)
  unfold ndZA at HWA
  rw [HWA.out]
  go_wp2_with (fail)
  go_light
  exact bodyPost_ret (v := .agg #[.int .i64 n.made, .int .i64 n.chg, .int .i64 n.ver, .int .i64 n.kids, .int .i64 n.own, .int .i64 n.len, .int .i64 n.cnt, .string n.data, .int .i64 n.next, .slice a k c]) (by simp [results, Tryz.results26, go_sem, g0, g1, g2, g3, g4, g5, g6, g7, g8, g9]) rfl ⟨rfl, HF.out _ _ _ _ _ _ _ _ _ _⟩
def sameB (x y : NodeV) : Bool := stB x y && (decide (x.data = y.data) && (decide (x.next = y.next) && decide (x.names = y.names)))
theorem sameB_iff {x y : NodeV} : sameB x y = true ↔ x = y := by
  unfold sameB stB
  obtain ⟨a1, a2, a3, a4, a5, a6, a7, a8, a9, a10⟩ := x
  obtain ⟨b1, b2, b3, b4, b5, b6, b7, b8, b9, b10⟩ := y
  simp only [Bool.and_eq_true, decide_eq_true_eq, NodeV.mk.injEq]
  constructor
  · rintro ⟨⟨h1, h2, h3, h4, h5, h6, h7⟩, h8, h9, h10⟩
    exact ⟨h1, h2, h3, h4, h5, h6, h7, h8, h9, h10⟩
  · rintro ⟨h1, h2, h3, h4, h5, h6, h7, h8, h9, h10⟩
    exact ⟨⟨h1, h2, h3, h4, h5, h6, h7⟩, h8, h9, h10⟩
instance : DecidableEq NodeV := fun _ _ => decidable_of_iff _ sameB_iff
def strB (l : List Bs) : List ByteArray := l.map fun b => ⟨b.toArray⟩
theorem strB_eq {a b : List Bs} : strB a = strB b ↔ a = b := by
  refine ⟨fun h => ?_, fun h => by rw [h]⟩
  have h2 := congrArg (List.map fun s : ByteArray => s.data.toList) h
  unfold strB at h2
  rw [List.map_map, List.map_map] at h2
  have e : ((fun s : ByteArray => s.data.toList) ∘ fun b : Bs => (⟨b.toArray⟩ : ByteArray)) = id := by
    funext b
    simp
  rwa [e, List.map_id, List.map_id] at h2
theorem nms_strs {w : World} {v : Value} {l : List Bs} (h : NmS w v l) : Strs w v (strB l) := by
  have h1 := h.1
  unfold Strs strB
  rw [List.map_map, List.length_map]
  exact h1
set_option maxHeartbeats 1600000 in
theorem refSame10_any (x y : NodeV) (vx vy : Value) (w : World) (hx : NmS w vx x.names) (hy : NmS w vy y.names) : Calls Tryz.prog 59 #[.agg (ndA x vx), .agg (ndA y vy)] w fun e w' => e = .returned (.bool (sameB x y)) ∧ Ext w w' := by
  obtain ⟨ax, cx, rfl, _⟩ := Sl.open hx.1
  obtain ⟨ay, cy, rfl, _⟩ := Sl.open hy.1
  obtain ⟨wA, hWA⟩ : ∃ wA, (w.alloc (.cells #[.int .i64 x.made, .int .i64 x.chg, .int .i64 x.ver, .int .i64 x.kids, .int .i64 x.own, .int .i64 x.len, .int .i64 x.cnt, .string x.data, .int .i64 x.next, .slice ax x.names.length cx] rnT)).alloc (.cells #[.int .i64 y.made, .int .i64 y.chg, .int .i64 y.ver, .int .i64 y.kids, .int .i64 y.own, .int .i64 y.len, .int .i64 y.cnt, .string y.data, .int .i64 y.next, .slice ay y.names.length cy] rnT) = wA := ⟨_, rfl⟩
  have hxA : Ext w wA := by rw [← hWA]; exact ((Kp.refl _ _).alloc _).alloc _
  have hA : Blk wA w.heap.size #[.int .i64 x.made, .int .i64 x.chg, .int .i64 x.ver, .int .i64 x.kids, .int .i64 x.own, .int .i64 x.len, .int .i64 x.cnt, .string x.data, .int .i64 x.next, .slice ax x.names.length cx] rnT := by
    rw [← hWA]
    exact Blk.kp (heap_alloc_new w _) ((Kp.refl (fun _ => False) _).alloc _) (fun f => f)
  have hB : Blk wA (w.heap.size + 1) #[.int .i64 y.made, .int .i64 y.chg, .int .i64 y.ver, .int .i64 y.kids, .int .i64 y.own, .int .i64 y.len, .int .i64 y.cnt, .string y.data, .int .i64 y.next, .slice ay y.names.length cy] rnT := by
    rw [← hWA]
    have := heap_alloc_new (w.alloc (.cells #[.int .i64 x.made, .int .i64 x.chg, .int .i64 x.ver, .int .i64 x.kids, .int .i64 x.own, .int .i64 x.len, .int .i64 x.cnt, .string x.data, .int .i64 x.next, .slice ax x.names.length cx] rnT)) (.cells #[.int .i64 y.made, .int .i64 y.chg, .int .i64 y.ver, .int .i64 y.kids, .int .i64 y.own, .int .i64 y.len, .int .i64 y.cnt, .string y.data, .int .i64 y.next, .slice ay y.names.length cy] rnT)
    rw [World.size_alloc] at this
    exact this
  have g0 := hA.cell 0 _ rfl
  have g1 := hA.cell 1 _ rfl
  have g2 := hA.cell 2 _ rfl
  have g3 := hA.cell 3 _ rfl
  have g4 := hA.cell 4 _ rfl
  have g5 := hA.cell 5 _ rfl
  have g6 := hA.cell 6 _ rfl
  have g7 := hA.cell 7 _ rfl
  have g8 := hA.cell 8 _ rfl
  have g9 := hA.cell 9 _ rfl
  have h0 := hB.cell 0 _ rfl
  have h1 := hB.cell 1 _ rfl
  have h2 := hB.cell 2 _ rfl
  have h3 := hB.cell 3 _ rfl
  have h4 := hB.cell 4 _ rfl
  have h5 := hB.cell 5 _ rfl
  have h6 := hB.cell 6 _ rfl
  have h7 := hB.cell 7 _ rfl
  have h8 := hB.cell 8 _ rfl
  have h9 := hB.cell 9 _ rfl
  have HS := Lib.hid (refSame_any (.slice ax x.names.length cx) (.slice ay y.names.length cy) (strB x.names) (strB y.names) wA (nms_strs ⟨Sl.ext hx.1 hxA, hx.2⟩) (nms_strs ⟨Sl.ext hy.1 hxA, hy.2⟩))
  have hst := stat_eql x y
  have hgd := stat_guard
  have e1 := str_eq x.data y.data
  have HX := Lib.hid hxA
  have HWA := Lib.hid hWA
  have HE : Hid (sameB x y = (stB x y && (decide (x.data = y.data) && (decide (x.next = y.next) && decide (x.names = y.names))))) := rfl
  clear hWA hxA hA hB hx hy
  unfold ndA
  unfold stA at hst
  generalize stB x y = b at hst HE
  generalize sameB x y = r at HE ⊢
  go_enter Tryz.func59, Tryz.ntmps59
  go_upto_region 1 with (fail)
  rw [HWA.out]
  cases b with
  | false =>
    go_wp2_with (fail)
    go_ret
    exact ⟨ret_bool (by rw [HE.out]; simp), HX.out⟩
  | true =>
    by_cases h1 : x.data = y.data
    · by_cases h2 : x.next = y.next
      · have h2b : (x.next == y.next) = true := by rw [h2]; simp
        go_wp2_with (fail)
        refine HS.out.mono ?_
        rintro e w1 ⟨rfl, hx1⟩
        go_wp2_with (fail)
        go_ret
        exact ⟨ret_bool (by rw [HE.out]; simp [h1, h2, strB_eq]), HX.out.trans hx1⟩
      · have h2b : (x.next == y.next) = false := by simpa using h2
        go_wp2_with (fail)
        go_ret
        exact ⟨ret_bool (by rw [HE.out]; simp [h2]), HX.out⟩
    · go_wp2_with (fail)
      go_ret
      exact ⟨ret_bool (by rw [HE.out]; simp [h1]), HX.out⟩
end Go.Proofs.YtjapjpigpakejaaGreatDoor
