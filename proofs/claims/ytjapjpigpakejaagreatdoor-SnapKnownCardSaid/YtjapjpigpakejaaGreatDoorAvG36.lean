/- Texts put together: AvRefT, AvWSame, AvDagRow. -/
import Derived.Test.YtjapjpigpakejaaGreatDoorAvG27
import Derived.Test.YtjapjpigpakejaaGreatDoorAvG26
import Derived.Test.YtjapjpigpakejaaGreatDoorAvG23
import Derived.Laws.StructEq
import Derived.Test.YtjapjpigpakejaaGreatDoorAvG28
import Derived.Maps.AppendAt

/- The reference's tree in memory: a block with a row of entries. -/
namespace Go.Proofs.YtjapjpigpakejaaGreatDoor
set_option maxRecDepth 100000
open Go.RowKit Av

abbrev entT : TypeId := 92
abbrev rtT : TypeId := 53
structure Ent where
  p : ByteArray
  n : NodeV
  nv : Value
def entC (e : Ent) : List Value := [.string e.p, .int .i64 e.n.made, .int .i64 e.n.chg, .int .i64 e.n.ver, .int .i64 e.n.kids, .int .i64 e.n.own, .int .i64 e.n.len, .int .i64 e.n.cnt, .string e.n.data, .int .i64 e.n.next, e.nv]
theorem entC_len (e : Ent) : (entC e).length = 11 := rfl
def entL (E : List Ent) : RL := E.map fun e => (e.p, e.n)
def EntOk (w : World) (e : Ent) : Prop := w.ownsRow 0 strT 1 e.nv e.n.names.length (e.n.names.map encStr)
/-- No block of strings is among those that are written. -/
def NoT (w : World) (S : Nat → Prop) (T : TypeId) : Prop := ∀ i, S i → ∀ cur f, w.heap[i]? ≠ some (.cells cur T f)
theorem own_type {w : World} {base k n : Nat} {e : TypeId} {v : Value} {xs : List Value} (h : w.ownsRow base e k v n xs) {i : Nat} (hi : v.ownBlock = some i) : ∃ cur f, w.heap[i]? = some (.cells cur e f) := by
  obtain ⟨_, ⟨rfl, _⟩ | ⟨q, c, cur, rfl, _, hg, _⟩⟩ := h
  · simp [Value.ownBlock] at hi
  · simp only [Value.ownBlock, Option.some.injEq] at hi
    subst hi
    exact ⟨cur, _, hg⟩
theorem owns_kpT {S : Nat → Prop} {w w' : World} {base k n : Nat} {e : TypeId} {v : Value} {xs : List Value} (h : w.ownsRow base e k v n xs) (x : Kp S w w') (hs : NoT w S e) : w'.ownsRow base e k v n xs :=
  ownsRow.kp h x (fun i hi hsi => by
    obtain ⟨cur, f, hc⟩ := own_type h hi
    exact hs i hsi cur f hc)
theorem EntOk.ext {w w' : World} {e : Ent} (h : EntOk w e) (k : Ext w w') : EntOk w' e := ownsRow.ext h k
theorem EntOk.kp {S : Nat → Prop} {w w' : World} {e : Ent} (h : EntOk w e) (k : Kp S w w') (hs : NoT w S strT) : EntOk w' e := owns_kpT h k hs
structure EntsR (w : World) (base : Nat) (v : Value) (E : List Ent) : Prop where
  row : w.ownsRow base entT 11 v E.length (E.flatMap entC)
  ok : ∀ e ∈ E, EntOk w e
theorem EntsR.ext {w w' : World} {base : Nat} {v : Value} {E : List Ent} (h : EntsR w base v E) (k : Ext w w') : EntsR w' base v E := ⟨ownsRow.ext h.row k, fun e he => (h.ok e he).ext k⟩
theorem EntsR.kp {S : Nat → Prop} {w w' : World} {base : Nat} {v : Value} {E : List Ent} (h : EntsR w base v E) (k : Kp S w w') (h1 : NoT w S strT) (h2 : NoT w S entT) : EntsR w' base v E :=
  ⟨owns_kpT h.row k h2, fun e he => (h.ok e he).kp k h1⟩
theorem EntsR.less {w : World} {base base' : Nat} {v : Value} {E : List Ent} (h : EntsR w base v E) (hb : base' ≤ base) : EntsR w base' v E := ⟨own_less h.row hb, h.ok⟩
/-- Each entry's cells. -/
theorem EntsR.at {w : World} {base : Nat} {v : Value} {E : List Ent} (h : EntsR w base v E) : ∃ a c, v = .slice a E.length c ∧ E.length ≤ maxLen ∧ (0 < E.length → ∃ b off, a = some ⟨b, off, none⟩ ∧ b < w.heap.size ∧ ∀ k (hk : k < E.length) i u, i < 11 → (entC E[k])[i]? = some u → w.cell? ⟨b, off + k * 11 + i, none⟩ = some u) := by
  obtain ⟨a, c, e, _, hm, hop⟩ := Sl.rows (f := entC) (K := 11) entC_len (Sl.of_owns h.row)
  refine ⟨a, c, e, hm, fun h0 => ?_⟩
  obtain ⟨b, off, e2, hb, hc⟩ := hop h0
  exact ⟨b, off, e2, hb, hc⟩
structure RefT (w : World) (base g : Nat) (room : Int) (L : RL) : Prop where
  low : base ≤ g
  ex : ∃ v E, entL E = L ∧ Blk w g #[.int .i64 room, v] rtT ∧ EntsR w base v E
theorem RefT.ext {w w' : World} {base g : Nat} {room : Int} {L : RL} (h : RefT w base g room L) (k : Ext w w') : RefT w' base g room L := by
  obtain ⟨v, E, h1, h2, h3⟩ := h.ex
  exact ⟨h.low, v, E, h1, h2.kp k (fun f => f), h3.ext k⟩
theorem RefT.kp {S : Nat → Prop} {w w' : World} {base g : Nat} {room : Int} {L : RL} (h : RefT w base g room L) (k : Kp S w w') (h1 : NoT w S strT) (h2 : NoT w S entT) (h3 : NoT w S rtT) : RefT w' base g room L := by
  obtain ⟨v, E, e1, e2, e3⟩ := h.ex
  exact ⟨h.low, v, E, e1, e2.kp k (fun hs => h3 g hs _ _ e2), e3.kp k h1 h2⟩
theorem RefT.less {w : World} {base base' g : Nat} {room : Int} {L : RL} (h : RefT w base g room L) (hb : base' ≤ base) : RefT w base' g room L := by
  obtain ⟨v, E, e1, e2, e3⟩ := h.ex
  exact ⟨Nat.le_trans hb h.low, v, E, e1, e2, e3.less hb⟩
/-- What a tree's calls write is of no other type than its own. -/
theorem TreeR.noT {w : World} {base b m : Nat} {room : Int} {t : Tr} (h : TreeR w base b m room t) {T : TypeId} (hT : T ≠ ndT) : NoT w (nodeFr m t) T := fun _ hi _ _ hc => hT (h.types hi hc)
end Go.Proofs.YtjapjpigpakejaaGreatDoor

/- Walks over the reference's nodes: nd, Same. -/
namespace Go.Proofs.YtjapjpigpakejaaGreatDoor
set_option maxRecDepth 100000
open Go.RowKit Av

abbrev rnT : TypeId := 59
abbrev stT : TypeId := 32
def stA (n : NodeV) : Array Value := #[.int .i64 n.made, .int .i64 n.chg, .int .i64 n.ver, .int .i64 n.kids, .int .i64 n.own, .int .i64 n.len, .int .i64 n.cnt]
def stB (x y : NodeV) : Bool := decide (x.made = y.made ∧ x.chg = y.chg ∧ x.ver = y.ver ∧ x.kids = y.kids ∧ x.own = y.own ∧ x.len = y.len ∧ x.cnt = y.cnt)
theorem stat_eql (x y : NodeV) (w : World) : (binOp .eql stT (.agg (stA x)) (.agg (stA y))).run Tryz.prog w = .ok (.bool (stB x y)) w := by
  have u3 := Tryz.underlying3
  have u2 := Tryz.underlying2
  have hS : Tryz.prog.underlying stT = some (.struct (Tryz.prog.fieldsOf stT)) := by kernel_rfl
  have hp : Tryz.prog.stoodInHeld stT = false := by kernel_rfl
  unfold stA stB
  rw [run_eql_struct, show (10000 : Nat) = 9999 + 1 from rfl, run_equalIn_agg w 9999 stT _ _ hS hp]
  simp only [Program.fieldsOf, Tryz.underlying32]
  go_simp
  by_cases h1 : x.made = y.made <;> by_cases h2 : x.chg = y.chg <;> by_cases h3 : x.ver = y.ver <;> by_cases h4 : x.kids = y.kids <;> by_cases h5 : x.own = y.own <;> by_cases h6 : x.len = y.len <;> by_cases h7 : x.cnt = y.cnt <;> simp [h1, h2, h3, h4, h5, h6, h7]
theorem stat_guard : Tryz.prog.eqGuardType Tryz.prog.depth stT = false := by kernel_rfl
set_option maxHeartbeats 1600000 in
theorem nd_any (n : NodeV) (a : Option Addr) (k c : Nat) (w : World) : Calls Tryz.prog 26 #[.agg (ndA n (.slice a k c))] w fun e w' => e = .returned (.agg (ndA n (.slice a k c))) ∧ Ext w w' := by
  obtain ⟨wA, hWA⟩ : ∃ wA, (w.alloc (.cells #[.int .i64 n.made, .int .i64 n.chg, .int .i64 n.ver, .int .i64 n.kids, .int .i64 n.own, .int .i64 n.len, .int .i64 n.cnt, .string n.data, .int .i64 n.next, .slice a k c] ndT)).alloc (.cells ndZA rnT) = wA := ⟨_, rfl⟩
  have hxA : Ext w wA := by rw [← hWA]; exact ((Kp.refl _ _).alloc _).alloc _
  have hA : Blk wA w.heap.size #[.int .i64 n.made, .int .i64 n.chg, .int .i64 n.ver, .int .i64 n.kids, .int .i64 n.own, .int .i64 n.len, .int .i64 n.cnt, .string n.data, .int .i64 n.next, .slice a k c] ndT := by
    rw [← hWA]
    exact Blk.kp (heap_alloc_new w _) ((Kp.refl (fun _ => False) _).alloc _) (fun f => f)
  have hB : Blk wA (w.heap.size + 1) ndZA rnT := by
    rw [← hWA]
    have := heap_alloc_new (w.alloc (.cells #[.int .i64 n.made, .int .i64 n.chg, .int .i64 n.ver, .int .i64 n.kids, .int .i64 n.own, .int .i64 n.len, .int .i64 n.cnt, .string n.data, .int .i64 n.next, .slice a k c] ndT)) (.cells ndZA rnT)
    rw [World.size_alloc] at this
    exact this
  have HF : Hid (∀ u0 u1 u2 u3 u4 u5 u6 u7 u8 u9, Ext w (set10 wA (w.heap.size + 1) u0 u1 u2 u3 u4 u5 u6 u7 u8 u9)) := fun u0 u1 u2 u3 u4 u5 u6 u7 u8 u9 => hxA.next (kp_set10 wA _ u0 u1 u2 u3 u4 u5 u6 u7 u8 u9) (fun i hi e => by omega)
  unfold ndZA at hB
  have h0 := hA.cell 0 _ rfl
  have h1 := hA.cell 1 _ rfl
  have h2 := hA.cell 2 _ rfl
  have h3 := hA.cell 3 _ rfl
  have h4 := hA.cell 4 _ rfl
  have h5 := hA.cell 5 _ rfl
  have h6 := hA.cell 6 _ rfl
  have h7 := hA.cell 7 _ rfl
  have h8 := hA.cell 8 _ rfl
  have h9 := hA.cell 9 _ rfl
  have g0 := hB.cell 0 _ rfl
  have g1 := hB.cell 1 _ rfl
  have g2 := hB.cell 2 _ rfl
  have g3 := hB.cell 3 _ rfl
  have g4 := hB.cell 4 _ rfl
  have g5 := hB.cell 5 _ rfl
  have g6 := hB.cell 6 _ rfl
  have g7 := hB.cell 7 _ rfl
  have g8 := hB.cell 8 _ rfl
  have g9 := hB.cell 9 _ rfl
  have fg0 := hB.free 0
  have fg1 := hB.free 1
  have fg2 := hB.free 2
  have fg3 := hB.free 3
  have fg4 := hB.free 4
  have fg5 := hB.free 5
  have fg6 := hB.free 6
  have fg7 := hB.free 7
  have fg8 := hB.free 8
  have fg9 := hB.free 9
  have HWA := Lib.hid hWA
  clear hWA hxA hA hB
  unfold ndA
  go_enter Tryz.func26, Tryz.ntmps26
  go_upto_region 1 with (fail)
  unfold ndZA at HWA
  rw [HWA.out]
  go_wp2_with (fail)
  go_light
  exact bodyPost_ret (v := .agg #[.int .i64 n.made, .int .i64 n.chg, .int .i64 n.ver, .int .i64 n.kids, .int .i64 n.own, .int .i64 n.len, .int .i64 n.cnt, .string n.data, .int .i64 n.next, .slice a k c]) (by simp [results, Tryz.results26, go_sem, g0, g1, g2, g3, g4, g5, g6, g7, g8, g9]) rfl ⟨rfl, HF.out _ _ _ _ _ _ _ _ _ _⟩
def sameB (x y : NodeV) : Bool := stB x y && (decide (x.data = y.data) && (decide (x.next = y.next) && decide (x.names = y.names)))
theorem sameB_iff {x y : NodeV} : sameB x y = true ↔ x = y := by
  unfold sameB stB
  obtain ⟨a1, a2, a3, a4, a5, a6, a7, a8, a9, a10⟩ := x
  obtain ⟨b1, b2, b3, b4, b5, b6, b7, b8, b9, b10⟩ := y
  simp only [Bool.and_eq_true, decide_eq_true_eq, NodeV.mk.injEq]
  constructor
  · rintro ⟨⟨h1, h2, h3, h4, h5, h6, h7⟩, h8, h9, h10⟩
    exact ⟨h1, h2, h3, h4, h5, h6, h7, h8, h9, h10⟩
  · rintro ⟨h1, h2, h3, h4, h5, h6, h7, h8, h9, h10⟩
    exact ⟨⟨h1, h2, h3, h4, h5, h6, h7⟩, h8, h9, h10⟩
instance : DecidableEq NodeV := fun _ _ => decidable_of_iff _ sameB_iff
def strB (l : List Bs) : List ByteArray := l.map fun b => ⟨b.toArray⟩
theorem strB_eq {a b : List Bs} : strB a = strB b ↔ a = b := by
  refine ⟨fun h => ?_, fun h => by rw [h]⟩
  have h2 := congrArg (List.map fun s : ByteArray => s.data.toList) h
  unfold strB at h2
  rw [List.map_map, List.map_map] at h2
  have e : ((fun s : ByteArray => s.data.toList) ∘ fun b : Bs => (⟨b.toArray⟩ : ByteArray)) = id := by
    funext b
    simp
  rwa [e, List.map_id, List.map_id] at h2
theorem nms_strs {w : World} {v : Value} {l : List Bs} (h : NmS w v l) : Strs w v (strB l) := by
  have h1 := h.1
  unfold Strs strB
  rw [List.map_map, List.length_map]
  exact h1
set_option maxHeartbeats 1600000 in
theorem refSame10_any (x y : NodeV) (vx vy : Value) (w : World) (hx : NmS w vx x.names) (hy : NmS w vy y.names) : Calls Tryz.prog 59 #[.agg (ndA x vx), .agg (ndA y vy)] w fun e w' => e = .returned (.bool (sameB x y)) ∧ Ext w w' := by
  obtain ⟨ax, cx, rfl, _⟩ := Sl.open hx.1
  obtain ⟨ay, cy, rfl, _⟩ := Sl.open hy.1
  obtain ⟨wA, hWA⟩ : ∃ wA, (w.alloc (.cells #[.int .i64 x.made, .int .i64 x.chg, .int .i64 x.ver, .int .i64 x.kids, .int .i64 x.own, .int .i64 x.len, .int .i64 x.cnt, .string x.data, .int .i64 x.next, .slice ax x.names.length cx] rnT)).alloc (.cells #[.int .i64 y.made, .int .i64 y.chg, .int .i64 y.ver, .int .i64 y.kids, .int .i64 y.own, .int .i64 y.len, .int .i64 y.cnt, .string y.data, .int .i64 y.next, .slice ay y.names.length cy] rnT) = wA := ⟨_, rfl⟩
  have hxA : Ext w wA := by rw [← hWA]; exact ((Kp.refl _ _).alloc _).alloc _
  have hA : Blk wA w.heap.size #[.int .i64 x.made, .int .i64 x.chg, .int .i64 x.ver, .int .i64 x.kids, .int .i64 x.own, .int .i64 x.len, .int .i64 x.cnt, .string x.data, .int .i64 x.next, .slice ax x.names.length cx] rnT := by
    rw [← hWA]
    exact Blk.kp (heap_alloc_new w _) ((Kp.refl (fun _ => False) _).alloc _) (fun f => f)
  have hB : Blk wA (w.heap.size + 1) #[.int .i64 y.made, .int .i64 y.chg, .int .i64 y.ver, .int .i64 y.kids, .int .i64 y.own, .int .i64 y.len, .int .i64 y.cnt, .string y.data, .int .i64 y.next, .slice ay y.names.length cy] rnT := by
    rw [← hWA]
    have := heap_alloc_new (w.alloc (.cells #[.int .i64 x.made, .int .i64 x.chg, .int .i64 x.ver, .int .i64 x.kids, .int .i64 x.own, .int .i64 x.len, .int .i64 x.cnt, .string x.data, .int .i64 x.next, .slice ax x.names.length cx] rnT)) (.cells #[.int .i64 y.made, .int .i64 y.chg, .int .i64 y.ver, .int .i64 y.kids, .int .i64 y.own, .int .i64 y.len, .int .i64 y.cnt, .string y.data, .int .i64 y.next, .slice ay y.names.length cy] rnT)
    rw [World.size_alloc] at this
    exact this
  have g0 := hA.cell 0 _ rfl
  have g1 := hA.cell 1 _ rfl
  have g2 := hA.cell 2 _ rfl
  have g3 := hA.cell 3 _ rfl
  have g4 := hA.cell 4 _ rfl
  have g5 := hA.cell 5 _ rfl
  have g6 := hA.cell 6 _ rfl
  have g7 := hA.cell 7 _ rfl
  have g8 := hA.cell 8 _ rfl
  have g9 := hA.cell 9 _ rfl
  have h0 := hB.cell 0 _ rfl
  have h1 := hB.cell 1 _ rfl
  have h2 := hB.cell 2 _ rfl
  have h3 := hB.cell 3 _ rfl
  have h4 := hB.cell 4 _ rfl
  have h5 := hB.cell 5 _ rfl
  have h6 := hB.cell 6 _ rfl
  have h7 := hB.cell 7 _ rfl
  have h8 := hB.cell 8 _ rfl
  have h9 := hB.cell 9 _ rfl
  have HS := Lib.hid (refSame_any (.slice ax x.names.length cx) (.slice ay y.names.length cy) (strB x.names) (strB y.names) wA (nms_strs ⟨Sl.ext hx.1 hxA, hx.2⟩) (nms_strs ⟨Sl.ext hy.1 hxA, hy.2⟩))
  have hst := stat_eql x y
  have hgd := stat_guard
  have e1 := str_eq x.data y.data
  have HX := Lib.hid hxA
  have HWA := Lib.hid hWA
  have HE : Hid (sameB x y = (stB x y && (decide (x.data = y.data) && (decide (x.next = y.next) && decide (x.names = y.names))))) := rfl
  clear hWA hxA hA hB hx hy
  unfold ndA
  unfold stA at hst
  generalize stB x y = b at hst HE
  generalize sameB x y = r at HE ⊢
  go_enter Tryz.func59, Tryz.ntmps59
  go_upto_region 1 with (fail)
  rw [HWA.out]
  cases b with
  | false =>
    go_wp2_with (fail)
    go_ret
    exact ⟨ret_bool (by rw [HE.out]; simp), HX.out⟩
  | true =>
    by_cases h1 : x.data = y.data
    · by_cases h2 : x.next = y.next
      · have h2b : (x.next == y.next) = true := by rw [h2]; simp
        go_wp2_with (fail)
        refine HS.out.mono ?_
        rintro e w1 ⟨rfl, hx1⟩
        go_wp2_with (fail)
        go_ret
        exact ⟨ret_bool (by rw [HE.out]; simp [h1, h2, strB_eq]), HX.out.trans hx1⟩
      · have h2b : (x.next == y.next) = false := by simpa using h2
        go_wp2_with (fail)
        go_ret
        exact ⟨ret_bool (by rw [HE.out]; simp [h2]), HX.out⟩
    · go_wp2_with (fail)
      go_ret
      exact ⟨ret_bool (by rw [HE.out]; simp [h1]), HX.out⟩
end Go.Proofs.YtjapjpigpakejaaGreatDoor

/- Appends, in a region that draws its order, to a row that was there. No program. -/
namespace Av
set_option maxRecDepth 100000
open Go Go.RowKit
/-- From base on anything; of the row v its spare places alone. -/
def Rr (base : Nat) (e : TypeId) (k : Nat) (v : Value) (n : Nat) (xs : List Value) (a b : World) : Prop :=
  Kp (fun i => base ≤ i ∨ v.ownBlock = some i) a b ∧ (a.ownsRow 0 e k v n xs → b.ownsRow 0 e k v n xs)
section
variable {base : Nat} {e : TypeId} {k : Nat} {v : Value} {n : Nat} {xs : List Value}
theorem Rr.refl (w : World) : Rr base e k v n xs w w := ⟨Kp.refl _ _, fun h => h⟩
theorem Rr.trans {a b c : World} (h : Rr base e k v n xs a b) (g : Rr base e k v n xs b c) : Rr base e k v n xs a c := ⟨h.1.trans g.1, fun x => g.2 (h.2 x)⟩
theorem Rr.ext {a b : World} (h : Ext a b) : Rr base e k v n xs a b := ⟨Ext.kp h, fun x => ownsRow.ext x h⟩
end
theorem append_keeps {P : Program} (w : World) (t ty e : TypeId) (i : TypeInfo) (z : Value) (ht : P.underlying t = some (.slice e)) (hi : P.info? e = some i) (hz : i.zero = some z)
    (v : Value) (n : Nat) (xs : List Value) (hown : w.ownsRow 0 e i.size v n xs) (ad : Addr) (m c : Nat) (news : List Value) (hl : news.length = m * i.size) (hnews : ∀ j u, news[j]? = some u → w.cell? (ad.add j) = some u) (h1 : ∀ u ∈ news, u.oneCell' = true)
    (h63 : n + m ≤ maxLen) (hbytes : (n + m) * i.bytes ≤ 140737488355328) {v' : Value} {w' : World} (hr : (Builtin.append_ #[t, t] ty #[v, .slice (some ad) m c]).run P w = .ok v' w') : w'.ownsRow 0 e i.size v n xs := by
  rcases hown.2 with ⟨rfl, rfl⟩ | ⟨g, cap, cur, rfl, hbg, hg, hnc, hcm, hcs, htake⟩
  · exact ⟨hown.1, .inl ⟨rfl, rfl⟩⟩
  · by_cases hroom : n + m ≤ cap
    · have hfit : n * i.size + news.length ≤ cur.size := by rw [hl, hcs, ← Nat.add_mul]; exact Nat.mul_le_mul_right _ hroom
      have hr2 := run_append_room (P := P) w t ty e i ht hi g n cap cur hg ad m c news hl hnews h1 hroom hfit
      rw [hr2] at hr
      simp only [Result.ok.injEq] at hr
      rw [← hr.2]
      have hlt : (cur.toList.take (n * i.size)).length = n * i.size := by rw [htake]; exact hown.1
      refine ⟨hown.1, .inr ⟨g, cap, _, rfl, hbg, setRow_heap w g cur _ e _ hg, hnc, hcm, ?_, ?_⟩⟩
      · simp only [List.size_toArray, List.length_append, List.length_take, List.length_drop, Array.length_toList]
        omega
      · rw [List.append_assoc, List.take_append_of_le_length (by rw [hlt]; exact Nat.le_refl _), List.take_of_length_le (by rw [hlt]; exact Nat.le_refl _)]
        exact htake
    · have holds : ∀ j u, xs[j]? = some u → w.cell? ((⟨g, 0, none⟩ : Addr).add j) = some u := hown.cells (g := g) rfl
      have hr2 := run_append_grow (P := P) w t ty e i z ht hi hz ⟨g, 0, none⟩ n cap xs hown.1 holds ad m c news hl hnews (by omega) (by unfold maxLen at h63; omega) (growslice_fits (by omega) hbytes)
      rw [hr2] at hr
      simp only [Result.ok.injEq] at hr
      rw [← hr.2]
      exact ownsRow.ext hown ((Kp.refl _ _).drew.alloc _)
theorem dUpon_appR {P : Program} {o : Oper} {a : Act} {w : World} {K : Value → World → Prop} {d : Tmp} (hd : o.dst = .some d) (hlt : decide (d < a.tmps.size) = true) (t e : TypeId) (k : Nat) (hk : 0 < k) (hfacts : ElemOk P t e k)
    (hgd : o.guard = none) (s x : Operand) (ho : o.op = .call { callee := .builtin .append, args := #[s, x], argTypes := #[t, t] })
    (v : Value) (n : Nat) (xs : List Value) (hs : a.eval s = v) (hown : w.ownsRow 0 e k v n xs)
    (u : Value) (m : Nat) (ys : List Value) (hx : a.eval x = u) (base : Nat) (hu : BoxL base e m ys u w) (hl : ys.length = m * k) (hone : ∀ y ∈ ys, y.oneCell' = true) (hn : n + m ≤ 1000000)
    (h : ∀ v' w', w'.ownsRow 0 e k v' (n + m) (xs ++ ys) → w.grownBy w' v.ownBlock → w'.ownsRow 0 e k v n xs → (v'.ownBlock = v.ownBlock ∨ v'.ownBlock = some w.heap.size) → K v' w') : DUpon P K ((execOp a.eval o).run P w) := by
  obtain ⟨ht, hi⟩ := hfacts
  cases hie : P.info? e with
  | none => simp [hie] at hi
  | some i =>
    simp only [hie, Option.map_some, Option.some.injEq, Prod.mk.injEq, decide_eq_true_eq] at hi
    obtain ⟨hz, hsz, hby⟩ := hi
    cases hze : i.zero with
    | none => simp [hze] at hz
    | some z =>
      simp only [hze, Option.map_some, Option.some.injEq] at hz
      subst hsz
      obtain ⟨g, hg, rfl, hblk⟩ := hu
      have hnews : ∀ j q, ys[j]? = some q → w.cell? ((⟨g, 0, none⟩ : Addr).add j) = some q := by
        intro j q hj
        rw [show (⟨g, 0, none⟩ : Addr).add j = ⟨g, j, none⟩ by by_cases h : j = 0 <;> simp [Addr.add, h]]
        exact Blk.cell hblk j q (by simpa using hj)
      have hnb : (n + m) * i.bytes ≤ 140737488355328 := by
        have := Nat.mul_le_mul hn hby
        omega
      obtain ⟨v', w', hr, h2, h3, _, h4⟩ := run_append_own_at (P := P) w 0 t o.type e i z i.size i.bytes ht hie hze rfl rfl hz hk v n xs hown ⟨g, 0, none⟩ m m ys hl hnews hone (by unfold maxLen; omega) hnb (Nat.zero_le _)
      have h5 := append_keeps w t o.type e i z ht hie hze v n xs hown ⟨g, 0, none⟩ m m ys hl hnews hone (by unfold maxLen; omega) hnb hr
      refine DUpon.of_list (ops := #[]) hd (of_decide_eq_true hlt) hgd ?_
      refine wpList_plain hgd fun _ hK => ?_
      unfold Oper.wp execOp
      simp only [ho, resolve, invoke, builtin, Sem.run_bind, Sem.run_pure, Result.andThen_ok, List.map_toArray, List.map_cons, List.map_nil, hs, hx, hr]
      exact hK _ _ ⟨rfl, v', rfl, h v' w' h2 h3 h5 h4⟩
/-- A region in which a row that was there is appended to. -/
theorem wp_region_dagQ (base : Nat) (e : TypeId) (ke : Nat) (v : Value) (m : Nat) (xs : List Value) {P : Program} {id : Nat} {Q : Exit → Act → World → Prop} {a : Act} {w : World} {l : List Oper} (n : Nat) (C : List (Tmp × List Tmp × List Tmp)) (S : List (Tmp × TSpec)) (hst : Stab (fun a b => Ext a b) S) (hm : P.follows .mixedOrders = true) (hB : dagB .any l.toArray C n = true) (hsz : dstB l.toArray a.tmps.size = true)
    (h : WpD P l.toArray (fun a b => Ext a b) (fun a b => Rr base e ke v m xs a b) w S C (fun a' => ∀ w', Rr base e ke v m xs w w' → Ends l.toArray S C n a' w' → wpList P l.toArray Q (l.drop n) a' w') (l.take n) 0 a) : (Code.region id l.toArray true).wp P Q a w :=
  wp_region_dagR n S C (fun a b => Rr base e ke v m xs a b) (fun w => Rr.refl w) (fun _ _ _ h k => h.trans k) (Rr.ext (Kp.refl _ w).drew) hm hB hsz (h.out hst (fun _ _ h => Rr.ext h))
/-- An append of a literal just laid, and where the new slice lies. -/
theorem wpList_appAt {P : Program} {ops : Array Oper} {rest : List Oper} {o : Oper} {a : Act} {Q : Exit → Act → World → Prop} {w : World} (t e : TypeId) (k : Nat) (hk : 0 < k) (hfacts : ElemOk P t e k)
    (hgd : o.guard = none) (s x : Operand) (ho : o.op = .call { callee := .builtin .append, args := #[s, x], argTypes := #[t, t] })
    (base : Nat) (v : Value) (n : Nat) (xs : List Value) (hs : a.eval s = v) (hown : w.ownsRow base e k v n xs)
    (g m : Nat) (ys : List Value) (hx : a.eval x = .slice (some ⟨g, 0, none⟩) m m) (hblk : w.heap[g]? = some (.cells ys.toArray e (0, 0))) (hl : ys.length = m * k) (hone : ∀ y ∈ ys, y.oneCell' = true) (hn : n + m ≤ 1000000) (hbase : base ≤ w.heap.size)
    (h : ∀ v' w', w'.ownsRow base e k v' (n + m) (xs ++ ys) → Kp (fun k => v.ownBlock = some k) w w' → (v'.ownBlock = v.ownBlock ∨ v'.ownBlock = some w.heap.size) → wpList P ops Q rest (a.put o.dst v') w') : wpList P ops Q (o :: rest) a w := by
  obtain ⟨ht, hi⟩ := hfacts
  cases hie : P.info? e with
  | none => simp [hie] at hi
  | some i =>
    simp only [hie, Option.map_some, Option.some.injEq, Prod.mk.injEq, decide_eq_true_eq] at hi
    obtain ⟨hz, hsz, hby⟩ := hi
    cases hze : i.zero with
    | none => simp [hze] at hz
    | some z =>
      simp only [hze, Option.map_some, Option.some.injEq] at hz
      subst hsz
      have hnews : ∀ j q, ys[j]? = some q → w.cell? ((⟨g, 0, none⟩ : Addr).add j) = some q := by
        intro j q hj
        rw [show (⟨g, 0, none⟩ : Addr).add j = ⟨g, j, none⟩ by by_cases h : j = 0 <;> simp [Addr.add, h]]
        exact Blk.cell hblk j q (by simpa using hj)
      have hnb : (n + m) * i.bytes ≤ 140737488355328 := by
        have := Nat.mul_le_mul hn hby
        omega
      obtain ⟨v', w', hr, h2, h3, _, h4⟩ := run_append_own_at (P := P) w base t o.type e i z i.size i.bytes ht hie hze rfl rfl hz hk v n xs hown ⟨g, 0, none⟩ m m ys hl hnews hone (by unfold maxLen; omega) hnb hbase
      refine wpList_plain hgd fun _ hK => ?_
      unfold Oper.wp execOp
      simp only [ho, resolve, invoke, builtin, Sem.run_bind, Sem.run_pure, Result.andThen_ok, List.map_toArray, List.map_cons, List.map_nil, hs, hx, hr]
      exact hK _ _ (h v' w' h2 ((Kp.refl _ w).grown h3 (fun k hk _ => hk)) h4)
end Av
