/- Texts put together: AvRefT, AvWSame, AvRefP, AvCut. -/
import Derived.Test.YtdagikbdpeblhaaGreatDoorAvG21
import Derived.Test.YtdagikbdpeblhaaGreatDoorAvG18
import Derived.Laws.StructEq
import Derived.Test.YtdagikbdpeblhaaGreatDoorAvHDag
import Derived.Test.YtdagikbdpeblhaaGreatDoorAvG13
import Derived.Test.YtdagikbdpeblhaaGreatDoorAvG2

/- The reference's tree in memory: a block with a row of entries. -/
namespace Go.Proofs.YtdagikbdpeblhaaGreatDoor
set_option maxRecDepth 100000
open Go.RowKit Av

abbrev entT : TypeId := 111
abbrev rtT : TypeId := 31
structure Ent where
  p : ByteArray
  n : NodeV
  nv : Value
def entC (e : Ent) : List Value := [.string e.p, .int .i64 e.n.made, .int .i64 e.n.chg, .int .i64 e.n.ver, .int .i64 e.n.kids, .int .i64 e.n.own, .int .i64 e.n.len, .int .i64 e.n.cnt, .string e.n.data, .int .i64 e.n.next, e.nv]
theorem entC_len (e : Ent) : (entC e).length = 11 := rfl
def entL (E : List Ent) : RL := E.map fun e => (e.p, e.n)
def EntOk (w : World) (e : Ent) : Prop := w.ownsRow 0 strT 1 e.nv e.n.names.length (e.n.names.map encStr)
/-- No block of strings is among those that are written. -/
def NoT (w : World) (S : Nat → Prop) (T : TypeId) : Prop := ∀ i, S i → ∀ cur f, w.heap[i]? ≠ some (.cells cur T f)
theorem own_type {w : World} {base k n : Nat} {e : TypeId} {v : Value} {xs : List Value} (h : w.ownsRow base e k v n xs) {i : Nat} (hi : v.ownBlock = some i) : ∃ cur f, w.heap[i]? = some (.cells cur e f) := by
  obtain ⟨_, ⟨rfl, _⟩ | ⟨q, c, cur, rfl, _, hg, _⟩⟩ := h
  · simp [Value.ownBlock] at hi
  · simp only [Value.ownBlock, Option.some.injEq] at hi
    subst hi
    exact ⟨cur, _, hg⟩
theorem owns_kpT {S : Nat → Prop} {w w' : World} {base k n : Nat} {e : TypeId} {v : Value} {xs : List Value} (h : w.ownsRow base e k v n xs) (x : Kp S w w') (hs : NoT w S e) : w'.ownsRow base e k v n xs :=
  ownsRow.kp h x (fun i hi hsi => by
    obtain ⟨cur, f, hc⟩ := own_type h hi
    exact hs i hsi cur f hc)
theorem EntOk.ext {w w' : World} {e : Ent} (h : EntOk w e) (k : Ext w w') : EntOk w' e := ownsRow.ext h k
theorem EntOk.kp {S : Nat → Prop} {w w' : World} {e : Ent} (h : EntOk w e) (k : Kp S w w') (hs : NoT w S strT) : EntOk w' e := owns_kpT h k hs
structure EntsR (w : World) (base : Nat) (v : Value) (E : List Ent) : Prop where
  row : w.ownsRow base entT 11 v E.length (E.flatMap entC)
  ok : ∀ e ∈ E, EntOk w e
theorem EntsR.ext {w w' : World} {base : Nat} {v : Value} {E : List Ent} (h : EntsR w base v E) (k : Ext w w') : EntsR w' base v E := ⟨ownsRow.ext h.row k, fun e he => (h.ok e he).ext k⟩
theorem EntsR.kp {S : Nat → Prop} {w w' : World} {base : Nat} {v : Value} {E : List Ent} (h : EntsR w base v E) (k : Kp S w w') (h1 : NoT w S strT) (h2 : NoT w S entT) : EntsR w' base v E :=
  ⟨owns_kpT h.row k h2, fun e he => (h.ok e he).kp k h1⟩
theorem EntsR.less {w : World} {base base' : Nat} {v : Value} {E : List Ent} (h : EntsR w base v E) (hb : base' ≤ base) : EntsR w base' v E := ⟨own_less h.row hb, h.ok⟩
/-- Each entry's cells. -/
theorem EntsR.at {w : World} {base : Nat} {v : Value} {E : List Ent} (h : EntsR w base v E) : ∃ a c, v = .slice a E.length c ∧ E.length ≤ maxLen ∧ (0 < E.length → ∃ b off, a = some ⟨b, off, none⟩ ∧ b < w.heap.size ∧ ∀ k (hk : k < E.length) i u, i < 11 → (entC E[k])[i]? = some u → w.cell? ⟨b, off + k * 11 + i, none⟩ = some u) := by
  obtain ⟨a, c, e, _, hm, hop⟩ := Sl.rows (f := entC) (K := 11) entC_len (Sl.of_owns h.row)
  refine ⟨a, c, e, hm, fun h0 => ?_⟩
  obtain ⟨b, off, e2, hb, hc⟩ := hop h0
  exact ⟨b, off, e2, hb, hc⟩
structure RefT (w : World) (base g : Nat) (room : Int) (L : RL) : Prop where
  low : base ≤ g
  ex : ∃ v E, entL E = L ∧ Blk w g #[.int .i64 room, v] rtT ∧ EntsR w base v E
theorem RefT.ext {w w' : World} {base g : Nat} {room : Int} {L : RL} (h : RefT w base g room L) (k : Ext w w') : RefT w' base g room L := by
  obtain ⟨v, E, h1, h2, h3⟩ := h.ex
  exact ⟨h.low, v, E, h1, h2.kp k (fun f => f), h3.ext k⟩
theorem RefT.kp {S : Nat → Prop} {w w' : World} {base g : Nat} {room : Int} {L : RL} (h : RefT w base g room L) (k : Kp S w w') (h1 : NoT w S strT) (h2 : NoT w S entT) (h3 : NoT w S rtT) : RefT w' base g room L := by
  obtain ⟨v, E, e1, e2, e3⟩ := h.ex
  exact ⟨h.low, v, E, e1, e2.kp k (fun hs => h3 g hs _ _ e2), e3.kp k h1 h2⟩
theorem RefT.less {w : World} {base base' g : Nat} {room : Int} {L : RL} (h : RefT w base g room L) (hb : base' ≤ base) : RefT w base' g room L := by
  obtain ⟨v, E, e1, e2, e3⟩ := h.ex
  exact ⟨Nat.le_trans hb h.low, v, E, e1, e2, e3.less hb⟩
/-- What a tree's calls write is of no other type than its own. -/
theorem TreeR.noT {w : World} {base b m : Nat} {room : Int} {t : Tr} (h : TreeR w base b m room t) {T : TypeId} (hT : T ≠ ndT) : NoT w (nodeFr m t) T := fun _ hi _ _ hc => hT (h.types hi hc)
end Go.Proofs.YtdagikbdpeblhaaGreatDoor

/- Walks over the reference's nodes: nd, Same. -/
namespace Go.Proofs.YtdagikbdpeblhaaGreatDoor
set_option maxRecDepth 100000
open Go.RowKit Av

abbrev rnT : TypeId := 50
abbrev stT : TypeId := 35
def stA (n : NodeV) : Array Value := #[.int .i64 n.made, .int .i64 n.chg, .int .i64 n.ver, .int .i64 n.kids, .int .i64 n.own, .int .i64 n.len, .int .i64 n.cnt]
def stB (x y : NodeV) : Bool := decide (x.made = y.made ∧ x.chg = y.chg ∧ x.ver = y.ver ∧ x.kids = y.kids ∧ x.own = y.own ∧ x.len = y.len ∧ x.cnt = y.cnt)
theorem stat_eql (x y : NodeV) (w : World) : (binOp .eql stT (.agg (stA x)) (.agg (stA y))).run Tryz.prog w = .ok (.bool (stB x y)) w := by
  have u3 := Tryz.underlying3
  have u2 := Tryz.underlying2
  have hS : Tryz.prog.underlying stT = some (.struct (Tryz.prog.fieldsOf stT)) := by kernel_rfl
  have hp : Tryz.prog.stoodInHeld stT = false := by kernel_rfl
  unfold stA stB
  rw [run_eql_struct, show (10000 : Nat) = 9999 + 1 from rfl, run_equalIn_agg w 9999 stT _ _ hS hp]
  simp only [Program.fieldsOf, Tryz.underlying35]
  go_simp
  by_cases h1 : x.made = y.made <;> by_cases h2 : x.chg = y.chg <;> by_cases h3 : x.ver = y.ver <;> by_cases h4 : x.kids = y.kids <;> by_cases h5 : x.own = y.own <;> by_cases h6 : x.len = y.len <;> by_cases h7 : x.cnt = y.cnt <;> simp [h1, h2, h3, h4, h5, h6, h7]
theorem stat_guard : Tryz.prog.eqGuardType Tryz.prog.depth stT = false := by kernel_rfl
set_option maxHeartbeats 1600000 in
theorem nd_any (n : NodeV) (a : Option Addr) (k c : Nat) (w : World) : Calls Tryz.prog 15 #[.agg (ndA n (.slice a k c))] w fun e w' => e = .returned (.agg (ndA n (.slice a k c))) ∧ Ext w w' := by
  obtain ⟨wA, hWA⟩ : ∃ wA, (w.alloc (.cells #[.int .i64 n.made, .int .i64 n.chg, .int .i64 n.ver, .int .i64 n.kids, .int .i64 n.own, .int .i64 n.len, .int .i64 n.cnt, .string n.data, .int .i64 n.next, .slice a k c] ndT)).alloc (.cells ndZA rnT) = wA := ⟨_, rfl⟩
  have hxA : Ext w wA := by rw [← hWA]; exact ((Kp.refl _ _).alloc _).alloc _
  have hA : Blk wA w.heap.size #[.int .i64 n.made, .int .i64 n.chg, .int .i64 n.ver, .int .i64 n.kids, .int .i64 n.own, .int .i64 n.len, .int .i64 n.cnt, .string n.data, .int .i64 n.next, .slice a k c] ndT := by
    rw [← hWA]
    exact Blk.kp (heap_alloc_new w _) ((Kp.refl (fun _ => False) _).alloc _) (fun f => f)
  have hB : Blk wA (w.heap.size + 1) ndZA rnT := by
    rw [← hWA]
    have := heap_alloc_new (w.alloc (.cells #[.int .i64 n.made, .int .i64 n.chg, .int .i64 n.ver, .int .i64 n.kids, .int .i64 n.own, .int .i64 n.len, .int .i64 n.cnt, .string n.data, .int .i64 n.next, .slice a k c] ndT)) (.cells ndZA rnT)
    rw [World.size_alloc] at this
    exact this
  have HF : Hid (∀ u0 u1 u2 u3 u4 u5 u6 u7 u8 u9, Ext w (set10 wA (w.heap.size + 1) u0 u1 u2 u3 u4 u5 u6 u7 u8 u9)) := fun u0 u1 u2 u3 u4 u5 u6 u7 u8 u9 => hxA.next (kp_set10 wA _ u0 u1 u2 u3 u4 u5 u6 u7 u8 u9) (fun i hi e => by omega)
  unfold ndZA at hB
  have h0 := hA.cell 0 _ rfl
  have h1 := hA.cell 1 _ rfl
  have h2 := hA.cell 2 _ rfl
  have h3 := hA.cell 3 _ rfl
  have h4 := hA.cell 4 _ rfl
  have h5 := hA.cell 5 _ rfl
  have h6 := hA.cell 6 _ rfl
  have h7 := hA.cell 7 _ rfl
  have h8 := hA.cell 8 _ rfl
  have h9 := hA.cell 9 _ rfl
  have g0 := hB.cell 0 _ rfl
  have g1 := hB.cell 1 _ rfl
  have g2 := hB.cell 2 _ rfl
  have g3 := hB.cell 3 _ rfl
  have g4 := hB.cell 4 _ rfl
  have g5 := hB.cell 5 _ rfl
  have g6 := hB.cell 6 _ rfl
  have g7 := hB.cell 7 _ rfl
  have g8 := hB.cell 8 _ rfl
  have g9 := hB.cell 9 _ rfl
  have fg0 := hB.free 0
  have fg1 := hB.free 1
  have fg2 := hB.free 2
  have fg3 := hB.free 3
  have fg4 := hB.free 4
  have fg5 := hB.free 5
  have fg6 := hB.free 6
  have fg7 := hB.free 7
  have fg8 := hB.free 8
  have fg9 := hB.free 9
  have HWA := Lib.hid hWA
  clear hWA hxA hA hB
  unfold ndA
  go_enter Tryz.func15, Tryz.ntmps15
  go_upto_region 1 with (fail)
  unfold ndZA at HWA
  rw [HWA.out]
  go_wp2_with (fail)
  go_light
  exact bodyPost_ret (v := .agg #[.int .i64 n.made, .int .i64 n.chg, .int .i64 n.ver, .int .i64 n.kids, .int .i64 n.own, .int .i64 n.len, .int .i64 n.cnt, .string n.data, .int .i64 n.next, .slice a k c]) (by simp [results, Tryz.results15, go_sem, g0, g1, g2, g3, g4, g5, g6, g7, g8, g9]) rfl ⟨rfl, HF.out _ _ _ _ _ _ _ _ _ _⟩
def sameB (x y : NodeV) : Bool := stB x y && (decide (x.data = y.data) && (decide (x.next = y.next) && decide (x.names = y.names)))
theorem sameB_iff {x y : NodeV} : sameB x y = true ↔ x = y := by
  unfold sameB stB
  obtain ⟨a1, a2, a3, a4, a5, a6, a7, a8, a9, a10⟩ := x
  obtain ⟨b1, b2, b3, b4, b5, b6, b7, b8, b9, b10⟩ := y
  simp only [Bool.and_eq_true, decide_eq_true_eq, NodeV.mk.injEq]
  constructor
  · rintro ⟨⟨h1, h2, h3, h4, h5, h6, h7⟩, h8, h9, h10⟩
    exact ⟨h1, h2, h3, h4, h5, h6, h7, h8, h9, h10⟩
  · rintro ⟨h1, h2, h3, h4, h5, h6, h7, h8, h9, h10⟩
    exact ⟨⟨h1, h2, h3, h4, h5, h6, h7⟩, h8, h9, h10⟩
instance : DecidableEq NodeV := fun _ _ => decidable_of_iff _ sameB_iff
def strB (l : List Bs) : List ByteArray := l.map fun b => ⟨b.toArray⟩
theorem strB_eq {a b : List Bs} : strB a = strB b ↔ a = b := by
  refine ⟨fun h => ?_, fun h => by rw [h]⟩
  have h2 := congrArg (List.map fun s : ByteArray => s.data.toList) h
  unfold strB at h2
  rw [List.map_map, List.map_map] at h2
  have e : ((fun s : ByteArray => s.data.toList) ∘ fun b : Bs => (⟨b.toArray⟩ : ByteArray)) = id := by
    funext b
    simp
  rwa [e, List.map_id, List.map_id] at h2
theorem nms_strs {w : World} {v : Value} {l : List Bs} (h : NmS w v l) : Strs w v (strB l) := by
  have h1 := h.1
  unfold Strs strB
  rw [List.map_map, List.length_map]
  exact h1
set_option maxHeartbeats 1600000 in
theorem refSame10_any (x y : NodeV) (vx vy : Value) (w : World) (hx : NmS w vx x.names) (hy : NmS w vy y.names) : Calls Tryz.prog 62 #[.agg (ndA x vx), .agg (ndA y vy)] w fun e w' => e = .returned (.bool (sameB x y)) ∧ Ext w w' := by
  obtain ⟨ax, cx, rfl, _⟩ := Sl.open hx.1
  obtain ⟨ay, cy, rfl, _⟩ := Sl.open hy.1
  obtain ⟨wA, hWA⟩ : ∃ wA, (w.alloc (.cells #[.int .i64 x.made, .int .i64 x.chg, .int .i64 x.ver, .int .i64 x.kids, .int .i64 x.own, .int .i64 x.len, .int .i64 x.cnt, .string x.data, .int .i64 x.next, .slice ax x.names.length cx] rnT)).alloc (.cells #[.int .i64 y.made, .int .i64 y.chg, .int .i64 y.ver, .int .i64 y.kids, .int .i64 y.own, .int .i64 y.len, .int .i64 y.cnt, .string y.data, .int .i64 y.next, .slice ay y.names.length cy] rnT) = wA := ⟨_, rfl⟩
  have hxA : Ext w wA := by rw [← hWA]; exact ((Kp.refl _ _).alloc _).alloc _
  have hA : Blk wA w.heap.size #[.int .i64 x.made, .int .i64 x.chg, .int .i64 x.ver, .int .i64 x.kids, .int .i64 x.own, .int .i64 x.len, .int .i64 x.cnt, .string x.data, .int .i64 x.next, .slice ax x.names.length cx] rnT := by
    rw [← hWA]
    exact Blk.kp (heap_alloc_new w _) ((Kp.refl (fun _ => False) _).alloc _) (fun f => f)
  have hB : Blk wA (w.heap.size + 1) #[.int .i64 y.made, .int .i64 y.chg, .int .i64 y.ver, .int .i64 y.kids, .int .i64 y.own, .int .i64 y.len, .int .i64 y.cnt, .string y.data, .int .i64 y.next, .slice ay y.names.length cy] rnT := by
    rw [← hWA]
    have := heap_alloc_new (w.alloc (.cells #[.int .i64 x.made, .int .i64 x.chg, .int .i64 x.ver, .int .i64 x.kids, .int .i64 x.own, .int .i64 x.len, .int .i64 x.cnt, .string x.data, .int .i64 x.next, .slice ax x.names.length cx] rnT)) (.cells #[.int .i64 y.made, .int .i64 y.chg, .int .i64 y.ver, .int .i64 y.kids, .int .i64 y.own, .int .i64 y.len, .int .i64 y.cnt, .string y.data, .int .i64 y.next, .slice ay y.names.length cy] rnT)
    rw [World.size_alloc] at this
    exact this
  have g0 := hA.cell 0 _ rfl
  have g1 := hA.cell 1 _ rfl
  have g2 := hA.cell 2 _ rfl
  have g3 := hA.cell 3 _ rfl
  have g4 := hA.cell 4 _ rfl
  have g5 := hA.cell 5 _ rfl
  have g6 := hA.cell 6 _ rfl
  have g7 := hA.cell 7 _ rfl
  have g8 := hA.cell 8 _ rfl
  have g9 := hA.cell 9 _ rfl
  have h0 := hB.cell 0 _ rfl
  have h1 := hB.cell 1 _ rfl
  have h2 := hB.cell 2 _ rfl
  have h3 := hB.cell 3 _ rfl
  have h4 := hB.cell 4 _ rfl
  have h5 := hB.cell 5 _ rfl
  have h6 := hB.cell 6 _ rfl
  have h7 := hB.cell 7 _ rfl
  have h8 := hB.cell 8 _ rfl
  have h9 := hB.cell 9 _ rfl
  have HS := Lib.hid (refSame_any (.slice ax x.names.length cx) (.slice ay y.names.length cy) (strB x.names) (strB y.names) wA (nms_strs ⟨Sl.ext hx.1 hxA, hx.2⟩) (nms_strs ⟨Sl.ext hy.1 hxA, hy.2⟩))
  have hst := stat_eql x y
  have hgd := stat_guard
  have e1 := str_eq x.data y.data
  have HX := Lib.hid hxA
  have HWA := Lib.hid hWA
  have HE : Hid (sameB x y = (stB x y && (decide (x.data = y.data) && (decide (x.next = y.next) && decide (x.names = y.names))))) := rfl
  clear hWA hxA hA hB hx hy
  unfold ndA
  unfold stA at hst
  generalize stB x y = b at hst HE
  generalize sameB x y = r at HE ⊢
  go_enter Tryz.func62, Tryz.ntmps62
  go_upto_region 1 with (fail)
  rw [HWA.out]
  cases b with
  | false =>
    go_wp2_with (fail)
    go_ret
    exact ⟨ret_bool (by rw [HE.out]; simp), HX.out⟩
  | true =>
    by_cases h1 : x.data = y.data
    · by_cases h2 : x.next = y.next
      · have h2b : (x.next == y.next) = true := by rw [h2]; simp
        go_wp2_with (fail)
        refine HS.out.mono ?_
        rintro e w1 ⟨rfl, hx1⟩
        go_wp2_with (fail)
        go_ret
        exact ⟨ret_bool (by rw [HE.out]; simp [h1, h2, strB_eq]), HX.out.trans hx1⟩
      · have h2b : (x.next == y.next) = false := by simpa using h2
        go_wp2_with (fail)
        go_ret
        exact ⟨ret_bool (by rw [HE.out]; simp [h2]), HX.out⟩
    · go_wp2_with (fail)
      go_ret
      exact ⟨ret_bool (by rw [HE.out]; simp [h1]), HX.out⟩
end Go.Proofs.YtdagikbdpeblhaaGreatDoor

/- Walks over the reference's nodes: place, more, New, Write, fail, Rising. -/
namespace Go.Proofs.YtdagikbdpeblhaaGreatDoor
set_option maxRecDepth 100000
open Go.RowKit Av

theorem more10_any (n : Int) (w : World) (h0 : -9223372036854775808 ≤ n) : Calls Tryz.prog 105 #[.int .i64 n] w fun e w' => e = .returned (.int .i64 (moreI n)) ∧ w = w' := by
  by_cases h : 2147483647 ≤ n
  · have HE : Hid (moreI n = n) := if_pos h
    go_enter Tryz.func105, Tryz.ntmps105
    go_wp2_with (fail)
    go_ret
    exact ⟨by rw [HE.out]; rfl, rfl⟩
  · have HE : Hid (moreI n = n + 1) := if_neg h
    have e1 : wrap64 (n + 1) = n + 1 := by unfold wrap64; omega
    go_enter Tryz.func105, Tryz.ntmps105
    go_wp2_with (fail)
    go_ret
    refine ⟨?_, rfl⟩
    rw [HE.out]
    first | rfl | (rw [e1]; rfl) | (simp [e1])
def PlRel (w : World) (k0 : Nat) (s6 : Value) (wr : World) : Prop := ∃ k : Nat, k ≤ k0 ∧ s6 = .int .i64 k ∧ w = wr
theorem place10_any (v : Value) (l : List Bs) (x : Bs) (w : World) (h : NmS w v l) (hl : l.length ≤ 1000000) :
    Calls Tryz.prog 143 #[v, .string ⟨x.toArray⟩] w fun e w' => e = .returned (.tuple #[.int .i64 (lessN x l : Nat), .bool (decide (l[lessN x l]? = some x))]) ∧ Ext w w' := by
  obtain ⟨a, c, rfl, hcc, hm, _, hop⟩ := Sl.open h.1
  have HOP : Hid (∀ k (hk : k < l.length), ∃ b off, a = some ⟨b, off, none⟩ ∧ w.cell? ⟨b, off + k, none⟩ = some (.string ⟨l[k].toArray⟩)) := fun k hk => by
    obtain ⟨b, off, e, _, hc⟩ := hop (by omega)
    exact ⟨b, off, e, hc k _ (by rw [List.getElem?_map, List.getElem?_eq_getElem hk]; rfl)⟩
  have hle := lessN_le x l
  have HLT : Hid (∀ k (hk : k < l.length), k < lessN x l → Op.bytesLess (⟨l[k].toArray⟩ : ByteArray).toList (⟨x.toArray⟩ : ByteArray).toList = true) := fun k hk h1 => by
    rw [bs_toList, bs_toList, lessB, decide_eq_true_iff]
    refine lessN_take x l _ ?_
    rw [List.mem_take_iff_getElem]
    exact ⟨k, by omega, rfl⟩
  have HGE : Hid (∀ (hk : lessN x l < l.length), Op.bytesLess (⟨l[lessN x l].toArray⟩ : ByteArray).toList (⟨x.toArray⟩ : ByteArray).toList = false) := fun hk => by
    rw [bs_toList, bs_toList, lessB, decide_eq_false_iff_not]
    exact lessN_get x l hk
  have HEQ : Hid (∀ (hk : lessN x l < l.length), ((⟨l[lessN x l].toArray⟩ : ByteArray).toList == (⟨x.toArray⟩ : ByteArray).toList) = decide (l[lessN x l]? = some x)) := fun hk => by
    rw [bs_toList, bs_toList, List.getElem?_eq_getElem hk, Bool.eq_iff_iff, beq_iff_eq, decide_eq_true_iff, Option.some.injEq]
  have HNO : Hid (¬ lessN x l < l.length → decide (l[lessN x l]? = some x) = false) := fun hk => by
    rw [List.getElem?_eq_none (by omega)]
    exact decide_eq_false (by simp)
  obtain ⟨sx, hsx⟩ : ∃ s : ByteArray, ⟨x.toArray⟩ = s := ⟨_, rfl⟩
  rw [hsx] at HLT HGE HEQ ⊢
  obtain ⟨k0, hk0⟩ : ∃ k0, lessN x l = k0 := ⟨_, rfl⟩
  simp only [hk0] at HLT HGE HEQ HNO hle ⊢
  obtain ⟨r, hr⟩ : ∃ r, decide (l[k0]? = some x) = r := ⟨_, rfl⟩
  simp only [hr] at HEQ HNO ⊢
  clear h hop hsx hr
  go_enter Tryz.func143, Tryz.ntmps143
  go_wp2_with (fail)
  go_loopw [6] (fun s6 wr => PlRel w k0 s6 wr) (fun s6 _ => k0 - (intOf s6).toNat)
  case atStart => exact ⟨0, Nat.zero_le _, rfl, rfl⟩
  case round =>
    obtain ⟨k, hk, rfl, rfl⟩ := hrel
    by_cases hlt : k < k0
    · have hkl : k < l.length := by omega
      have hkI : (k : Int) < (l.length : Int) := by omega
      obtain ⟨b, off, rfl, hc⟩ := HOP.out k hkl
      have hls := HLT.out k hkl hlt
      generalize (⟨l[k].toArray⟩ : ByteArray) = y at hc hls
      go_wp2_with (fail)
      go_light
      refine ⟨⟨k + 1, ?_, ?_, rfl⟩, ?_⟩
      · omega
      · go_num
      · simp [intOf]; omega
    · obtain rfl : k = k0 := by omega
      by_cases hkl : k < l.length
      · have hkI : (k : Int) < (l.length : Int) := by omega
        obtain ⟨b, off, rfl, hc⟩ := HOP.out k hkl
        have hge := HGE.out hkl
        have heq := HEQ.out hkl
        generalize (⟨l[k].toArray⟩ : ByteArray) = y at hc hge heq
        have HC := Lib.hid hc
        go_upto_region 4 with (fail)
        refine' wp_region_dag0 ((21, .val _) :: (22, .val _) :: (23, .val _) :: (24, .val _) :: (25, .val _) :: (26, .val _) :: (27, .val _) :: (28, .val _) :: (29, .val _) :: (30, .val _) :: (31, .val _) :: (32, .val _) :: (33, .val _) :: (4, .val _) :: (5, .val _) :: []) (by exact ⟨fun _ _ _ _ _ => trivial, ⟨fun _ _ _ _ _ => trivial, ⟨fun _ _ _ _ _ => trivial, ⟨fun _ _ _ _ _ => trivial, ⟨fun _ _ _ _ _ => trivial, ⟨fun _ _ _ _ _ => trivial, ⟨fun _ _ _ _ _ => trivial, ⟨fun _ _ _ _ _ => trivial, ⟨fun _ _ _ _ _ => trivial, ⟨fun _ _ _ _ _ => trivial, ⟨fun _ _ _ _ _ => trivial, ⟨fun _ _ _ _ _ => trivial, ⟨fun _ _ _ _ _ => trivial, ⟨fun _ _ _ _ _ => trivial, ⟨fun _ _ _ _ _ => trivial, trivial⟩⟩⟩⟩⟩⟩⟩⟩⟩⟩⟩⟩⟩⟩⟩) (by kernel_rfl) (by kernel_rfl) (by kernel_rfl) ?_
        rotate_left 15
        repeat (first
          | (refine wpD_skipv ?_ ?_ ?_
             focus rfl
             focus rfl
             simp only [Act.put, List.setIfInBounds_toArray, List.set_cons_succ, List.set_cons_zero])
          | (refine' wpD_val (c := _) ?_ (fun w => Kp.refl _ w) ?_ (fun wq hwq hfq => ?_) ?_
             rotate_left
             focus rfl
             focus rfl
             focus ((have hc := hwq.cell HC.out (fun f => f)); go_simp; first | done | rfl)
             simp only [Act.put, List.setIfInBounds_toArray, List.set_cons_succ, List.set_cons_zero])
          | (refine' wpD_con (c := _) ?_ ?_ (fun wq hwq hfq => ?_) ?_
             rotate_left
             focus rfl
             focus rfl
             focus ((have hc := hwq.cell HC.out (fun f => f)); go_simp; (try (rw [dUpon_enter])); fail)
             simp only [Act.put, List.setIfInBounds_toArray, List.set_cons_succ, List.set_cons_zero])
          | fail)
        refine wpD_nil ?_
        intro w2 hx2 hend
        clear hend
        go_wp2_with (fail)
        go_ret2
        exact ⟨rfl, hx2⟩
      · have hkI : ¬ (k : Int) < (l.length : Int) := by omega
        have HN := Lib.hid (HNO.out hkl)
        go_upto_region 4 with (fail)
        refine' wp_region_dag0 ((21, .val _) :: (22, .val _) :: (23, .val _) :: (24, .val _) :: (25, .val _) :: (26, .val _) :: (27, .val _) :: (28, .val _) :: (29, .val _) :: (30, .val _) :: (31, .val _) :: (32, .val _) :: (33, .val _) :: (4, .val _) :: (5, .val _) :: []) (by exact ⟨fun _ _ _ _ _ => trivial, ⟨fun _ _ _ _ _ => trivial, ⟨fun _ _ _ _ _ => trivial, ⟨fun _ _ _ _ _ => trivial, ⟨fun _ _ _ _ _ => trivial, ⟨fun _ _ _ _ _ => trivial, ⟨fun _ _ _ _ _ => trivial, ⟨fun _ _ _ _ _ => trivial, ⟨fun _ _ _ _ _ => trivial, ⟨fun _ _ _ _ _ => trivial, ⟨fun _ _ _ _ _ => trivial, ⟨fun _ _ _ _ _ => trivial, ⟨fun _ _ _ _ _ => trivial, ⟨fun _ _ _ _ _ => trivial, ⟨fun _ _ _ _ _ => trivial, trivial⟩⟩⟩⟩⟩⟩⟩⟩⟩⟩⟩⟩⟩⟩⟩) (by kernel_rfl) (by kernel_rfl) (by kernel_rfl) ?_
        rotate_left 15
        repeat (first
          | (refine wpD_skipv ?_ ?_ ?_
             focus rfl
             focus rfl
             simp only [Act.put, List.setIfInBounds_toArray, List.set_cons_succ, List.set_cons_zero])
          | (refine' wpD_val (c := _) ?_ (fun w => Kp.refl _ w) ?_ (fun wq hwq hfq => ?_) ?_
             rotate_left
             focus rfl
             focus rfl
             focus (skip; go_simp; first | done | rfl)
             simp only [Act.put, List.setIfInBounds_toArray, List.set_cons_succ, List.set_cons_zero])
          | (refine' wpD_con (c := _) ?_ ?_ (fun wq hwq hfq => ?_) ?_
             rotate_left
             focus rfl
             focus rfl
             focus (skip; go_simp; (try (rw [dUpon_enter])); fail)
             simp only [Act.put, List.setIfInBounds_toArray, List.set_cons_succ, List.set_cons_zero])
          | fail)
        refine wpD_nil ?_
        intro w2 hx2 hend
        clear hend
        go_wp2_with (fail)
        go_ret2
        rw [HN.out]
        exact ⟨rfl, hx2⟩
set_option maxHeartbeats 1600000 in
theorem new10_any (z o : Int) (d : ByteArray) (w : World) : Calls Tryz.prog 103 #[.int .i64 z, .int .i64 o, .string d] w fun e w' => e = .returned (.agg (ndA (ndNew z o d) (.slice none 0 0))) ∧ Ext w w' := by
  obtain ⟨wA, hWA⟩ : ∃ wA, w.alloc (.cells ndZA rnT) = wA := ⟨_, rfl⟩
  have hxA : Ext w wA := by rw [← hWA]; exact (Kp.refl _ _).alloc _
  have hA : Blk wA w.heap.size ndZA rnT := by rw [← hWA]; exact heap_alloc_new w _
  have HX := Lib.hid hxA
  unfold ndZA at hWA hA
  have HWA := Lib.hid hWA
  have g0 := hA.cell 0 _ rfl
  have g1 := hA.cell 1 _ rfl
  have g2 := hA.cell 2 _ rfl
  have g3 := hA.cell 3 _ rfl
  have g4 := hA.cell 4 _ rfl
  have g5 := hA.cell 5 _ rfl
  have g6 := hA.cell 6 _ rfl
  have g7 := hA.cell 7 _ rfl
  have g8 := hA.cell 8 _ rfl
  have g9 := hA.cell 9 _ rfl
  have fg0 := hA.free 0
  have fg1 := hA.free 1
  have fg2 := hA.free 2
  have fg3 := hA.free 3
  have fg4 := hA.free 4
  have fg5 := hA.free 5
  have fg6 := hA.free 6
  have fg7 := hA.free 7
  have fg8 := hA.free 8
  have fg9 := hA.free 9
  clear hWA hxA hA
  go_enter Tryz.func103, Tryz.ntmps103
  go_upto_region 1 with (fail)
  rw [HWA.out]
  go_wp2_with (fail)
  go_light
  refine bodyPost_ret (v := .agg (ndA (ndNew z o d) (.slice none 0 0))) (by simp [results, Tryz.results103, go_sem, ndA, ndNew, g0, g1, g2, g3, g4, g5, g6, g7, g8, g9]) rfl ⟨rfl, ?_⟩
  have k10 := kp_set10 wA w.heap.size (.int .i64 z) (.int .i64 z) (.int .i64 0) (.int .i64 0) (.int .i64 o) (.int .i64 d.size) (.int .i64 0) (.string d) (.int .i64 0) (.slice none 0 0)
  exact HX.out.next k10 (fun i hi e => by omega)
end Go.Proofs.YtdagikbdpeblhaaGreatDoor

/- A piece of a slice. No program. -/
namespace Av
set_option maxRecDepth 100000
open Go Go.RowKit
/-- The address of a piece that begins at element i (m cells on), as the model has it. -/
def cutAd (a : Option Addr) (c i m : Nat) : Option Addr := if c = i then a else Option.map (fun x => x.add m) a
theorem cut_fold (a : Option Addr) (c i m : Nat) : (if c = i then a else Option.map (fun x => x.add m) a) = cutAd a c i m := rfl
theorem Sl.cut {w : World} {k n c : Nat} {a : Option Addr} {xs : List Value} (h : Sl w k (.slice a n c) n xs) (i j m : Nat) (hm : m = i * k) (hij : i ≤ j) (hj : j ≤ n) :
    Sl w k (.slice (cutAd a c i m) (j - i) (c - i)) (j - i) ((xs.drop m).take ((j - i) * k)) := by
  obtain ⟨a', c', e, hcc, h2, h1, h3⟩ := Sl.open h
  simp only [Value.slice.injEq, true_and] at e
  obtain ⟨rfl, rfl⟩ := e
  have hmk : (j - i) * k + m ≤ n * k := by rw [hm, ← Nat.add_mul]; exact Nat.mul_le_mul_right k (by omega)
  have hl : ((xs.drop m).take ((j - i) * k)).length = (j - i) * k := by rw [List.length_take, List.length_drop]; omega
  refine ⟨hl, by omega, _, _, rfl, by omega, ?_⟩
  by_cases h0 : j - i = 0
  · exact .inl h0
  · right
    obtain ⟨b, off, rfl, hb, hc⟩ := h3 (by omega)
    refine ⟨b, off + m, ?_, hb, fun t x hx => ?_⟩
    · unfold cutAd
      rw [if_neg (by omega)]
      simp only [Option.map_some, Option.some.injEq]
      by_cases hm0 : m = 0 <;> simp [Addr.add, hm0]
    · rw [List.getElem?_take] at hx
      split at hx
      · rw [List.getElem?_drop] at hx
        rw [Nat.add_assoc]
        exact hc (m + t) x hx
      · cases hx
theorem Shp.cut {a : Option Addr} {n c i j m : Nat} (h : Shp (.slice a n c)) (hij : i ≤ j) (hj : j ≤ n) : Shp (.slice (cutAd a c i m) (j - i) (c - i)) := by
  rcases h with h | ⟨ad, l, c', h⟩
  · simp only [Value.slice.injEq] at h
    obtain ⟨rfl, rfl, rfl⟩ := h
    left
    have : i = 0 := by omega
    have : j = 0 := by omega
    subst i j
    rfl
  · simp only [Value.slice.injEq] at h
    obtain ⟨rfl, rfl, rfl⟩ := h
    right
    unfold cutAd
    split
    · exact ⟨_, _, _, rfl⟩
    · exact ⟨_, _, _, rfl⟩
theorem BytesR.cut {w : World} {a : Option Addr} {c : Nat} {bs : List UInt8} (h : BytesR w (.slice a bs.length c) bs) (i j : Nat) (hij : i ≤ j) (hj : j ≤ bs.length) :
    BytesR w (.slice (cutAd a c i i) (j - i) (c - i)) ((bs.drop i).take (j - i)) := by
  have hl : ((bs.drop i).take (j - i)).length = j - i := by rw [List.length_take, List.length_drop]; omega
  refine ⟨?_, h.2.cut hij hj⟩
  rw [hl]
  have := h.1.cut i j i (by omega) hij hj
  rwa [Nat.mul_one, ← List.map_drop, ← List.map_take] at this
end Av
