/- Texts put together: AvWSame, AvCut, AvDagApp. -/
import Derived.Test.YtkpcmbgnaenbhaaGreatDoorAvG37
import Derived.Test.YtkpcmbgnaenbhaaGreatDoorAvG23
import Derived.Laws.StructEq
import Derived.Test.YtkpcmbgnaenbhaaGreatDoorAvG6
import Derived.Test.YtkpcmbgnaenbhaaGreatDoorAvDag

/- Walks over the reference's nodes: nd, Same. -/
namespace Go.Proofs.YtkpcmbgnaenbhaaGreatDoor
set_option maxRecDepth 100000
open Go.RowKit Av

abbrev rnT : TypeId := 69
abbrev stT : TypeId := 32
def stA (n : NodeV) : Array Value := #[.int .i64 n.made, .int .i64 n.chg, .int .i64 n.ver, .int .i64 n.kids, .int .i64 n.own, .int .i64 n.len, .int .i64 n.cnt]
def stB (x y : NodeV) : Bool := decide (x.made = y.made ∧ x.chg = y.chg ∧ x.ver = y.ver ∧ x.kids = y.kids ∧ x.own = y.own ∧ x.len = y.len ∧ x.cnt = y.cnt)
theorem stat_eql (x y : NodeV) (w : World) : (binOp .eql stT (.agg (stA x)) (.agg (stA y))).run Tryz.prog w = .ok (.bool (stB x y)) w := by
  have u3 := Tryz.underlying3
  have u2 := Tryz.underlying2
  have hS : Tryz.prog.underlying stT = some (.struct (Tryz.prog.fieldsOf stT)) := by kernel_rfl
  have hp : Tryz.prog.stoodInHeld stT = false := by kernel_rfl
  unfold stA stB
  rw [run_eql_struct, show (10000 : Nat) = 9999 + 1 from rfl, run_equalIn_agg w 9999 stT _ _ hS hp]
  simp only [Program.fieldsOf, Tryz.underlying32]
  go_simp
  by_cases h1 : x.made = y.made <;> by_cases h2 : x.chg = y.chg <;> by_cases h3 : x.ver = y.ver <;> by_cases h4 : x.kids = y.kids <;> by_cases h5 : x.own = y.own <;> by_cases h6 : x.len = y.len <;> by_cases h7 : x.cnt = y.cnt <;> simp [h1, h2, h3, h4, h5, h6, h7]
theorem stat_guard : Tryz.prog.eqGuardType Tryz.prog.depth stT = false := by kernel_rfl
set_option maxHeartbeats 1600000 in
theorem nd_any (n : NodeV) (a : Option Addr) (k c : Nat) (w : World) : Calls Tryz.prog 32 #[.agg (ndA n (.slice a k c))] w fun e w' => e = .returned (.agg (ndA n (.slice a k c))) ∧ Ext w w' := by
  obtain ⟨wA, hWA⟩ : ∃ wA, (w.alloc (.cells #[.int .i64 n.made, .int .i64 n.chg, .int .i64 n.ver, .int .i64 n.kids, .int .i64 n.own, .int .i64 n.len, .int .i64 n.cnt, .string n.data, .int .i64 n.next, .slice a k c] ndT)).alloc (.cells ndZA rnT) = wA := ⟨_, rfl⟩
  have hxA : Ext w wA := by rw [← hWA]; exact ((Kp.refl _ _).alloc _).alloc _
  have hA : Blk wA w.heap.size #[.int .i64 n.made, .int .i64 n.chg, .int .i64 n.ver, .int .i64 n.kids, .int .i64 n.own, .int .i64 n.len, .int .i64 n.cnt, .string n.data, .int .i64 n.next, .slice a k c] ndT := by
    rw [← hWA]
    exact Blk.kp (heap_alloc_new w _) ((Kp.refl (fun _ => False) _).alloc _) (fun f => f)
  have hB : Blk wA (w.heap.size + 1) ndZA rnT := by
    rw [← hWA]
    have := heap_alloc_new (w.alloc (.cells #[.int .i64 n.made, .int .i64 n.chg, .int .i64 n.ver, .int .i64 n.kids, .int .i64 n.own, .int .i64 n.len, .int .i64 n.cnt, .string n.data, .int .i64 n.next, .slice a k c] ndT)) (.cells ndZA rnT)
    rw [World.size_alloc] at this
    exact this
  have HF : Hid (∀ u0 u1 u2 u3 u4 u5 u6 u7 u8 u9, Ext w (set10 wA (w.heap.size + 1) u0 u1 u2 u3 u4 u5 u6 u7 u8 u9)) := fun u0 u1 u2 u3 u4 u5 u6 u7 u8 u9 => hxA.next (kp_set10 wA _ u0 u1 u2 u3 u4 u5 u6 u7 u8 u9) (fun i hi e => by omega)
  unfold ndZA at hB
  have h0 := hA.cell 0 _ rfl
  have h1 := hA.cell 1 _ rfl
  have h2 := hA.cell 2 _ rfl
  have h3 := hA.cell 3 _ rfl
  have h4 := hA.cell 4 _ rfl
  have h5 := hA.cell 5 _ rfl
  have h6 := hA.cell 6 _ rfl
  have h7 := hA.cell 7 _ rfl
  have h8 := hA.cell 8 _ rfl
  have h9 := hA.cell 9 _ rfl
  have g0 := hB.cell 0 _ rfl
  have g1 := hB.cell 1 _ rfl
  have g2 := hB.cell 2 _ rfl
  have g3 := hB.cell 3 _ rfl
  have g4 := hB.cell 4 _ rfl
  have g5 := hB.cell 5 _ rfl
  have g6 := hB.cell 6 _ rfl
  have g7 := hB.cell 7 _ rfl
  have g8 := hB.cell 8 _ rfl
  have g9 := hB.cell 9 _ rfl
  have fg0 := hB.free 0
  have fg1 := hB.free 1
  have fg2 := hB.free 2
  have fg3 := hB.free 3
  have fg4 := hB.free 4
  have fg5 := hB.free 5
  have fg6 := hB.free 6
  have fg7 := hB.free 7
  have fg8 := hB.free 8
  have fg9 := hB.free 9
  have HWA := Lib.hid hWA
  clear hWA hxA hA hB
  unfold ndA
  go_enter Tryz.func32, Tryz.ntmps32
  go_upto_region 1 with (fail)
  unfold ndZA at HWA
  rw [HWA.out]
  go_wp2_with (fail)
  go_light
  exact bodyPost_ret (v := .agg #[.int .i64 n.made, .int .i64 n.chg, .int .i64 n.ver, .int .i64 n.kids, .int .i64 n.own, .int .i64 n.len, .int .i64 n.cnt, .string n.data, .int .i64 n.next, .slice a k c]) (by simp [results, Tryz.results32, go_sem, g0, g1, g2, g3, g4, g5, g6, g7, g8, g9]) rfl ⟨rfl, HF.out _ _ _ _ _ _ _ _ _ _⟩
def sameB (x y : NodeV) : Bool := stB x y && (decide (x.data = y.data) && (decide (x.next = y.next) && decide (x.names = y.names)))
theorem sameB_iff {x y : NodeV} : sameB x y = true ↔ x = y := by
  unfold sameB stB
  obtain ⟨a1, a2, a3, a4, a5, a6, a7, a8, a9, a10⟩ := x
  obtain ⟨b1, b2, b3, b4, b5, b6, b7, b8, b9, b10⟩ := y
  simp only [Bool.and_eq_true, decide_eq_true_eq, NodeV.mk.injEq]
  constructor
  · rintro ⟨⟨h1, h2, h3, h4, h5, h6, h7⟩, h8, h9, h10⟩
    exact ⟨h1, h2, h3, h4, h5, h6, h7, h8, h9, h10⟩
  · rintro ⟨h1, h2, h3, h4, h5, h6, h7, h8, h9, h10⟩
    exact ⟨⟨h1, h2, h3, h4, h5, h6, h7⟩, h8, h9, h10⟩
instance : DecidableEq NodeV := fun _ _ => decidable_of_iff _ sameB_iff
def strB (l : List Bs) : List ByteArray := l.map fun b => ⟨b.toArray⟩
theorem strB_eq {a b : List Bs} : strB a = strB b ↔ a = b := by
  refine ⟨fun h => ?_, fun h => by rw [h]⟩
  have h2 := congrArg (List.map fun s : ByteArray => s.data.toList) h
  unfold strB at h2
  rw [List.map_map, List.map_map] at h2
  have e : ((fun s : ByteArray => s.data.toList) ∘ fun b : Bs => (⟨b.toArray⟩ : ByteArray)) = id := by
    funext b
    simp
  rwa [e, List.map_id, List.map_id] at h2
theorem nms_strs {w : World} {v : Value} {l : List Bs} (h : NmS w v l) : Strs w v (strB l) := by
  have h1 := h.1
  unfold Strs strB
  rw [List.map_map, List.length_map]
  exact h1
set_option maxHeartbeats 1600000 in
theorem refSame10_any (x y : NodeV) (vx vy : Value) (w : World) (hx : NmS w vx x.names) (hy : NmS w vy y.names) : Calls Tryz.prog 40 #[.agg (ndA x vx), .agg (ndA y vy)] w fun e w' => e = .returned (.bool (sameB x y)) ∧ Ext w w' := by
  obtain ⟨ax, cx, rfl, _⟩ := Sl.open hx.1
  obtain ⟨ay, cy, rfl, _⟩ := Sl.open hy.1
  obtain ⟨wA, hWA⟩ : ∃ wA, (w.alloc (.cells #[.int .i64 x.made, .int .i64 x.chg, .int .i64 x.ver, .int .i64 x.kids, .int .i64 x.own, .int .i64 x.len, .int .i64 x.cnt, .string x.data, .int .i64 x.next, .slice ax x.names.length cx] rnT)).alloc (.cells #[.int .i64 y.made, .int .i64 y.chg, .int .i64 y.ver, .int .i64 y.kids, .int .i64 y.own, .int .i64 y.len, .int .i64 y.cnt, .string y.data, .int .i64 y.next, .slice ay y.names.length cy] rnT) = wA := ⟨_, rfl⟩
  have hxA : Ext w wA := by rw [← hWA]; exact ((Kp.refl _ _).alloc _).alloc _
  have hA : Blk wA w.heap.size #[.int .i64 x.made, .int .i64 x.chg, .int .i64 x.ver, .int .i64 x.kids, .int .i64 x.own, .int .i64 x.len, .int .i64 x.cnt, .string x.data, .int .i64 x.next, .slice ax x.names.length cx] rnT := by
    rw [← hWA]
    exact Blk.kp (heap_alloc_new w _) ((Kp.refl (fun _ => False) _).alloc _) (fun f => f)
  have hB : Blk wA (w.heap.size + 1) #[.int .i64 y.made, .int .i64 y.chg, .int .i64 y.ver, .int .i64 y.kids, .int .i64 y.own, .int .i64 y.len, .int .i64 y.cnt, .string y.data, .int .i64 y.next, .slice ay y.names.length cy] rnT := by
    rw [← hWA]
    have := heap_alloc_new (w.alloc (.cells #[.int .i64 x.made, .int .i64 x.chg, .int .i64 x.ver, .int .i64 x.kids, .int .i64 x.own, .int .i64 x.len, .int .i64 x.cnt, .string x.data, .int .i64 x.next, .slice ax x.names.length cx] rnT)) (.cells #[.int .i64 y.made, .int .i64 y.chg, .int .i64 y.ver, .int .i64 y.kids, .int .i64 y.own, .int .i64 y.len, .int .i64 y.cnt, .string y.data, .int .i64 y.next, .slice ay y.names.length cy] rnT)
    rw [World.size_alloc] at this
    exact this
  have g0 := hA.cell 0 _ rfl
  have g1 := hA.cell 1 _ rfl
  have g2 := hA.cell 2 _ rfl
  have g3 := hA.cell 3 _ rfl
  have g4 := hA.cell 4 _ rfl
  have g5 := hA.cell 5 _ rfl
  have g6 := hA.cell 6 _ rfl
  have g7 := hA.cell 7 _ rfl
  have g8 := hA.cell 8 _ rfl
  have g9 := hA.cell 9 _ rfl
  have h0 := hB.cell 0 _ rfl
  have h1 := hB.cell 1 _ rfl
  have h2 := hB.cell 2 _ rfl
  have h3 := hB.cell 3 _ rfl
  have h4 := hB.cell 4 _ rfl
  have h5 := hB.cell 5 _ rfl
  have h6 := hB.cell 6 _ rfl
  have h7 := hB.cell 7 _ rfl
  have h8 := hB.cell 8 _ rfl
  have h9 := hB.cell 9 _ rfl
  have HS := Lib.hid (refSame_any (.slice ax x.names.length cx) (.slice ay y.names.length cy) (strB x.names) (strB y.names) wA (nms_strs ⟨Sl.ext hx.1 hxA, hx.2⟩) (nms_strs ⟨Sl.ext hy.1 hxA, hy.2⟩))
  have hst := stat_eql x y
  have hgd := stat_guard
  have e1 := str_eq x.data y.data
  have HX := Lib.hid hxA
  have HWA := Lib.hid hWA
  have HE : Hid (sameB x y = (stB x y && (decide (x.data = y.data) && (decide (x.next = y.next) && decide (x.names = y.names))))) := rfl
  clear hWA hxA hA hB hx hy
  unfold ndA
  unfold stA at hst
  generalize stB x y = b at hst HE
  generalize sameB x y = r at HE ⊢
  go_enter Tryz.func40, Tryz.ntmps40
  go_upto_region 1 with (fail)
  rw [HWA.out]
  cases b with
  | false =>
    go_wp2_with (fail)
    go_ret
    exact ⟨ret_bool (by rw [HE.out]; simp), HX.out⟩
  | true =>
    by_cases h1 : x.data = y.data
    · by_cases h2 : x.next = y.next
      · have h2b : (x.next == y.next) = true := by rw [h2]; simp
        go_wp2_with (fail)
        refine HS.out.mono ?_
        rintro e w1 ⟨rfl, hx1⟩
        go_wp2_with (fail)
        go_ret
        exact ⟨ret_bool (by rw [HE.out]; simp [h1, h2, strB_eq]), HX.out.trans hx1⟩
      · have h2b : (x.next == y.next) = false := by simpa using h2
        go_wp2_with (fail)
        go_ret
        exact ⟨ret_bool (by rw [HE.out]; simp [h2]), HX.out⟩
    · go_wp2_with (fail)
      go_ret
      exact ⟨ret_bool (by rw [HE.out]; simp [h1]), HX.out⟩
end Go.Proofs.YtkpcmbgnaenbhaaGreatDoor

/- A piece of a slice. No program. -/
namespace Av
set_option maxRecDepth 100000
open Go Go.RowKit
/-- The address of a piece that begins at element i (m cells on), as the model has it. -/
def cutAd (a : Option Addr) (c i m : Nat) : Option Addr := if c = i then a else Option.map (fun x => x.add m) a
theorem cut_fold (a : Option Addr) (c i m : Nat) : (if c = i then a else Option.map (fun x => x.add m) a) = cutAd a c i m := rfl
theorem Sl.cut {w : World} {k n c : Nat} {a : Option Addr} {xs : List Value} (h : Sl w k (.slice a n c) n xs) (i j m : Nat) (hm : m = i * k) (hij : i ≤ j) (hj : j ≤ n) :
    Sl w k (.slice (cutAd a c i m) (j - i) (c - i)) (j - i) ((xs.drop m).take ((j - i) * k)) := by
  obtain ⟨a', c', e, hcc, h2, h1, h3⟩ := Sl.open h
  simp only [Value.slice.injEq, true_and] at e
  obtain ⟨rfl, rfl⟩ := e
  have hmk : (j - i) * k + m ≤ n * k := by rw [hm, ← Nat.add_mul]; exact Nat.mul_le_mul_right k (by omega)
  have hl : ((xs.drop m).take ((j - i) * k)).length = (j - i) * k := by rw [List.length_take, List.length_drop]; omega
  refine ⟨hl, by omega, _, _, rfl, by omega, ?_⟩
  by_cases h0 : j - i = 0
  · exact .inl h0
  · right
    obtain ⟨b, off, rfl, hb, hc⟩ := h3 (by omega)
    refine ⟨b, off + m, ?_, hb, fun t x hx => ?_⟩
    · unfold cutAd
      rw [if_neg (by omega)]
      simp only [Option.map_some, Option.some.injEq]
      by_cases hm0 : m = 0 <;> simp [Addr.add, hm0]
    · rw [List.getElem?_take] at hx
      split at hx
      · rw [List.getElem?_drop] at hx
        rw [Nat.add_assoc]
        exact hc (m + t) x hx
      · cases hx
theorem Shp.cut {a : Option Addr} {n c i j m : Nat} (h : Shp (.slice a n c)) (hij : i ≤ j) (hj : j ≤ n) : Shp (.slice (cutAd a c i m) (j - i) (c - i)) := by
  rcases h with h | ⟨ad, l, c', h⟩
  · simp only [Value.slice.injEq] at h
    obtain ⟨rfl, rfl, rfl⟩ := h
    left
    have : i = 0 := by omega
    have : j = 0 := by omega
    subst i j
    rfl
  · simp only [Value.slice.injEq] at h
    obtain ⟨rfl, rfl, rfl⟩ := h
    right
    unfold cutAd
    split
    · exact ⟨_, _, _, rfl⟩
    · exact ⟨_, _, _, rfl⟩
theorem cut_own {a : Option Addr} {n c i j m b : Nat} (h : (Value.slice (cutAd a c i m) (j - i) (c - i)).ownBlock = some b) : (Value.slice a n c).ownBlock = some b := by
  cases a with
  | none => unfold cutAd at h; split at h <;> simp [Value.ownBlock] at h
  | some ad =>
    unfold cutAd at h
    split at h
    · simpa [Value.ownBlock] using h
    · simp only [Option.map_some, Value.ownBlock] at h ⊢
      have : (ad.add m).block = ad.block := by simp [Addr.add]; split <;> rfl
      simpa [this] using h
theorem BytesR.cut {w : World} {a : Option Addr} {c : Nat} {bs : List UInt8} (h : BytesR w (.slice a bs.length c) bs) (i j : Nat) (hij : i ≤ j) (hj : j ≤ bs.length) :
    BytesR w (.slice (cutAd a c i i) (j - i) (c - i)) ((bs.drop i).take (j - i)) := by
  have hl : ((bs.drop i).take (j - i)).length = j - i := by rw [List.length_take, List.length_drop]; omega
  refine ⟨?_, h.2.cut hij hj⟩
  rw [hl]
  have := h.1.cut i j i (by omega) hij hj
  rwa [Nat.mul_one, ← List.map_drop, ← List.map_take] at this
end Av

/- Appends in a region that draws its order. No program. -/
namespace Av
set_option maxRecDepth 100000
open Go Go.RowKit
/-- A slice literal of nothing. -/
def Fresh0 (base : Nat) (e : TypeId) (k : Nat) (v : Value) (w : World) : Prop := w.ownsRow base e k v 0 [] ∧ ∃ g, v = .slice (some ⟨g, 0, none⟩) 0 0 ∧ w.heap[g]? = some (.cells #[] e (0, 0))
theorem Fresh0.ext {base k : Nat} {e : TypeId} {v : Value} {w w' : World} (h : Fresh0 base e k v w) (x : Ext w w') : Fresh0 base e k v w' := by
  obtain ⟨h1, g, rfl, h2⟩ := h
  exact ⟨ownsRow.ext h1 x, g, rfl, x.obj h2 (fun f => f)⟩
theorem Fresh0.new {base k : Nat} {e : TypeId} {w : World} (hb : base ≤ w.heap.size) : Fresh0 base e k (.slice (some ⟨w.heap.size, 0, none⟩) 0 0) (w.alloc (.cells #[] e)) := by
  refine ⟨⟨by simp, .inr ⟨w.heap.size, 0, #[], rfl, hb, ?_, Nat.le_refl _, Nat.zero_le _, by simp, by simp⟩⟩, w.heap.size, rfl, heap_alloc_new w _⟩
  exact heap_alloc_new w _
/-- A slice literal of m elements. -/
def BoxL (base : Nat) (e : TypeId) (m : Nat) (ys : List Value) (u : Value) (w : World) : Prop := ∃ g, base ≤ g ∧ u = .slice (some ⟨g, 0, none⟩) m m ∧ w.heap[g]? = some (.cells ys.toArray e (0, 0))
theorem BoxL.ext {base m : Nat} {e : TypeId} {ys : List Value} {u : Value} {w w' : World} (h : BoxL base e m ys u w) (x : Ext w w') : BoxL base e m ys u w' := by
  obtain ⟨g, h1, rfl, h2⟩ := h
  exact ⟨g, h1, rfl, x.obj h2 (fun f => f)⟩
theorem BoxL.new {base m : Nat} {e : TypeId} {ys : List Value} {w : World} (hb : base ≤ w.heap.size) : BoxL base e m ys (.slice (some ⟨w.heap.size, 0, none⟩) m m) (w.alloc (.cells ys.toArray e)) :=
  ⟨w.heap.size, hb, rfl, heap_alloc_new w _⟩
theorem BoxL.sl {base m k : Nat} {e : TypeId} {ys : List Value} {u : Value} {w : World} (h : BoxL base e m ys u w) (hl : ys.length = m * k) (hm : m ≤ maxLen) : Sl w k u m ys ∧ Shp u := by
  obtain ⟨g, h1, rfl, h2⟩ := h
  exact ⟨Sl.of_block h2 hl hm (Nat.le_refl _), Shp.some⟩
/-- What is written behind an empty literal leaves a literal of some element alone. -/
theorem BoxL.kp0 {base base' m k : Nat} {e e' : TypeId} {ys : List Value} {u v : Value} {w w' : World} (h : BoxL base e m ys u w) (hy : ys ≠ []) (hv : Fresh0 base' e' k v w) (x : Kp (fun i => v.ownBlock = some i) w w') : BoxL base e m ys u w' := by
  obtain ⟨g, h1, rfl, h2⟩ := h
  obtain ⟨_, g', rfl, h3⟩ := hv
  refine ⟨g, h1, rfl, x.obj h2 (fun e => ?_)⟩
  simp [Value.ownBlock] at e
  subst e
  rw [h2] at h3
  simp only [Option.some.injEq, Obj.cells.injEq] at h3
  exact hy (by have := congrArg Array.toList h3.1; simpa using this)
theorem Fresh0.keep {base base' k k' n : Nat} {e e' : TypeId} {u v : Value} {xs : List Value} {w w' : World} (h : Fresh0 base e k u w) (hv : w.ownsRow base' e' k' v n xs) (hn : 0 < n) (hk : 0 < k') (x : Kp (fun i => v.ownBlock = some i) w w') : Fresh0 base e k u w' := by
  obtain ⟨h1, g, rfl, h2⟩ := h
  have key : ¬ v.ownBlock = some g := by
    intro e1
    rcases hv.2 with ⟨rfl, _⟩ | ⟨g', cap, cur, rfl, _, hg, h3, _, h4, _⟩
    · simp [Value.ownBlock] at e1
    · simp [Value.ownBlock] at e1
      subst e1
      rw [h2] at hg
      simp only [Option.some.injEq, Obj.cells.injEq] at hg
      rw [← hg.1] at h4
      have : 0 < cap * k' := Nat.mul_pos (by omega) hk
      simp at h4
      omega
  refine ⟨ownsRow.kp h1 x (fun b hb e1 => ?_), g, rfl, x.obj h2 key⟩
  simp [Value.ownBlock] at hb
  subst hb
  exact key e1
theorem owns_kp0 {base base' k k' n : Nat} {e e' : TypeId} {u v : Value} {xs : List Value} {w w' : World} (h : w.ownsRow base e k u n xs) (hn : 0 < n) (hk : 0 < k) (hv : Fresh0 base' e' k' v w) (x : Kp (fun i => v.ownBlock = some i) w w') : w'.ownsRow base e k u n xs := by
  refine ownsRow.kp h x (fun b hb e1 => ?_)
  obtain ⟨_, g, rfl, h2⟩ := hv
  simp [Value.ownBlock] at e1
  subst e1
  rcases h.2 with ⟨rfl, _⟩ | ⟨g', cap, cur, rfl, _, hg, h3, _, h4, _⟩
  · simp [Value.ownBlock] at hb
  · simp [Value.ownBlock] at hb
    subst hb
    rw [h2] at hg
    simp only [Option.some.injEq, Obj.cells.injEq] at hg
    rw [← hg.1] at h4
    have : 0 < cap * k := Nat.mul_pos (by omega) hk
    simp at h4
    omega
/-- The blocks that are made on the way. -/
theorem Kp.over {base : Nat} {v : Value} {w w' : World} (x : Kp (fun i => v.ownBlock = some i) w w') (h : ∀ i, v.ownBlock = some i → base ≤ i) : Kp (fun i => base ≤ i) w w' := x.mono (fun i _ hi => h i hi)
theorem owns_base {w : World} {base k n : Nat} {e : TypeId} {v : Value} {xs : List Value} (h : w.ownsRow base e k v n xs) : ∀ b, v.ownBlock = some b → base ≤ b := by
  obtain ⟨_, h2⟩ := h
  rcases h2 with ⟨rfl, _⟩ | ⟨g, cap, cur, rfl, hb, hg, _⟩
  · intro b hb; simp [Value.ownBlock] at hb
  · intro b hb'
    simp [Value.ownBlock] at hb'
    subst hb'
    exact hb
theorem dUpon_app {P : Program} {o : Oper} {a : Act} {w : World} {K : Value → World → Prop} {d : Tmp} (hd : o.dst = .some d) (hlt : decide (d < a.tmps.size) = true) (t e : TypeId) (k : Nat) (hk : 0 < k) (hfacts : ElemOk P t e k)
    (hgd : o.guard = none) (s x : Operand) (ho : o.op = .call { callee := .builtin .append, args := #[s, x], argTypes := #[t, t] })
    (base : Nat) (v : Value) (n : Nat) (xs : List Value) (hs : a.eval s = v) (hown : w.ownsRow base e k v n xs)
    (u : Value) (m : Nat) (ys : List Value) (hx : a.eval x = u) (hu : Sl w k u m ys) (hsh : Shp u) (hone : ∀ y ∈ ys, y.oneCell' = true) (hn : n + m ≤ 100000000000) (hbase : base ≤ w.heap.size)
    (h : ∀ v' w', w'.ownsRow base e k v' (n + m) (xs ++ ys) → Kp (fun k => v.ownBlock = some k) w w' → K v' w') : DUpon P K ((execOp a.eval o).run P w) :=
  DUpon.of_list (ops := #[]) hd (of_decide_eq_true hlt) hgd
    (wpList_appK t e k hk hfacts hgd s x ho base v n xs hs hown u m ys hx hu hsh hone hn hbase (fun v' w' h1 h2 => ⟨rfl, v', rfl, h v' w' h1 h2⟩))
end Av
