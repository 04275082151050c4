/- Texts put together: AvNest, AvWStat. -/
import Derived.Test.YtdagikbdpeblhaaGreatDoorAvG2
import Derived.Test.YtdagikbdpeblhaaGreatDoorAvG3
import Derived.Test.YtdagikbdpeblhaaGreatDoorAvHDag
import Derived.Deep.RegionHeld3

/- Slices of slices of numbers: read, and made. No program. -/
namespace Av
set_option maxRecDepth 100000
open Go Go.RowKit
abbrev natV (n : Nat) : Value := .int .i64 (n : Int)
/-- Numbers that can be read. -/
def NatsR (w : World) (v : Value) (l : List Nat) : Prop := Sl w 1 v l.length (l.map natV) ∧ Shp v
theorem NatsR.kp {S : Nat → Prop} {w w' : World} {v : Value} {l : List Nat} (h : NatsR w v l) (k : Kp S w w') (hs : ∀ i, v.ownBlock = some i → ¬ S i) : NatsR w' v l := ⟨Sl.kp h.1 k (fun i hi _ => hs i hi), h.2⟩
theorem NatsR.ext {w w' : World} {v : Value} {l : List Nat} (h : NatsR w v l) (k : Ext w w') : NatsR w' v l := ⟨Sl.ext h.1 k, h.2⟩
theorem NatsR.nil (w : World) : NatsR w (.slice none 0 0) [] := ⟨Sl.nil w 1, .inl rfl⟩
theorem NatsR.open {w : World} {v : Value} {l : List Nat} (h : NatsR w v l) : ∃ a c, v = .slice a l.length c ∧ l.length ≤ c ∧ l.length ≤ maxLen ∧ (0 < l.length → ∃ b off, a = some ⟨b, off, none⟩ ∧ b < w.heap.size ∧ ∀ i (hi : i < l.length), w.cell? ⟨b, off + i, none⟩ = some (.int .i64 (l[i] : Int))) := by
  obtain ⟨a, c, rfl, hcc, h1, h2, h3⟩ := Sl.open h.1
  refine ⟨a, c, rfl, hcc, h1, fun hn => ?_⟩
  obtain ⟨b, off, rfl, hb, hc⟩ := h3 hn
  exact ⟨b, off, rfl, hb, fun i hi => hc i _ (by rw [List.getElem?_map, List.getElem?_eq_getElem hi]; rfl)⟩
/-- Rows of numbers that can be read: vs are the rows' own slices. -/
structure RowsR (w : World) (v : Value) (vs : List Value) (pl : List (List Nat)) : Prop where
  len : vs.length = pl.length
  row : Sl w 1 v vs.length vs ∧ Shp v
  inn : ∀ (j : Nat) (h1 : j < vs.length) (h2 : j < pl.length), NatsR w vs[j] pl[j]
theorem RowsR.kp {S : Nat → Prop} {w w' : World} {v : Value} {vs : List Value} {pl : List (List Nat)} (h : RowsR w v vs pl) (k : Kp S w w') (hs : ∀ i, v.ownBlock = some i → ¬ S i) (hi : ∀ (j : Nat) (h1 : j < vs.length), ∀ i, vs[j].ownBlock = some i → ¬ S i) : RowsR w' v vs pl :=
  ⟨h.len, ⟨Sl.kp h.row.1 k (fun i hi _ => hs i hi), h.row.2⟩, fun j h1 h2 => (h.inn j h1 h2).kp k (hi j h1)⟩
theorem RowsR.ext {w w' : World} {v : Value} {vs : List Value} {pl : List (List Nat)} (h : RowsR w v vs pl) (k : Ext w w') : RowsR w' v vs pl := h.kp k (fun _ _ f => f) (fun _ _ _ _ f => f)
theorem RowsR.open {w : World} {v : Value} {vs : List Value} {pl : List (List Nat)} (h : RowsR w v vs pl) : ∃ a c, v = .slice a pl.length c ∧ pl.length ≤ c ∧ pl.length ≤ maxLen ∧ (0 < pl.length → ∃ b off, a = some ⟨b, off, none⟩ ∧ b < w.heap.size ∧ ∀ i (hi : i < pl.length), ∃ a' c', w.cell? ⟨b, off + i, none⟩ = some (.slice a' pl[i].length c') ∧ NatsR w (.slice a' pl[i].length c') pl[i]) := by
  obtain ⟨a, c, rfl, hcc, h1, h2, h3⟩ := Sl.open h.row.1
  have hl := h.len
  refine ⟨a, c, by rw [hl], by omega, by omega, fun hn => ?_⟩
  obtain ⟨b, off, rfl, hb, hc⟩ := h3 (by omega)
  refine ⟨b, off, rfl, hb, fun i hi => ?_⟩
  have hin := h.inn i (by omega) hi
  obtain ⟨a', c', e, _⟩ := hin.open
  exact ⟨a', c', by rw [← e]; exact hc i _ (List.getElem?_eq_getElem (by omega)), by rw [← e]; exact hin⟩
/-- Rows of numbers that a call owns: each in a block of its own. -/
structure RowsO (w : World) (base : Nat) (e ei : TypeId) (v : Value) (vs : List Value) (pl : List (List Nat)) : Prop where
  len : vs.length = pl.length
  row : w.ownsRow base e 1 v vs.length vs
  inn : ∀ (j : Nat) (h1 : j < vs.length) (h2 : j < pl.length), w.ownsRow base ei 1 vs[j] pl[j].length (pl[j].map natV)
  apart : ∀ (j : Nat) (h1 : j < vs.length) (i : Nat), vs[j].ownBlock = some i → ¬ v.ownBlock = some i ∧ ∀ (k : Nat) (h2 : k < vs.length), k ≠ j → ¬ vs[k].ownBlock = some i
theorem RowsO.read {w : World} {base : Nat} {e ei : TypeId} {v : Value} {vs : List Value} {pl : List (List Nat)} (h : RowsO w base e ei v vs pl) : RowsR w v vs pl :=
  ⟨h.len, ⟨Sl.of_owns h.row, shp_owns h.row⟩, fun j h1 h2 => ⟨Sl.of_owns (h.inn j h1 h2), shp_owns (h.inn j h1 h2)⟩⟩
theorem RowsO.ext {w w' : World} {base : Nat} {e ei : TypeId} {v : Value} {vs : List Value} {pl : List (List Nat)} (h : RowsO w base e ei v vs pl) (k : Ext w w') : RowsO w' base e ei v vs pl :=
  ⟨h.len, ownsRow.ext h.row k, fun j h1 h2 => ownsRow.ext (h.inn j h1 h2) k, h.apart⟩
theorem RowsR.at {w : World} {g n c : Nat} {vs : List Value} {pl : List (List Nat)} (h : RowsR w (.slice (some ⟨g, 0, none⟩) n c) vs pl) (k : Nat) (hk : k < pl.length) :
    ∃ (hv : k < vs.length) (a' : Option Addr) (c' : Nat), vs[k] = .slice a' pl[k].length c' ∧ w.cell? ⟨g, k, none⟩ = some (.slice a' pl[k].length c') ∧ NatsR w (.slice a' pl[k].length c') pl[k] ∧ g < w.heap.size := by
  obtain ⟨a, c2, e1, hcc, h1, h2, h3⟩ := Sl.open h.row.1
  have hl := h.len
  obtain ⟨b, off, e2, hb, hc⟩ := h3 (by omega)
  simp only [Value.slice.injEq] at e1
  rw [e2] at e1
  simp only [Option.some.injEq, Addr.mk.injEq, and_true] at e1
  obtain ⟨⟨rfl, rfl⟩, _, _⟩ := e1
  have hv : k < vs.length := by omega
  have hin := h.inn k hv hk
  obtain ⟨a', c', e, _⟩ := hin.open
  refine ⟨hv, a', c', e, ?_, by rw [← e]; exact hin, hb⟩
  have := hc k _ (List.getElem?_eq_getElem hv)
  rw [Nat.zero_add] at this
  rw [← e]; exact this
theorem owns_slice {w : World} {base k n : Nat} {e : TypeId} {v : Value} {xs : List Value} (h : w.ownsRow base e k v n xs) : ∃ a c, v = .slice a n c := by
  obtain ⟨a, c, e, _⟩ := Sl.open (Sl.of_owns h)
  exact ⟨a, c, e⟩
theorem own_in {w : World} {base k n : Nat} {e : TypeId} {v : Value} {xs : List Value} (h : w.ownsRow base e k v n xs) {i : Nat} (hi : v.ownBlock = some i) : base ≤ i ∧ i < w.heap.size := by
  obtain ⟨_, ⟨rfl, _⟩ | ⟨g, cap, cur, rfl, hb, hg, _⟩⟩ := h
  · simp [Value.ownBlock] at hi
  · simp only [Value.ownBlock, Option.some.injEq] at hi
    subst hi
    exact ⟨hb, (Array.getElem?_eq_some_iff.1 hg).1⟩
/-- Rows in a block g: each behind g, no two in one block. -/
structure SplS (w : World) (g : Nat) (rT ei : TypeId) (vs : List Value) (pl : List (List Nat)) : Prop where
  len : vs.length = pl.length
  blk : w.heap[g]? = some (.cells vs.toArray rT (0, 0))
  inn : ∀ (j : Nat) (h1 : j < vs.length) (h2 : j < pl.length), w.ownsRow (g + 1) ei 1 vs[j] pl[j].length (pl[j].map natV)
  apart : ∀ (j : Nat) (h1 : j < vs.length) (k : Nat) (h2 : k < vs.length), j ≠ k → ∀ i, vs[j].ownBlock = some i → vs[k].ownBlock ≠ some i
section
variable {w w' : World} {g : Nat} {rT ei : TypeId} {vs : List Value} {pl : List (List Nat)}
theorem SplS.ext (h : SplS w g rT ei vs pl) (k : Ext w w') : SplS w' g rT ei vs pl := ⟨h.len, k.obj h.blk (fun f => f), fun j h1 h2 => ownsRow.ext (h.inn j h1 h2) k, h.apart⟩
theorem SplS.lt (h : SplS w g rT ei vs pl) : g < w.heap.size := (Array.getElem?_eq_some_iff.1 h.blk).1
theorem SplS.start (n : Nat) (hb : w.heap[g]? = some (.cells (List.replicate n (.slice none 0 0)).toArray rT (0, 0))) : SplS w g rT ei (List.replicate n (.slice none 0 0)) (List.replicate n []) :=
  ⟨by simp, hb, fun j h1 h2 => by simp only [List.getElem_replicate]; exact ⟨rfl, .inl ⟨rfl, rfl⟩⟩, fun j h1 k h2 _ i hi => by simp [Value.ownBlock] at hi⟩
theorem SplS.shape (h : SplS w g rT ei vs pl) {s : Nat} (hs : s < vs.length) (hp : s < pl.length) : ∃ a c, vs[s] = .slice a pl[s].length c ∧ w.cell? ⟨g, s, none⟩ = some (.slice a pl[s].length c) ∧ w.frozen? ⟨g, s, none⟩ = false ∧ (vs[s]).ownBlock ≠ some g := by
  obtain ⟨a, c, e, _⟩ := Sl.open (Sl.of_owns (h.inn s hs hp))
  refine ⟨a, c, e, ?_, ?_, fun hi => ?_⟩
  · rw [← e]; simp [World.cell?, h.blk, hs]
  · simp [World.frozen?, h.blk]
  · have := (own_in (h.inn s hs hp) hi).1; omega
theorem SplS.step (h : SplS w g rT ei vs pl) {s : Nat} (hs : s < vs.length) (hp : s < pl.length) {v' : Value} {x : Nat} (h1 : w'.ownsRow (g + 1) ei 1 v' (pl[s].length + 1) (pl[s].map natV ++ [natV x])) (k2 : Kp (fun i => vs[s].ownBlock = some i) w w') (h3 : v'.ownBlock = vs[s].ownBlock ∨ v'.ownBlock = some w.heap.size) :
    SplS (w'.setCell ⟨g, s, none⟩ v') g rT ei (vs.set s v') (pl.set s (pl[s] ++ [x])) := by
  obtain ⟨_, _, _, _, _, hg⟩ := h.shape hs hp
  have hb' := k2.obj h.blk hg
  have hk : Kp (fun i => i = g) w' (w'.setCell ⟨g, s, none⟩ v') := (Kp.refl _ _).setCell _ _ (fun _ => rfl)
  have away : ∀ (j : Nat) (hj : j < vs.length), j ≠ s → ∀ i, vs[j].ownBlock = some i → v'.ownBlock ≠ some i := by
    intro j hj hne i hi e
    rcases h3 with h3 | h3
    · exact h.apart j hj s hs hne i hi (by rw [← h3]; exact e)
    · rw [h3] at e
      have := (own_in (h.inn j hj (by rw [← h.len]; exact hj)) hi).2
      simp only [Option.some.injEq] at e
      omega
  refine ⟨by simp [h.len], ?_, fun j j1 j2 => ?_, fun j j1 k j2 hne i hi => ?_⟩
  · have : (vs.set s v').toArray = vs.toArray.setIfInBounds s v' := by simp
    rw [this]
    simp [World.setCell, Array.getElem?_modify, hb']
  · rw [List.length_set] at j1 j2
    by_cases hj : s = j
    · subst hj
      simp only [List.getElem_set_self]
      refine ownsRow.kp (S := fun i => i = g) ?_ hk (fun i hi e => ?_)
      · rw [List.map_append, List.length_append]; exact h1
      · have := (own_in h1 hi).1; omega
    · simp only [List.getElem_set_ne hj]
      refine ownsRow.kp (ownsRow.kp (h.inn j j1 j2) k2 (fun i hi e => h.apart j j1 s hs (fun e => hj e.symm) i hi e)) hk (fun i hi e => ?_)
      have := (own_in (h.inn j j1 j2) hi).1; omega
  · rw [List.length_set] at j1 j2
    by_cases e1 : s = j
    · subst e1
      rw [List.getElem_set_self] at hi
      rw [List.getElem_set_ne hne]
      exact fun e => away k j2 (fun e => hne e.symm) i e hi
    · rw [List.getElem_set_ne e1] at hi
      by_cases e2 : s = k
      · subst e2
        rw [List.getElem_set_self]
        exact away j j1 (fun e => e1 e.symm) i hi
      · rw [List.getElem_set_ne e2]
        exact h.apart j j1 k j2 hne i hi
theorem SplS.read (h : SplS w g rT ei vs pl) (hm : vs.length ≤ maxLen) {n : Nat} (hn : vs.length = n) : RowsR w (.slice (some ⟨g, 0, none⟩) n n) vs pl := by
  subst hn
  exact ⟨h.len, ⟨Sl.of_block h.blk (by simp) hm (Nat.le_refl _), Shp.some⟩, fun j h1 h2 => ⟨Sl.of_owns (by have := h.inn j h1 h2; exact this), shp_owns (h.inn j h1 h2)⟩⟩
end
end Av

/- Walks of package stat: nodes. -/
namespace Go.Proofs.YtdagikbdpeblhaaGreatDoor
set_option maxRecDepth 100000
open Go.RowKit Av

abbrev ndT : TypeId := 38
structure NodeV where
  made : Int
  chg : Int
  ver : Int
  kids : Int
  own : Int
  len : Int
  cnt : Int
  data : ByteArray
  next : Int
  names : List Bs
def ndA (n : NodeV) (nv : Value) : Array Value := #[.int .i64 n.made, .int .i64 n.chg, .int .i64 n.ver, .int .i64 n.kids, .int .i64 n.own, .int .i64 n.len, .int .i64 n.cnt, .string n.data, .int .i64 n.next, nv]
/-- A node at a block. -/
def NdAt (w : World) (g : Nat) (n : NodeV) : Prop := ∃ nv, Blk w g (ndA n nv) ndT ∧ w.ownsRow 0 strT 1 nv n.names.length (n.names.map encStr)
theorem nd_apart {w : World} {g n : Nat} {A : Array Value} {nv : Value} {xs : List Value} (hb : Blk w g A ndT) (hn : w.ownsRow 0 strT 1 nv n xs) {i : Nat} (hi : nv.ownBlock = some i) : i ≠ g := by
  rintro rfl
  obtain ⟨_, ⟨rfl, _⟩ | ⟨b, c, cur, rfl, _, hg, _⟩⟩ := hn
  · simp [Value.ownBlock] at hi
  · simp only [Value.ownBlock, Option.some.injEq] at hi
    subst hi
    have hb' : w.heap[b]? = some (.cells A ndT (0, 0)) := hb
    rw [hb'] at hg
    simp only [Option.some.injEq, Obj.cells.injEq] at hg
    exact absurd hg.2.1 (by decide)
def moreI (n : Int) : Int := if 2147483647 ≤ n then n else n + 1
set_option maxHeartbeats 400000 in
theorem more_any (n : Int) (w : World) (h0 : -9223372036854775808 ≤ n) : Calls Tryz.prog 169 #[.int .i64 n] w fun e w' => e = .returned (.int .i64 (moreI n)) ∧ w = w' := by
  by_cases h : 2147483647 ≤ n
  · have HE : Hid (moreI n = n) := if_pos h
    go_enter Tryz.func169, Tryz.ntmps169
    go_wp2_with (fail)
    go_ret
    exact ⟨ret_val (by rw [HE.out]; rfl), rfl⟩
  · have HE : Hid (moreI n = n + 1) := if_neg h
    go_enter Tryz.func169, Tryz.ntmps169
    go_wp2_with (fail)
    go_ret
    exact ⟨ret_val (by rw [HE.out]; rfl), rfl⟩
def ndNew (z o : Int) (d : ByteArray) : NodeV := ⟨z, z, 0, 0, o, d.size, 0, d, 0, []⟩
set_option maxHeartbeats 800000 in
theorem statNew_any (z o : Int) (d : ByteArray) (w : World) : Calls Tryz.prog 135 #[.int .i64 z, .int .i64 o, .string d] w fun e w' => e = .returned (.agg (ndA (ndNew z o d) (.slice none 0 0))) ∧ Ext w w' := by
  obtain ⟨wA, hWA⟩ : ∃ wA, w.alloc (.cells #[.int .i64 0, .int .i64 0, .int .i64 0, .int .i64 0, .int .i64 0, .int .i64 0, .int .i64 0, .string ⟨#[]⟩, .int .i64 0, .slice none 0 0] ndT) = wA := ⟨_, rfl⟩
  have hxA : Ext w wA := by rw [← hWA]; exact (Kp.refl _ _).alloc _
  have hA : Blk wA w.heap.size #[.int .i64 0, .int .i64 0, .int .i64 0, .int .i64 0, .int .i64 0, .int .i64 0, .int .i64 0, .string ⟨#[]⟩, .int .i64 0, .slice none 0 0] ndT := by rw [← hWA]; exact heap_alloc_new w _
  have g0 := hA.cell 0 _ rfl
  have g1 := hA.cell 1 _ rfl
  have g2 := hA.cell 2 _ rfl
  have g3 := hA.cell 3 _ rfl
  have g4 := hA.cell 4 _ rfl
  have g5 := hA.cell 5 _ rfl
  have g6 := hA.cell 6 _ rfl
  have g7 := hA.cell 7 _ rfl
  have g8 := hA.cell 8 _ rfl
  have g9 := hA.cell 9 _ rfl
  have f0 := hA.free 0
  have f1 := hA.free 1
  have f2 := hA.free 2
  have f3 := hA.free 3
  have f4 := hA.free 4
  have f5 := hA.free 5
  have f6 := hA.free 6
  have f7 := hA.free 7
  have f8 := hA.free 8
  have f9 := hA.free 9
  have HF : Hid (∀ u0 u1 u2 u3 u4 u5 u6 u7 u8 u9, Ext w ((((((((((wA.setCell ⟨w.heap.size, 0, none⟩ u0).setCell ⟨w.heap.size, 1, none⟩ u1).setCell ⟨w.heap.size, 2, none⟩ u2).setCell ⟨w.heap.size, 3, none⟩ u3).setCell ⟨w.heap.size, 4, none⟩ u4).setCell ⟨w.heap.size, 5, none⟩ u5).setCell ⟨w.heap.size, 6, none⟩ u6).setCell ⟨w.heap.size, 7, none⟩ u7).setCell ⟨w.heap.size, 8, none⟩ u8).setCell ⟨w.heap.size, 9, none⟩ u9)) := by
    intro u0 u1 u2 u3 u4 u5 u6 u7 u8 u9
    have k : ∀ {W : World} (i : Nat) (u : Value), Ext w W → Ext w (W.setCell ⟨w.heap.size, i, none⟩ u) := fun i u h => h.setCell _ u (fun q => absurd q (Nat.lt_irrefl _))
    exact k 9 u9 (k 8 u8 (k 7 u7 (k 6 u6 (k 5 u5 (k 4 u4 (k 3 u3 (k 2 u2 (k 1 u1 (k 0 u0 hxA)))))))))
  have HWA := Lib.hid hWA
  clear hWA hxA hA
  go_enter Tryz.func135, Tryz.ntmps135
  go_upto_region 1 with (fail)
  rw [HWA.out]
  go_wp2_with (fail)
  go_light
  exact bodyPost_ret (v := .agg #[.int .i64 z, .int .i64 z, .int .i64 0, .int .i64 0, .int .i64 o, .int .i64 d.size, .int .i64 0, .string d, .int .i64 0, .slice none 0 0]) (by simp [results, Tryz.results135, go_sem, g0, g1, g2, g3, g4, g5, g6, g7, g8, g9]) rfl ⟨rfl, HF.out _ _ _ _ _ _ _ _ _ _⟩
set_option maxHeartbeats 400000 in
theorem ephemeral_any (g : Nat) (n : NodeV) (w : World) (h : NdAt w g n) : Calls Tryz.prog 165 #[.pointer (some ⟨g, 0, none⟩)] w fun e w' => e = .returned (.bool (n.own != 0)) ∧ w = w' := by
  obtain ⟨nv, hb, _⟩ := h
  have c4 := hb.cell 4 (.int .i64 n.own) rfl
  generalize n.own = o at c4 ⊢
  clear hb
  go_enter Tryz.func165, Tryz.ntmps165
  go_wp2_with (fail)
  go_ret
  exact ⟨rfl, rfl⟩
def ndWrite (n : NodeV) (z : Int) (d : ByteArray) : NodeV := { n with data := d, chg := z, len := d.size, ver := moreI n.ver }
set_option maxHeartbeats 800000 in
theorem statWrite_any (g : Nat) (n : NodeV) (z : Int) (d : ByteArray) (w : World) (h : NdAt w g n) (h0 : -9223372036854775808 ≤ n.ver) : Calls Tryz.prog 139 #[.pointer (some ⟨g, 0, none⟩), .int .i64 z, .string d] w fun e w' => (∃ u, e = .returned u) ∧ NdAt w' g (ndWrite n z d) ∧ Kp (fun i => i = g) w w' := by
  obtain ⟨nv, hb, hn⟩ := h
  have c1 := hb.cell 1 (.int .i64 n.chg) rfl
  have c2 := hb.cell 2 (.int .i64 n.ver) rfl
  have c5 := hb.cell 5 (.int .i64 n.len) rfl
  have c7 := hb.cell 7 (.string n.data) rfl
  have f1 := hb.free 1
  have f2 := hb.free 2
  have f5 := hb.free 5
  have f7 := hb.free 7
  have HM := Lib.hid (fun W => more_any n.ver W h0)
  have HB := Lib.hid hb
  have HN := Lib.hid hn
  clear hb hn h0
  go_enter Tryz.func139, Tryz.ntmps139
  go_wp2_with (fail)
  refine (HM.out _).mono ?_
  rintro e w1 ⟨rfl, rfl⟩
  go_wp2_with (fail)
  refine bodyPost_end (results_none (by rfl) _ _ _) rfl ⟨⟨_, rfl⟩, ⟨nv, ?_, ?_⟩, ?_⟩
  · exact (((HB.out.set 7 _).set 1 _).set 5 _).set 2 _
  · exact ownsRow.kp (S := fun i => i = g) HN.out (((((Kp.refl (fun i => i = g) w).set1 g 7 _ rfl).set1 g 1 _ rfl).set1 g 5 _ rfl).set1 g 2 _ rfl) (fun i hi e => nd_apart HB.out HN.out hi e)
  · exact ((((Kp.refl (fun i => i = g) w).set1 g 7 _ rfl).set1 g 1 _ rfl).set1 g 5 _ rfl).set1 g 2 _ rfl
theorem owns_zero {w : World} {base k n : Nat} {e : TypeId} {v : Value} {xs : List Value} (h : w.ownsRow base e k v n xs) : w.ownsRow 0 e k v n xs := by
  obtain ⟨h1, h2 | ⟨g, c, cur, hv, hb, hr⟩⟩ := h
  · exact ⟨h1, .inl h2⟩
  · exact ⟨h1, .inr ⟨g, c, cur, hv, Nat.zero_le _, hr⟩⟩
def ndAdd (n : NodeV) (x : Bs) : NodeV := if n.names[lessN x n.names]? = some x then n else { n with names := insN n.names (lessN x n.names) x, cnt := (n.names.length + 1 : Nat), kids := moreI n.kids, next := moreI n.next }
theorem names_own {w : World} {base : Nat} {nv : Value} {l : List Bs} (h : w.ownsRow base strT 1 nv l.length (l.map encStr)) : NmS w nv l := ⟨Sl.of_owns h, shp_owns h⟩
set_option maxHeartbeats 3200000 in
theorem statAdd_any (g : Nat) (n : NodeV) (x : Bs) (w : World) (h : NdAt w g n) (hr : Rising n.names) (hl : n.names.length ≤ 100000) (h0 : -9223372036854775808 ≤ n.kids) (h1 : -9223372036854775808 ≤ n.next) : Calls Tryz.prog 166 #[.pointer (some ⟨g, 0, none⟩), .string ⟨x.toArray⟩] w fun e w' => (∃ u, e = .returned u) ∧ NdAt w' g (ndAdd n x) ∧ Kp (fun i => i = g) w w' := by
  have HND := Lib.hid h
  obtain ⟨nv, hb, hn⟩ := h
  obtain ⟨na, nc, rfl⟩ : ∃ a c, nv = .slice a n.names.length c := by obtain ⟨a, c, e, _⟩ := Sl.open (Sl.of_owns hn); exact ⟨a, c, e⟩
  have c9 := hb.cell 9 (.slice na n.names.length nc) rfl
  have HB := Lib.hid hb
  have HN := Lib.hid hn
  have HS := Lib.hid (search_any _ n.names x w (names_own hn) hr (by omega))
  clear hb hn
  have hle := lessN_le x n.names
  by_cases hin : n.names[lessN x n.names]? = some x
  · have HE : Hid (ndAdd n x = n) := if_pos hin
    rw [decide_eq_true hin] at HS
    clear hin
    go_enter Tryz.func166, Tryz.ntmps166
    go_wp2_with (fail)
    refine HS.out.mono ?_
    rintro e w1 ⟨rfl, hx⟩
    go_wp2_with (fail)
    go_ret
    exact ⟨⟨_, rfl⟩, by rw [HE.out]; exact ⟨_, HB.out.kp hx (fun f => f), ownsRow.ext HN.out hx⟩, Ext.kp hx⟩
  · have HE : Hid (ndAdd n x = { n with names := insN n.names (lessN x n.names) x, cnt := (n.names.length + 1 : Nat), kids := moreI n.kids, next := moreI n.next }) := if_neg hin
    rw [decide_eq_false hin] at HS
    have HIL := Lib.hid (insN_len x hle)
    generalize lessN x n.names = k at HS HE HIL hle
    clear hin
    go_enter Tryz.func166, Tryz.ntmps166
    go_wp2_with (fail)
    refine HS.out.mono ?_
    rintro e w1 ⟨rfl, hx1⟩
    have hb1 := HB.out.kp hx1 (fun f => f)
    have HN1 := Lib.hid (ownsRow.ext HN.out hx1)
    have c9 := hb1.cell 9 (.slice na n.names.length nc) rfl
    have HB1 := Lib.hid hb1
    have HX1 := Lib.hid hx1
    have HCL := Lib.hid (cloneS_any _ n.names w1 (names_own HN1.out) (by omega))
    clear hx1 hb1 HS
    go_wp2_with (fail)
    refine HCL.out.mono ?_
    rintro e w2 ⟨v2, rfl, ho2, hx2⟩
    obtain ⟨wI, hWI⟩ : ∃ wI, w2.alloc (.cells #[.string ⟨x.toArray⟩] strT) = wI := ⟨_, rfl⟩
    have hxI : Ext w2 wI := by rw [← hWI]; exact (Kp.refl _ _).alloc _
    have hbI : Blk wI w2.heap.size #[encStr x] strT := by rw [← hWI]; exact heap_alloc_new w2 _
    have hsz1 := hx2.size
    have hszI := hxI.size
    have hb2 := (HB1.out.kp hx2 (fun f => f)).kp hxI (fun f => f)
    have HIN := Lib.hid (insert_any v2 n.names k x w2.heap.size w1.heap.size wI (ownsRow.ext ho2 hxI) hle hbI (fun e => by have := (own_in ho2 e).2; omega) (by omega) (by omega))
    have HO2 := Lib.hid ho2
    have hgl := HB1.out.lt
    have HB2 := Lib.hid hb2
    have HX2 := Lib.hid ((HX1.out.ext hx2).ext hxI)
    obtain ⟨a2, c2, rfl⟩ := owns_slice ho2
    have HSZ : Hid (g < w1.heap.size ∧ w1.heap.size ≤ w2.heap.size) := ⟨hgl, hsz1⟩
    clear hx2 hxI hbI hb2 ho2 hszI hsz1 hgl HCL
    go_wp2_with (fail)
    refine HIN.out.mono ?_
    rintro e w3 ⟨v3, rfl, ho3, hk3⟩
    have hk3' : Ext w w3 := HX2.out.next hk3 (fun i hi e => by
      have h1 := (own_in HO2.out e).1
      have h2 := HX1.out.size
      omega)
    have hb3 := HB2.out.kp hk3 (fun e => by have h1 := (own_in HO2.out e).1; have := HSZ.out; omega)
    have d9 := hb3.cell 9 (.slice na n.names.length nc) rfl
    have f9 := hb3.free 9
    have hb4 := hb3.set 9 v3
    have hsl3 : ∃ a c, v3 = .slice a (n.names.length + 1) c := owns_slice ho3
    obtain ⟨a3, c3, rfl⟩ := hsl3
    obtain ⟨w4, hW4⟩ : ∃ w4, w3.setCell ⟨g, 9, none⟩ (.slice a3 (n.names.length + 1) c3) = w4 := ⟨_, rfl⟩
    rw [hW4] at hb4
    have HB4 := Lib.hid hb4
    have e9 := hb4.cell 9 (.slice a3 (n.names.length + 1) c3) rfl
    have e6 := hb4.cell 6 (.int .i64 n.cnt) rfl
    have f6 := hb4.free 6
    have hb5 := hb4.set 6 (.int .i64 ((n.names.length : Int) + 1))
    have HO3 := Lib.hid ho3
    have HK3 := Lib.hid hk3'
    have HZ3 := Lib.hid (And.intro HSZ.out hk3.size)
    have hb6w := Lib.hid hb5
    clear hk3 hk3' hb3 hb4 ho3 hb5 hWI c9 HIN
    go_upto_region 6 with (fail)
    have d3 := (hb6w.out).cell 3 (.int .i64 n.kids) rfl
    have d8 := (hb6w.out).cell 8 (.int .i64 n.next) rfl
    have p3 := (hb6w.out).free 3
    have p8 := (hb6w.out).free 8
    obtain ⟨w5, hW5⟩ : ∃ w5, w4.setCell ⟨g, 6, none⟩ (.int .i64 ((n.names.length : Int) + 1)) = w5 := ⟨_, rfl⟩
    have HF : Hid (NdAt (((w5.setCell ⟨g, 3, none⟩ (.int .i64 (moreI n.kids))).setCell ⟨g, 8, none⟩ (.int .i64 (moreI n.next))).drew) g (ndAdd n x) ∧ Kp (fun i => i = g) w (((w5.setCell ⟨g, 3, none⟩ (.int .i64 (moreI n.kids))).setCell ⟨g, 8, none⟩ (.int .i64 (moreI n.next))).drew)) := by
      have k35 : Kp (fun i => i = g) w3 (((w5.setCell ⟨g, 3, none⟩ (.int .i64 (moreI n.kids))).setCell ⟨g, 8, none⟩ (.int .i64 (moreI n.next))).drew) := by
        rw [← hW5, ← hW4]
        exact (((((Kp.refl (fun i => i = g) w3).set1 g 9 _ rfl).set1 g 6 _ rfl).set1 g 3 _ rfl).set1 g 8 _ rfl).drew
      refine ⟨⟨.slice a3 (n.names.length + 1) c3, ?_, ?_⟩, (Ext.kp HK3.out).trans k35⟩
      · have hb := hb6w.out
        rw [hW5] at hb
        rw [HE.out]
        exact (hb.set 3 _).set 8 _
      · rw [HE.out]
        show World.ownsRow _ 0 strT 1 _ (insN n.names k x).length ((insN n.names k x).map encStr)
        rw [HIL.out]
        exact owns_zero (ownsRow.kp HO3.out k35 (fun i hi e => by have h1 := (own_in HO3.out hi).1; have := HSZ.out; omega))
    rw [hW5] at d3 d8 p3 p8 ⊢
    have HM := Lib.hid (fun v (h : -9223372036854775808 ≤ v) W => more_any v W h)
    have H01 := Lib.hid (And.intro h0 h1)
    clear hW5 hW4 d9 f9 e9 e6 f6 hr hl hle h0 h1
    go_region_with ((with_reducible refine (HM.out _ (by first | exact H01.out.1 | exact H01.out.2) _).mono ?_); rintro e wm ⟨rfl, rfl⟩)
    all_goals
      go_wp2_with (fail)
      go_ret
      go_light
      exact ⟨⟨_, rfl⟩, HF.out.1, HF.out.2⟩
end Go.Proofs.YtdagikbdpeblhaaGreatDoor
