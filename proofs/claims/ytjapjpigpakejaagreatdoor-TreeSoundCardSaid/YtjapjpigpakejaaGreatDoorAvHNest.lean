/- Slices of slices of numbers: read, and made. No program. -/
import Derived.Test.YtjapjpigpakejaaGreatDoorAvG6
namespace Av
set_option maxRecDepth 100000
open Go Go.RowKit
abbrev natV (n : Nat) : Value := .int .i64 (n : Int)
/-- Numbers that can be read. -/
def NatsR (w : World) (v : Value) (l : List Nat) : Prop := Sl w 1 v l.length (l.map natV) ∧ Shp v
theorem NatsR.kp {S : Nat → Prop} {w w' : World} {v : Value} {l : List Nat} (h : NatsR w v l) (k : Kp S w w') (hs : ∀ i, v.ownBlock = some i → ¬ S i) : NatsR w' v l := ⟨Sl.kp h.1 k (fun i hi _ => hs i hi), h.2⟩
theorem NatsR.ext {w w' : World} {v : Value} {l : List Nat} (h : NatsR w v l) (k : Ext w w') : NatsR w' v l := ⟨Sl.ext h.1 k, h.2⟩
theorem NatsR.nil (w : World) : NatsR w (.slice none 0 0) [] := ⟨Sl.nil w 1, .inl rfl⟩
theorem NatsR.open {w : World} {v : Value} {l : List Nat} (h : NatsR w v l) : ∃ a c, v = .slice a l.length c ∧ l.length ≤ c ∧ l.length ≤ maxLen ∧ (0 < l.length → ∃ b off, a = some ⟨b, off, none⟩ ∧ b < w.heap.size ∧ ∀ i (hi : i < l.length), w.cell? ⟨b, off + i, none⟩ = some (.int .i64 (l[i] : Int))) := by
  obtain ⟨a, c, rfl, hcc, h1, h2, h3⟩ := Sl.open h.1
  refine ⟨a, c, rfl, hcc, h1, fun hn => ?_⟩
  obtain ⟨b, off, rfl, hb, hc⟩ := h3 hn
  exact ⟨b, off, rfl, hb, fun i hi => hc i _ (by rw [List.getElem?_map, List.getElem?_eq_getElem hi]; rfl)⟩
theorem nat_one (l : List Nat) : ∀ y ∈ l.map natV, y.oneCell' = true := by
  intro y hy
  obtain ⟨n, _, rfl⟩ := List.mem_map.1 hy
  rfl
/-- Rows of numbers that can be read: vs are the rows' own slices. -/
structure RowsR (w : World) (v : Value) (vs : List Value) (pl : List (List Nat)) : Prop where
  len : vs.length = pl.length
  row : Sl w 1 v vs.length vs ∧ Shp v
  inn : ∀ (j : Nat) (h1 : j < vs.length) (h2 : j < pl.length), NatsR w vs[j] pl[j]
theorem RowsR.kp {S : Nat → Prop} {w w' : World} {v : Value} {vs : List Value} {pl : List (List Nat)} (h : RowsR w v vs pl) (k : Kp S w w') (hs : ∀ i, v.ownBlock = some i → ¬ S i) (hi : ∀ (j : Nat) (h1 : j < vs.length), ∀ i, vs[j].ownBlock = some i → ¬ S i) : RowsR w' v vs pl :=
  ⟨h.len, ⟨Sl.kp h.row.1 k (fun i hi _ => hs i hi), h.row.2⟩, fun j h1 h2 => (h.inn j h1 h2).kp k (hi j h1)⟩
theorem RowsR.ext {w w' : World} {v : Value} {vs : List Value} {pl : List (List Nat)} (h : RowsR w v vs pl) (k : Ext w w') : RowsR w' v vs pl := h.kp k (fun _ _ f => f) (fun _ _ _ _ f => f)
theorem RowsR.open {w : World} {v : Value} {vs : List Value} {pl : List (List Nat)} (h : RowsR w v vs pl) : ∃ a c, v = .slice a pl.length c ∧ pl.length ≤ c ∧ pl.length ≤ maxLen ∧ (0 < pl.length → ∃ b off, a = some ⟨b, off, none⟩ ∧ b < w.heap.size ∧ ∀ i (hi : i < pl.length), ∃ a' c', w.cell? ⟨b, off + i, none⟩ = some (.slice a' pl[i].length c') ∧ NatsR w (.slice a' pl[i].length c') pl[i]) := by
  obtain ⟨a, c, rfl, hcc, h1, h2, h3⟩ := Sl.open h.row.1
  have hl := h.len
  refine ⟨a, c, by rw [hl], by omega, by omega, fun hn => ?_⟩
  obtain ⟨b, off, rfl, hb, hc⟩ := h3 (by omega)
  refine ⟨b, off, rfl, hb, fun i hi => ?_⟩
  have hin := h.inn i (by omega) hi
  obtain ⟨a', c', e, _⟩ := hin.open
  exact ⟨a', c', by rw [← e]; exact hc i _ (List.getElem?_eq_getElem (by omega)), by rw [← e]; exact hin⟩
/-- Rows of numbers that a call owns: each in a block of its own. -/
structure RowsO (w : World) (base : Nat) (e ei : TypeId) (v : Value) (vs : List Value) (pl : List (List Nat)) : Prop where
  len : vs.length = pl.length
  row : w.ownsRow base e 1 v vs.length vs
  inn : ∀ (j : Nat) (h1 : j < vs.length) (h2 : j < pl.length), w.ownsRow base ei 1 vs[j] pl[j].length (pl[j].map natV)
  apart : ∀ (j : Nat) (h1 : j < vs.length) (i : Nat), vs[j].ownBlock = some i → ¬ v.ownBlock = some i ∧ ∀ (k : Nat) (h2 : k < vs.length), k ≠ j → ¬ vs[k].ownBlock = some i
theorem shp_of_owns {w : World} {base : Nat} {e : TypeId} {k : Nat} {v : Value} {n : Nat} {xs : List Value} (h : w.ownsRow base e k v n xs) : Shp v := shp_owns h
theorem RowsO.read {w : World} {base : Nat} {e ei : TypeId} {v : Value} {vs : List Value} {pl : List (List Nat)} (h : RowsO w base e ei v vs pl) : RowsR w v vs pl :=
  ⟨h.len, ⟨Sl.of_owns h.row, shp_owns h.row⟩, fun j h1 h2 => ⟨Sl.of_owns (h.inn j h1 h2), shp_owns (h.inn j h1 h2)⟩⟩
theorem RowsO.ext {w w' : World} {base : Nat} {e ei : TypeId} {v : Value} {vs : List Value} {pl : List (List Nat)} (h : RowsO w base e ei v vs pl) (k : Ext w w') : RowsO w' base e ei v vs pl :=
  ⟨h.len, ownsRow.ext h.row k, fun j h1 h2 => ownsRow.ext (h.inn j h1 h2) k, h.apart⟩
theorem RowsR.at {w : World} {g n c : Nat} {vs : List Value} {pl : List (List Nat)} (h : RowsR w (.slice (some ⟨g, 0, none⟩) n c) vs pl) (k : Nat) (hk : k < pl.length) :
    ∃ (hv : k < vs.length) (a' : Option Addr) (c' : Nat), vs[k] = .slice a' pl[k].length c' ∧ w.cell? ⟨g, k, none⟩ = some (.slice a' pl[k].length c') ∧ NatsR w (.slice a' pl[k].length c') pl[k] ∧ g < w.heap.size := by
  obtain ⟨a, c2, e1, hcc, h1, h2, h3⟩ := Sl.open h.row.1
  have hl := h.len
  obtain ⟨b, off, e2, hb, hc⟩ := h3 (by omega)
  simp only [Value.slice.injEq] at e1
  rw [e2] at e1
  simp only [Option.some.injEq, Addr.mk.injEq, and_true] at e1
  obtain ⟨⟨rfl, rfl⟩, _, _⟩ := e1
  have hv : k < vs.length := by omega
  have hin := h.inn k hv hk
  obtain ⟨a', c', e, _⟩ := hin.open
  refine ⟨hv, a', c', e, ?_, by rw [← e]; exact hin, hb⟩
  have := hc k _ (List.getElem?_eq_getElem hv)
  rw [Nat.zero_add] at this
  rw [← e]; exact this
theorem owns_slice {w : World} {base k n : Nat} {e : TypeId} {v : Value} {xs : List Value} (h : w.ownsRow base e k v n xs) : ∃ a c, v = .slice a n c := by
  obtain ⟨a, c, e, _⟩ := Sl.open (Sl.of_owns h)
  exact ⟨a, c, e⟩
theorem own_in {w : World} {base k n : Nat} {e : TypeId} {v : Value} {xs : List Value} (h : w.ownsRow base e k v n xs) {i : Nat} (hi : v.ownBlock = some i) : base ≤ i ∧ i < w.heap.size := by
  obtain ⟨_, ⟨rfl, _⟩ | ⟨g, cap, cur, rfl, hb, hg, _⟩⟩ := h
  · simp [Value.ownBlock] at hi
  · simp only [Value.ownBlock, Option.some.injEq] at hi
    subst hi
    exact ⟨hb, (Array.getElem?_eq_some_iff.1 hg).1⟩
/-- Rows in a block g: each behind g, no two in one block. -/
structure SplS (w : World) (g : Nat) (rT ei : TypeId) (vs : List Value) (pl : List (List Nat)) : Prop where
  len : vs.length = pl.length
  blk : w.heap[g]? = some (.cells vs.toArray rT (0, 0))
  inn : ∀ (j : Nat) (h1 : j < vs.length) (h2 : j < pl.length), w.ownsRow (g + 1) ei 1 vs[j] pl[j].length (pl[j].map natV)
  apart : ∀ (j : Nat) (h1 : j < vs.length) (k : Nat) (h2 : k < vs.length), j ≠ k → ∀ i, vs[j].ownBlock = some i → vs[k].ownBlock ≠ some i
section
variable {w w' : World} {g : Nat} {rT ei : TypeId} {vs : List Value} {pl : List (List Nat)}
theorem SplS.ext (h : SplS w g rT ei vs pl) (k : Ext w w') : SplS w' g rT ei vs pl := ⟨h.len, k.obj h.blk (fun f => f), fun j h1 h2 => ownsRow.ext (h.inn j h1 h2) k, h.apart⟩
theorem SplS.lt (h : SplS w g rT ei vs pl) : g < w.heap.size := (Array.getElem?_eq_some_iff.1 h.blk).1
theorem SplS.start (n : Nat) (hb : w.heap[g]? = some (.cells (List.replicate n (.slice none 0 0)).toArray rT (0, 0))) : SplS w g rT ei (List.replicate n (.slice none 0 0)) (List.replicate n []) :=
  ⟨by simp, hb, fun j h1 h2 => by simp only [List.getElem_replicate]; exact ⟨rfl, .inl ⟨rfl, rfl⟩⟩, fun j h1 k h2 _ i hi => by simp [Value.ownBlock] at hi⟩
theorem SplS.shape (h : SplS w g rT ei vs pl) {s : Nat} (hs : s < vs.length) (hp : s < pl.length) : ∃ a c, vs[s] = .slice a pl[s].length c ∧ w.cell? ⟨g, s, none⟩ = some (.slice a pl[s].length c) ∧ w.frozen? ⟨g, s, none⟩ = false ∧ (vs[s]).ownBlock ≠ some g := by
  obtain ⟨a, c, e, _⟩ := Sl.open (Sl.of_owns (h.inn s hs hp))
  refine ⟨a, c, e, ?_, ?_, fun hi => ?_⟩
  · rw [← e]; simp [World.cell?, h.blk, hs]
  · simp [World.frozen?, h.blk]
  · have := (own_in (h.inn s hs hp) hi).1; omega
theorem SplS.step (h : SplS w g rT ei vs pl) {s : Nat} (hs : s < vs.length) (hp : s < pl.length) {v' : Value} {x : Nat} (h1 : w'.ownsRow (g + 1) ei 1 v' (pl[s].length + 1) (pl[s].map natV ++ [natV x])) (k2 : Kp (fun i => vs[s].ownBlock = some i) w w') (h3 : v'.ownBlock = vs[s].ownBlock ∨ v'.ownBlock = some w.heap.size) :
    SplS (w'.setCell ⟨g, s, none⟩ v') g rT ei (vs.set s v') (pl.set s (pl[s] ++ [x])) := by
  obtain ⟨_, _, _, _, _, hg⟩ := h.shape hs hp
  have hb' := k2.obj h.blk hg
  have hk : Kp (fun i => i = g) w' (w'.setCell ⟨g, s, none⟩ v') := (Kp.refl _ _).setCell _ _ (fun _ => rfl)
  have away : ∀ (j : Nat) (hj : j < vs.length), j ≠ s → ∀ i, vs[j].ownBlock = some i → v'.ownBlock ≠ some i := by
    intro j hj hne i hi e
    rcases h3 with h3 | h3
    · exact h.apart j hj s hs hne i hi (by rw [← h3]; exact e)
    · rw [h3] at e
      have := (own_in (h.inn j hj (by rw [← h.len]; exact hj)) hi).2
      simp only [Option.some.injEq] at e
      omega
  refine ⟨by simp [h.len], ?_, fun j j1 j2 => ?_, fun j j1 k j2 hne i hi => ?_⟩
  · have : (vs.set s v').toArray = vs.toArray.setIfInBounds s v' := by simp
    rw [this]
    simp [World.setCell, Array.getElem?_modify, hb']
  · rw [List.length_set] at j1 j2
    by_cases hj : s = j
    · subst hj
      simp only [List.getElem_set_self]
      refine ownsRow.kp (S := fun i => i = g) ?_ hk (fun i hi e => ?_)
      · rw [List.map_append, List.length_append]; exact h1
      · have := (own_in h1 hi).1; omega
    · simp only [List.getElem_set_ne hj]
      refine ownsRow.kp (ownsRow.kp (h.inn j j1 j2) k2 (fun i hi e => h.apart j j1 s hs (fun e => hj e.symm) i hi e)) hk (fun i hi e => ?_)
      have := (own_in (h.inn j j1 j2) hi).1; omega
  · rw [List.length_set] at j1 j2
    by_cases e1 : s = j
    · subst e1
      rw [List.getElem_set_self] at hi
      rw [List.getElem_set_ne hne]
      exact fun e => away k j2 (fun e => hne e.symm) i e hi
    · rw [List.getElem_set_ne e1] at hi
      by_cases e2 : s = k
      · subst e2
        rw [List.getElem_set_self]
        exact away j j1 (fun e => e1 e.symm) i hi
      · rw [List.getElem_set_ne e2]
        exact h.apart j j1 k j2 hne i hi
theorem SplS.read (h : SplS w g rT ei vs pl) (hm : vs.length ≤ maxLen) {n : Nat} (hn : vs.length = n) : RowsR w (.slice (some ⟨g, 0, none⟩) n n) vs pl := by
  subst hn
  exact ⟨h.len, ⟨Sl.of_block h.blk (by simp) hm (Nat.le_refl _), Shp.some⟩, fun j h1 h2 => ⟨Sl.of_owns (by have := h.inn j h1 h2; exact this), shp_owns (h.inn j h1 h2)⟩⟩
end
end Av
