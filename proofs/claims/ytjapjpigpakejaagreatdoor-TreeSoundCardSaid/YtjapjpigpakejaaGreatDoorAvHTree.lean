/- A tree's memory. -/
import Derived.Test.YtjapjpigpakejaaGreatDoorAvHWStatB
import Derived.Test.YtjapjpigpakejaaGreatDoorAvMap
namespace Go.Proofs.YtjapjpigpakejaaGreatDoor
set_option maxRecDepth 100000
open Go.RowKit Av

abbrev trT : TypeId := 77
/-- A tree: paths, each with its node's block and the node. -/
abbrev Tr := List (ByteArray × (Nat × NodeV))
def ptrs (t : Tr) : List (ByteArray × Value) := t.map fun e => (e.1, .pointer (some ⟨e.2.1, 0, none⟩))
structure TreeR (w : World) (base b m : Nat) (room : Int) (t : Tr) : Prop where
  low : base ≤ b ∧ base ≤ m ∧ ∀ e ∈ t, base ≤ e.2.1
  blk : Blk w b #[.int .i64 room, .map (some m)] trT
  map : MapK Value.string w m (ptrs t)
  nod : ∀ e ∈ t, NdAt w e.2.1 e.2.2
  inj : ∀ e ∈ t, ∀ f ∈ t, e.2.1 = f.2.1 → e.1 = f.1
theorem kStr : KOk Tryz.prog 9 Value.string := KOk.string Tryz.underlying9
theorem tNodes : Tryz.prog.underlying 75 = some (.map 9 83) := Tryz.underlying75
theorem NdAt.ext {w w' : World} {g : Nat} {n : NodeV} (h : NdAt w g n) (k : Ext w w') : NdAt w' g n := by
  obtain ⟨nv, h1, h2⟩ := h
  exact ⟨nv, h1.kp k (fun f => f), ownsRow.ext h2 k⟩
theorem NdAt.lt {w : World} {g : Nat} {n : NodeV} (h : NdAt w g n) : g < w.heap.size := by
  obtain ⟨nv, h1, _⟩ := h
  exact h1.lt
/-- What is written is a node's block or no block of cells at all: another node stands. -/
theorem NdAt.kp {w w' : World} {S : Nat → Prop} {g : Nat} {n : NodeV} (h : NdAt w g n) (k : Kp S w w') (hg : ¬ S g) (hs : ∀ i cur f, S i → w.heap[i]? ≠ some (.cells cur strT f)) : NdAt w' g n := by
  obtain ⟨nv, h1, h2⟩ := h
  refine ⟨nv, h1.kp k hg, ownsRow.kp h2 k (fun i hi hsi => ?_)⟩
  obtain ⟨_, ⟨rfl, _⟩ | ⟨q, c, cur, rfl, _, hq, _⟩⟩ := h2
  · simp [Value.ownBlock] at hi
  · simp only [Value.ownBlock, Option.some.injEq] at hi
    subst hi
    exact hs q cur _ hsi hq
theorem mset_same {α : Type} {l : List (ByteArray × α)} {k : ByteArray} {v : α} (h : mget l k = some v) : mset l k v = l := by
  induction l with
  | nil => cases h
  | cons a r ih =>
    unfold mget at h
    unfold mset
    by_cases hk : k = a.1
    · rw [if_pos hk] at h ⊢
      simp only [Option.some.injEq] at h
      subst hk h
      rfl
    · rw [if_neg hk] at h ⊢
      rw [ih h]
theorem mem_mset {α : Type} {l : List (ByteArray × α)} (hn : (l.map (·.1)).Nodup) {k : ByteArray} {v : α} {e : ByteArray × α} (h : e ∈ mset l k v) : e = (k, v) ∨ (e ∈ l ∧ e.1 ≠ k) := by
  obtain ⟨q, u⟩ := e
  have h1 := mget_of_mem (mset_nodup hn k v) h
  rw [mget_mset] at h1
  by_cases hk : q = k
  · rw [if_pos hk] at h1
    simp only [Option.some.injEq] at h1
    left
    rw [hk, h1]
  · rw [if_neg hk] at h1
    exact .inr ⟨mget_mem h1, hk⟩
section
variable {w w' : World} {base b m : Nat} {room : Int} {t : Tr}
theorem TreeR.ext (h : TreeR w base b m room t) (k : Ext w w')   : TreeR w' base b m room t := ⟨h.low, h.blk.kp k (fun f => f), h.map.ext k, fun e he => (h.nod e he).ext k, h.inj⟩
theorem TreeR.keys (h : TreeR w base b m room t) : (t.map (·.1)).Nodup := by
  have := h.map.nodup
  unfold ptrs at this
  rwa [List.map_map] at this
theorem mget_ptrs (t : Tr) (p : ByteArray) : mget (ptrs t) p = (mget t p).map fun e => .pointer (some ⟨e.1, 0, none⟩) := mget_map (fun e : Nat × NodeV => Value.pointer (some ⟨e.1, 0, none⟩)) t p
/-- A node is written in place. -/
theorem TreeR.put (h : TreeR w base b m room t) {p : ByteArray} {g : Nat} {n n' : NodeV} (hp : mget t p = some (g, n)) (hn : NdAt w' g n') (k : Kp (fun i => i = g) w w') : TreeR w' base b m room (mset t p (g, n')) := by
  have hm := mget_mem hp
  have hg := h.nod _ hm
  have hgb : ∀ A, w.heap[g]? = some (.cells A ndT (0, 0)) → True := fun _ _ => trivial
  obtain ⟨nv, hb, _⟩ := hg
  have hb' : w.heap[g]? = some (.cells (ndA n nv) ndT (0, 0)) := hb
  have hbg : b ≠ g := by
    rintro rfl
    have h1 : w.heap[b]? = some (.cells #[.int .i64 room, .map (some m)] trT (0, 0)) := h.blk
    rw [hb'] at h1
    simp only [Option.some.injEq, Obj.cells.injEq] at h1
    exact absurd h1.2.1 (by decide)
  have hmg : m ≠ g := by
    rintro rfl
    obtain ⟨L, clock, hr, _⟩ := h.map
    have h1 := hr.1
    rw [hb'] at h1
    simp at h1
  have hkey : ptrs (mset t p (g, n')) = ptrs t := by
    have h1 := mset_map (fun e : Nat × NodeV => Value.pointer (some ⟨e.1, 0, none⟩)) t p (g, n')
    show (mset t p (g, n')).map _ = _
    rw [← h1]
    exact mset_same (l := ptrs t) (by rw [mget_ptrs, hp]; rfl)
  have hkn := h.keys
  have hown : ∀ i cur f, i = g → w.heap[i]? ≠ some (.cells cur strT f) := by
    rintro i cur f rfl e
    rw [hb'] at e
    simp only [Option.some.injEq, Obj.cells.injEq] at e
    exact absurd e.2.1 (by decide)
  refine ⟨⟨h.low.1, h.low.2.1, fun e he => ?_⟩, h.blk.kp k hbg, by rw [hkey]; exact h.map.kp k hmg, fun e he => ?_, fun e he f hf hef => ?_⟩
  · rcases mem_mset hkn he with rfl | ⟨he, _⟩
    · exact h.low.2.2 (p, g, n) hm
    · exact h.low.2.2 e he
  · rcases mem_mset hkn he with rfl | ⟨he, hne⟩
    · exact hn
    · exact (h.nod e he).kp k (fun e2 => hne (h.inj e he _ hm e2)) hown
  · rcases mem_mset hkn he with rfl | ⟨he, hne⟩
    · rcases mem_mset hkn hf with rfl | ⟨hf, hnf⟩
      · rfl
      · exact absurd (h.inj _ hm f hf hef).symm hnf
    · rcases mem_mset hkn hf with rfl | ⟨hf, hnf⟩
      · exact absurd (h.inj e he _ hm hef) hne
      · exact h.inj e he f hf hef
/-- A node is laid at a path: a block of its own. -/
theorem TreeR.lay (h : TreeR w base b m room t) {p : ByteArray} {g : Nat} {n : NodeV} (hgb : base ≤ g) (hn : NdAt w g n) (hg : ∀ e ∈ t, e.2.1 ≠ g) (hmap : MapK Value.string w' m (mset (ptrs t) p (.pointer (some ⟨g, 0, none⟩)))) (k : Kp (fun i => i = m) w w') : TreeR w' base b m room (mset t p (g, n)) := by
  have hmo : ∀ cur T f, w.heap[m]? ≠ some (.cells cur T f) := by
    intro cur T f e
    obtain ⟨L, clock, hr, _⟩ := h.map
    have h1 := hr.1
    rw [e] at h1
    simp at h1
  have hbm : b ≠ m := by
    rintro rfl
    exact hmo _ _ _ (show w.heap[b]? = some (.cells #[.int .i64 room, .map (some b)] trT (0, 0)) from h.blk)
  have hkn := h.keys
  have hgm : ∀ {q : Nat} {x : NodeV}, NdAt w q x → q ≠ m := by
    rintro q x ⟨nv, h1, _⟩ rfl
    exact hmo _ _ _ (show w.heap[q]? = some (.cells (ndA x nv) ndT (0, 0)) from h1)
  refine ⟨⟨h.low.1, h.low.2.1, fun e he => ?_⟩, h.blk.kp k hbm, ?_, fun e he => ?_, fun e he f hf hef => ?_⟩
  · rcases mem_mset hkn he with rfl | ⟨he, _⟩
    · exact hgb
    · exact h.low.2.2 e he
  · show MapK _ _ _ ((mset t p (g, n)).map _)
    rw [← mset_map (fun e : Nat × NodeV => Value.pointer (some ⟨e.1, 0, none⟩)) t p (g, n)]
    exact hmap
  · rcases mem_mset hkn he with rfl | ⟨he, _⟩
    · exact hn.kp k (hgm hn) (fun i cur f e => by subst e; exact hmo _ _ _)
    · exact (h.nod e he).kp k (hgm (h.nod e he)) (fun i cur f e => by subst e; exact hmo _ _ _)
  · rcases mem_mset hkn he with rfl | ⟨he, hne⟩
    · rcases mem_mset hkn hf with rfl | ⟨hf, hnf⟩
      · rfl
      · exact absurd hef.symm (hg f hf)
    · rcases mem_mset hkn hf with rfl | ⟨hf, hnf⟩
      · exact absurd hef (hg e he)
      · exact h.inj e he f hf hef
/-- A node goes. -/
theorem TreeR.del (h : TreeR w base b m room t) {p : ByteArray} (hmap : MapK Value.string w' m (mdel (ptrs t) p)) (k : Kp (fun i => i = m) w w') : TreeR w' base b m room (mdel t p) := by
  have hmo : ∀ cur T f, w.heap[m]? ≠ some (.cells cur T f) := by
    intro cur T f e
    obtain ⟨L, clock, hr, _⟩ := h.map
    have h1 := hr.1
    rw [e] at h1
    simp at h1
  have hbm : b ≠ m := by
    rintro rfl
    exact hmo _ _ _ (show w.heap[b]? = some (.cells #[.int .i64 room, .map (some b)] trT (0, 0)) from h.blk)
  have hgm : ∀ {q : Nat} {x : NodeV}, NdAt w q x → q ≠ m := by
    rintro q x ⟨nv, h1, _⟩ rfl
    exact hmo _ _ _ (show w.heap[q]? = some (.cells (ndA x nv) ndT (0, 0)) from h1)
  have hsub : ∀ e ∈ mdel t p, e ∈ t := fun e he => (List.mem_filter.1 he).1
  refine ⟨⟨h.low.1, h.low.2.1, fun e he => h.low.2.2 e (hsub e he)⟩, h.blk.kp k hbm, ?_, fun e he => ?_, fun e he f hf hef => h.inj e (hsub e he) f (hsub f hf) hef⟩
  · show MapK _ _ _ ((mdel t p).map _)
    rw [← mdel_map (fun e : Nat × NodeV => Value.pointer (some ⟨e.1, 0, none⟩)) t p]
    exact hmap
  · exact (h.nod e (hsub e he)).kp k (hgm (h.nod e (hsub e he))) (fun i cur f e => by subst e; exact hmo _ _ _)
end
end Go.Proofs.YtjapjpigpakejaaGreatDoor
