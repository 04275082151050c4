/- Texts put together: AvTree, AvLock, AvWPathB. -/
import Derived.Test.YtjapjpigpakejaaGreatDoorAvHWStatB
import Derived.Test.YtjapjpigpakejaaGreatDoorAvHMap
import Derived.Test.YtjapjpigpakejaaGreatDoorAvG2
import Derived.Test.YtjapjpigpakejaaGreatDoorAvG4

/- A tree's memory. -/
namespace Go.Proofs.YtjapjpigpakejaaGreatDoor
set_option maxRecDepth 100000
open Go.RowKit Av

abbrev trT : TypeId := 77
/-- A tree: paths, each with its node's block and the node. -/
abbrev Tr := List (ByteArray × (Nat × NodeV))
def ptrs (t : Tr) : List (ByteArray × Value) := t.map fun e => (e.1, .pointer (some ⟨e.2.1, 0, none⟩))
structure TreeR (w : World) (base b m : Nat) (room : Int) (t : Tr) : Prop where
  low : base ≤ b ∧ base ≤ m ∧ ∀ e ∈ t, base ≤ e.2.1
  blk : Blk w b #[.int .i64 room, .map (some m)] trT
  map : MapK Value.string w m (ptrs t)
  nod : ∀ e ∈ t, NdAt w e.2.1 e.2.2
  inj : ∀ e ∈ t, ∀ f ∈ t, e.2.1 = f.2.1 → e.1 = f.1
theorem kStr : KOk Tryz.prog 9 Value.string := KOk.string Tryz.underlying9
theorem tNodes : Tryz.prog.underlying 75 = some (.map 9 83) := Tryz.underlying75
theorem NdAt.ext {w w' : World} {g : Nat} {n : NodeV} (h : NdAt w g n) (k : Ext w w') : NdAt w' g n := by
  obtain ⟨nv, h1, h2⟩ := h
  exact ⟨nv, h1.kp k (fun f => f), ownsRow.ext h2 k⟩
theorem NdAt.lt {w : World} {g : Nat} {n : NodeV} (h : NdAt w g n) : g < w.heap.size := by
  obtain ⟨nv, h1, _⟩ := h
  exact h1.lt
/-- What is written is a node's block or no block of cells at all: another node stands. -/
theorem NdAt.kp {w w' : World} {S : Nat → Prop} {g : Nat} {n : NodeV} (h : NdAt w g n) (k : Kp S w w') (hg : ¬ S g) (hs : ∀ i cur f, S i → w.heap[i]? ≠ some (.cells cur strT f)) : NdAt w' g n := by
  obtain ⟨nv, h1, h2⟩ := h
  refine ⟨nv, h1.kp k hg, ownsRow.kp h2 k (fun i hi hsi => ?_)⟩
  obtain ⟨_, ⟨rfl, _⟩ | ⟨q, c, cur, rfl, _, hq, _⟩⟩ := h2
  · simp [Value.ownBlock] at hi
  · simp only [Value.ownBlock, Option.some.injEq] at hi
    subst hi
    exact hs q cur _ hsi hq
theorem mset_same {α : Type} {l : List (ByteArray × α)} {k : ByteArray} {v : α} (h : mget l k = some v) : mset l k v = l := by
  induction l with
  | nil => cases h
  | cons a r ih =>
    unfold mget at h
    unfold mset
    by_cases hk : k = a.1
    · rw [if_pos hk] at h ⊢
      simp only [Option.some.injEq] at h
      subst hk h
      rfl
    · rw [if_neg hk] at h ⊢
      rw [ih h]
theorem mem_mset {α : Type} {l : List (ByteArray × α)} (hn : (l.map (·.1)).Nodup) {k : ByteArray} {v : α} {e : ByteArray × α} (h : e ∈ mset l k v) : e = (k, v) ∨ (e ∈ l ∧ e.1 ≠ k) := by
  obtain ⟨q, u⟩ := e
  have h1 := mget_of_mem (mset_nodup hn k v) h
  rw [mget_mset] at h1
  by_cases hk : q = k
  · rw [if_pos hk] at h1
    simp only [Option.some.injEq] at h1
    left
    rw [hk, h1]
  · rw [if_neg hk] at h1
    exact .inr ⟨mget_mem h1, hk⟩
section
variable {w w' : World} {base b m : Nat} {room : Int} {t : Tr}
theorem TreeR.ext (h : TreeR w base b m room t) (k : Ext w w')   : TreeR w' base b m room t := ⟨h.low, h.blk.kp k (fun f => f), h.map.ext k, fun e he => (h.nod e he).ext k, h.inj⟩
theorem TreeR.keys (h : TreeR w base b m room t) : (t.map (·.1)).Nodup := by
  have := h.map.nodup
  unfold ptrs at this
  rwa [List.map_map] at this
theorem mget_ptrs (t : Tr) (p : ByteArray) : mget (ptrs t) p = (mget t p).map fun e => .pointer (some ⟨e.1, 0, none⟩) := mget_map (fun e : Nat × NodeV => Value.pointer (some ⟨e.1, 0, none⟩)) t p
/-- A node is written in place. -/
theorem TreeR.put (h : TreeR w base b m room t) {p : ByteArray} {g : Nat} {n n' : NodeV} (hp : mget t p = some (g, n)) (hn : NdAt w' g n') (k : Kp (fun i => i = g) w w') : TreeR w' base b m room (mset t p (g, n')) := by
  have hm := mget_mem hp
  have hg := h.nod _ hm
  have hgb : ∀ A, w.heap[g]? = some (.cells A ndT (0, 0)) → True := fun _ _ => trivial
  obtain ⟨nv, hb, _⟩ := hg
  have hb' : w.heap[g]? = some (.cells (ndA n nv) ndT (0, 0)) := hb
  have hbg : b ≠ g := by
    rintro rfl
    have h1 : w.heap[b]? = some (.cells #[.int .i64 room, .map (some m)] trT (0, 0)) := h.blk
    rw [hb'] at h1
    simp only [Option.some.injEq, Obj.cells.injEq] at h1
    exact absurd h1.2.1 (by decide)
  have hmg : m ≠ g := by
    rintro rfl
    obtain ⟨L, clock, hr, _⟩ := h.map
    have h1 := hr.1
    rw [hb'] at h1
    simp at h1
  have hkey : ptrs (mset t p (g, n')) = ptrs t := by
    have h1 := mset_map (fun e : Nat × NodeV => Value.pointer (some ⟨e.1, 0, none⟩)) t p (g, n')
    show (mset t p (g, n')).map _ = _
    rw [← h1]
    exact mset_same (l := ptrs t) (by rw [mget_ptrs, hp]; rfl)
  have hkn := h.keys
  have hown : ∀ i cur f, i = g → w.heap[i]? ≠ some (.cells cur strT f) := by
    rintro i cur f rfl e
    rw [hb'] at e
    simp only [Option.some.injEq, Obj.cells.injEq] at e
    exact absurd e.2.1 (by decide)
  refine ⟨⟨h.low.1, h.low.2.1, fun e he => ?_⟩, h.blk.kp k hbg, by rw [hkey]; exact h.map.kp k hmg, fun e he => ?_, fun e he f hf hef => ?_⟩
  · rcases mem_mset hkn he with rfl | ⟨he, _⟩
    · exact h.low.2.2 (p, g, n) hm
    · exact h.low.2.2 e he
  · rcases mem_mset hkn he with rfl | ⟨he, hne⟩
    · exact hn
    · exact (h.nod e he).kp k (fun e2 => hne (h.inj e he _ hm e2)) hown
  · rcases mem_mset hkn he with rfl | ⟨he, hne⟩
    · rcases mem_mset hkn hf with rfl | ⟨hf, hnf⟩
      · rfl
      · exact absurd (h.inj _ hm f hf hef).symm hnf
    · rcases mem_mset hkn hf with rfl | ⟨hf, hnf⟩
      · exact absurd (h.inj e he _ hm hef) hne
      · exact h.inj e he f hf hef
/-- A node is laid at a path: a block of its own. -/
theorem TreeR.lay (h : TreeR w base b m room t) {p : ByteArray} {g : Nat} {n : NodeV} (hgb : base ≤ g) (hn : NdAt w g n) (hg : ∀ e ∈ t, e.2.1 ≠ g) (hmap : MapK Value.string w' m (mset (ptrs t) p (.pointer (some ⟨g, 0, none⟩)))) (k : Kp (fun i => i = m) w w') : TreeR w' base b m room (mset t p (g, n)) := by
  have hmo : ∀ cur T f, w.heap[m]? ≠ some (.cells cur T f) := by
    intro cur T f e
    obtain ⟨L, clock, hr, _⟩ := h.map
    have h1 := hr.1
    rw [e] at h1
    simp at h1
  have hbm : b ≠ m := by
    rintro rfl
    exact hmo _ _ _ (show w.heap[b]? = some (.cells #[.int .i64 room, .map (some b)] trT (0, 0)) from h.blk)
  have hkn := h.keys
  have hgm : ∀ {q : Nat} {x : NodeV}, NdAt w q x → q ≠ m := by
    rintro q x ⟨nv, h1, _⟩ rfl
    exact hmo _ _ _ (show w.heap[q]? = some (.cells (ndA x nv) ndT (0, 0)) from h1)
  refine ⟨⟨h.low.1, h.low.2.1, fun e he => ?_⟩, h.blk.kp k hbm, ?_, fun e he => ?_, fun e he f hf hef => ?_⟩
  · rcases mem_mset hkn he with rfl | ⟨he, _⟩
    · exact hgb
    · exact h.low.2.2 e he
  · show MapK _ _ _ ((mset t p (g, n)).map _)
    rw [← mset_map (fun e : Nat × NodeV => Value.pointer (some ⟨e.1, 0, none⟩)) t p (g, n)]
    exact hmap
  · rcases mem_mset hkn he with rfl | ⟨he, _⟩
    · exact hn.kp k (hgm hn) (fun i cur f e => by subst e; exact hmo _ _ _)
    · exact (h.nod e he).kp k (hgm (h.nod e he)) (fun i cur f e => by subst e; exact hmo _ _ _)
  · rcases mem_mset hkn he with rfl | ⟨he, hne⟩
    · rcases mem_mset hkn hf with rfl | ⟨hf, hnf⟩
      · rfl
      · exact absurd hef.symm (hg f hf)
    · rcases mem_mset hkn hf with rfl | ⟨hf, hnf⟩
      · exact absurd hef (hg e he)
      · exact h.inj e he f hf hef
/-- A node goes. -/
theorem TreeR.del (h : TreeR w base b m room t) {p : ByteArray} (hmap : MapK Value.string w' m (mdel (ptrs t) p)) (k : Kp (fun i => i = m) w w') : TreeR w' base b m room (mdel t p) := by
  have hmo : ∀ cur T f, w.heap[m]? ≠ some (.cells cur T f) := by
    intro cur T f e
    obtain ⟨L, clock, hr, _⟩ := h.map
    have h1 := hr.1
    rw [e] at h1
    simp at h1
  have hbm : b ≠ m := by
    rintro rfl
    exact hmo _ _ _ (show w.heap[b]? = some (.cells #[.int .i64 room, .map (some b)] trT (0, 0)) from h.blk)
  have hgm : ∀ {q : Nat} {x : NodeV}, NdAt w q x → q ≠ m := by
    rintro q x ⟨nv, h1, _⟩ rfl
    exact hmo _ _ _ (show w.heap[q]? = some (.cells (ndA x nv) ndT (0, 0)) from h1)
  have hsub : ∀ e ∈ mdel t p, e ∈ t := fun e he => (List.mem_filter.1 he).1
  refine ⟨⟨h.low.1, h.low.2.1, fun e he => h.low.2.2 e (hsub e he)⟩, h.blk.kp k hbm, ?_, fun e he => ?_, fun e he f hf hef => h.inj e (hsub e he) f (hsub f hf) hef⟩
  · show MapK _ _ _ ((mdel t p).map _)
    rw [← mdel_map (fun e : Nat × NodeV => Value.pointer (some ⟨e.1, 0, none⟩)) t p]
    exact hmap
  · exact (h.nod e (hsub e he)).kp k (hgm (h.nod e (hsub e he))) (fun i cur f e => by subst e; exact hmo _ _ _)
end
end Go.Proofs.YtjapjpigpakejaaGreatDoor

/- Locks as a list of pairs: what chapter 17 says, in plain Lean. No program. -/
namespace Av
set_option maxRecDepth 100000
/-- The path without its last name, as a text; empty: there is none. -/
def optS (o : Option Bs) : ByteArray := ⟨(o.getD []).toArray⟩
abbrev goodB (p : ByteArray) : Bool := goodL p.data.toList
abbrev upB (p : ByteArray) : Option Bs := parentL p.data.toList
/-- Does a held path block p for who? -/
def blk (who : Int) (p : ByteArray) (e : ByteArray × Int) : Bool :=
  decide (e.2 ≠ who) && (decide (e.1 = p) || (decide (e.1 = optS (upB p)) || ((upB e.1).isSome && decide (optS (upB e.1) = p))))
def blocksL (st : List (ByteArray × Int)) (who : Int) (p : ByteArray) : Bool := goodB p && st.any (blk who p)
/-- The first path that one may not take. -/
def wrongL (st : List (ByteArray × Int)) (who : Int) (ps : List ByteArray) : Option ByteArray :=
  match ps.find? fun p => !goodB p with
  | some p => some p
  | none => ps.find? fun p => blocksL st who p
def takeAll (st : List (ByteArray × Int)) (who : Int) (ps : List ByteArray) : List (ByteArray × Int) := ps.foldl (fun s p => mset s p who) st
def takeL (st : List (ByteArray × Int)) (who : Int) (ps : List ByteArray) : List (ByteArray × Int) :=
  if (wrongL st who ps).isSome then st else takeAll st who ps
def freeL (st : List (ByteArray × Int)) (who : Int) : List (ByteArray × Int) := st.filter fun e => decide (e.2 ≠ who)
end Av

/- Walks of package path: Parts, Parent. -/
namespace Go.Proofs.YtjapjpigpakejaaGreatDoor
set_option maxRecDepth 100000
open Go.RowKit Av

/-- A slice of the pieces, of its own. -/
def PartsPost (w : World) (l : List Bs) (e : Ending) (w' : World) : Prop :=
  ∃ (v : Value) (ps : List ByteArray), e = .returned v ∧ ps.map (·.data.toList) = l ∧ Strs w' v ps ∧ Ext w w'

theorem extract_tail (p : ByteArray) (t : Bs) (h : p.data.toList = 47 :: t) : (p.extract 1 p.size).data.toList = t := by
  rw [Lib.extract_data, h, Lib.size_eq, h]; simp

set_option maxHeartbeats 400000 in
theorem Parts_any (p : ByteArray) (w : World) (hG : GL w) (hp : p.size ≤ maxLen) :
    Calls Tryz.prog 110 #[.string p] w fun e w' => PartsPost w (partsL p.data.toList) e w' := by
  have HGd := Lib.hid (Good_any p w hG hp)
  unfold maxLen at hp
  by_cases hg : goodL p.data.toList = true
  · obtain ⟨t, ht, h1, h2, h3, h4⟩ := good_head _ hg
    have h200 : p.size ≤ 200 := by rw [Lib.size_eq, ht]; simp; omega
    have h0 : 1 ≤ p.size := by rw [Lib.size_eq, ht]; simp
    have HX := Lib.hid (extract_tail p t ht)
    have H4 := Lib.hid h4
    have hsz : (p.extract 1 p.size).size < 4294967281 := by rw [Lib.size_eq, HX.out]; omega
    have HZ := Lib.hid hsz
    have HG := Lib.hid hg
    clear hg ht h1 h2 h3 h4 hsz
    go_enter Tryz.func110, Tryz.ntmps110
    go_wp2_with (fail)
    refine HGd.out.mono ?_
    rintro e w' ⟨rfl, hx⟩
    rw [HG.out]
    go_wp2_with (fail)
    refine (Split_any _ _ (hG.ext hx) HZ.out).mono ?_
    rintro e w1 ⟨b, ps, hps, rfl, hn, hb, hc, hx1⟩
    go_wp2_with (fail)
    go_ret
    go_light
    exact ⟨.slice (some ⟨b, 0, none⟩) ps.length ps.length, ps, rfl, by rw [hps, HX.out, H4.out], Strs.of_cells hn (Nat.le_refl _) hb (fun i hi => by rw [Nat.zero_add]; exact hc i hi), hx.ext hx1⟩
  · have HG : Hid (goodL p.data.toList = false) := by show goodL p.data.toList = false; simpa using hg
    clear hg
    go_enter Tryz.func110, Tryz.ntmps110
    go_wp2_with (fail)
    refine HGd.out.mono ?_
    rintro e w' ⟨rfl, hx⟩
    rw [HG.out]
    go_wp2_with (fail)
    go_ret
    exact ⟨.slice none 0 0, [], rfl, by simp [partsL, HG.out], Strs.nil _, hx⟩

theorem Join_any (v : Value) (xs : List ByteArray) (w : World) (h : Strs w v xs) (hn : xs.length ≤ 140737488355328) (hl : (Lib.join (xs.map (·.data.toList)) [47]).length ≤ 140737488355328) :
    Calls Tryz.prog 114 #[v, .string ⟨#[47]⟩] w fun e w' => e = .returned (.string ⟨(Lib.join (xs.map (·.data.toList)) [47]).toArray⟩) ∧ Ext w w' := by
  obtain ⟨a, c, rfl, hcc, hm, ho⟩ := Strs.open h
  by_cases h0 : 0 < xs.length
  · obtain ⟨b, off, rfl, hb, hc⟩ := ho h0
    refine (Tryz.strings_Join b off c xs ⟨#[47]⟩ w (fun j x hx => ?_) hb hn hcc hl).mono fun e w' hh => ⟨hh.1, Kp.of_below hh.2⟩
    obtain ⟨hj, rfl⟩ := List.getElem?_eq_some_iff.1 hx
    exact hc j hj
  · have : xs = [] := List.eq_nil_of_length_eq_zero (by omega)
    subst this
    exact (Tryz.strings_Join_none a c ⟨#[47]⟩ w).mono fun e w' hh => ⟨hh.1, hh.2 ▸ Kp.refl _ _⟩

theorem parent_none (p : Bs) (h : (partsL p).length < 2) : parentL p = none := by simp [parentL, h]
theorem parent_some (p : Bs) (h : 2 ≤ (partsL p).length) : parentL p = some (ofL (partsL p).dropLast) := by
  unfold parentL; rw [if_neg (by omega)]

set_option maxHeartbeats 400000 in
theorem Parent_any (p : ByteArray) (w : World) (hG : GL w) (hp : p.size ≤ maxLen) :
    Calls Tryz.prog 91 #[.string p] w fun e w' => e = .returned (.tuple #[.string (optS (parentL p.data.toList)), .bool (parentL p.data.toList).isSome]) ∧ Ext w w' := by
  have HPt := Lib.hid (Parts_any p w hG hp)
  by_cases hn : 2 ≤ (partsL p.data.toList).length
  · go_enter Tryz.func91, Tryz.ntmps91
    go_wp2_with (fail)
    refine HPt.out.mono ?_
    rintro e w1 ⟨v, ps, rfl, hps, hst, hx⟩
    have hl : ps.length = (partsL p.data.toList).length := by rw [← hps]; simp
    have h2 : 2 ≤ ps.length := by omega
    have h8 : ps.length ≤ 8 := by rw [hl]; exact parts_len _
    have HPS := Lib.hid hps
    obtain ⟨a', c', rfl, hcc, hm, hopen⟩ := Strs.open hst
    obtain ⟨b, off, rfl, hb, hc⟩ := hopen (by omega)
    have hd : ps.dropLast.map (·.data.toList) = (partsL p.data.toList).dropLast := by rw [← hps, List.map_dropLast]
    have hj : 47 :: Lib.join (ps.dropLast.map (·.data.toList)) [47] = ofL (partsL p.data.toList).dropLast := by
      rw [join_ofL _ (by intro e; have := congrArg List.length e; simp at this; omega), hd]
    have hjl := parent_len p.data.toList
    rw [← hj] at hjl
    have hs : Strs w1 (.slice (some ⟨b, off, none⟩) (ps.length - 1) c') ps.dropLast := by
      have e : ps.length - 1 = ps.dropLast.length := by simp
      rw [e]
      exact Strs.of_cells (by simp; omega) (by simp; omega) hb (fun i hi => by rw [List.getElem_dropLast]; exact hc i _)
    have hcon := Join_any _ _ _ hs (by simp; omega) (by simp only [List.length_cons] at hjl; omega)
    have HJ := Lib.hid (parent_some _ hn)
    generalize Lib.join (ps.dropLast.map (·.data.toList)) [47] = J at hj hjl hcon
    have HCON := Lib.hid hcon
    have HJ2 := Lib.hid hj
    have hjl' : J.length ≤ 199 := by simp only [List.length_cons] at hjl; omega
    clear hl hps hst hopen hn hc hj hjl hcon hs hd
    go_wp2_with (fail)
    refine HCON.out.mono ?_
    rintro e w2 ⟨rfl, hx2⟩
    go_wp2_with (fail)
    go_ret2
    go_light
    refine ⟨?_, hx.ext hx2⟩
    rw [HJ.out, ← HJ2.out]
    show Ending.returned (.tuple #[.string (⟨[47].toArray⟩ ++ ⟨J.toArray⟩), .bool true]) = _
    rw [bytes_append]; rfl
  · go_enter Tryz.func91, Tryz.ntmps91
    go_wp2_with (fail)
    refine HPt.out.mono ?_
    rintro e w1 ⟨v, ps, rfl, hps, hst, hx⟩
    have hl : ps.length = (partsL p.data.toList).length := by rw [← hps]; simp
    have h2 : ps.length < 2 := by omega
    obtain ⟨a', c', rfl, hcc, hm, hopen⟩ := Strs.open hst
    clear hl hps hst hopen
    go_wp2_with (fail)
    go_ret2
    exact ⟨by rw [parent_none _ (by omega)]; rfl, hx⟩

end Go.Proofs.YtjapjpigpakejaaGreatDoor
