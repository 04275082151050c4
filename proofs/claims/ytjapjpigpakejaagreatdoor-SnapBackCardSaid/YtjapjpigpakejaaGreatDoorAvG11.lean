/- Texts put together: AvTree, AvLock, AvWPathB, AvWRefA. -/
import Derived.Test.YtjapjpigpakejaaGreatDoorAvHWStatB
import Derived.Test.YtjapjpigpakejaaGreatDoorAvHMap
import Derived.Test.YtjapjpigpakejaaGreatDoorAvG2
import Derived.Test.YtjapjpigpakejaaGreatDoorAvG3
import Derived.StillTailTactics
import Derived.IntWalk

/- A tree's memory. -/
namespace Go.Proofs.YtjapjpigpakejaaGreatDoor
set_option maxRecDepth 100000
open Go.RowKit Av

abbrev trT : TypeId := 77
/-- A tree: paths, each with its node's block and the node. -/
abbrev Tr := List (ByteArray × (Nat × NodeV))
def ptrs (t : Tr) : List (ByteArray × Value) := t.map fun e => (e.1, .pointer (some ⟨e.2.1, 0, none⟩))
structure TreeR (w : World) (base b m : Nat) (room : Int) (t : Tr) : Prop where
  low : base ≤ b ∧ base ≤ m ∧ ∀ e ∈ t, base ≤ e.2.1
  blk : Blk w b #[.int .i64 room, .map (some m)] trT
  map : MapK Value.string w m (ptrs t)
  nod : ∀ e ∈ t, NdAt w e.2.1 e.2.2
  inj : ∀ e ∈ t, ∀ f ∈ t, e.2.1 = f.2.1 → e.1 = f.1
theorem kStr : KOk Tryz.prog 9 Value.string := KOk.string Tryz.underlying9
theorem tNodes : Tryz.prog.underlying 75 = some (.map 9 83) := Tryz.underlying75
theorem NdAt.ext {w w' : World} {g : Nat} {n : NodeV} (h : NdAt w g n) (k : Ext w w') : NdAt w' g n := by
  obtain ⟨nv, h1, h2⟩ := h
  exact ⟨nv, h1.kp k (fun f => f), ownsRow.ext h2 k⟩
theorem NdAt.lt {w : World} {g : Nat} {n : NodeV} (h : NdAt w g n) : g < w.heap.size := by
  obtain ⟨nv, h1, _⟩ := h
  exact h1.lt
/-- What is written is a node's block or no block of cells at all: another node stands. -/
theorem NdAt.kp {w w' : World} {S : Nat → Prop} {g : Nat} {n : NodeV} (h : NdAt w g n) (k : Kp S w w') (hg : ¬ S g) (hs : ∀ i cur f, S i → w.heap[i]? ≠ some (.cells cur strT f)) : NdAt w' g n := by
  obtain ⟨nv, h1, h2⟩ := h
  refine ⟨nv, h1.kp k hg, ownsRow.kp h2 k (fun i hi hsi => ?_)⟩
  obtain ⟨_, ⟨rfl, _⟩ | ⟨q, c, cur, rfl, _, hq, _⟩⟩ := h2
  · simp [Value.ownBlock] at hi
  · simp only [Value.ownBlock, Option.some.injEq] at hi
    subst hi
    exact hs q cur _ hsi hq
theorem mset_same {α : Type} {l : List (ByteArray × α)} {k : ByteArray} {v : α} (h : mget l k = some v) : mset l k v = l := by
  induction l with
  | nil => cases h
  | cons a r ih =>
    unfold mget at h
    unfold mset
    by_cases hk : k = a.1
    · rw [if_pos hk] at h ⊢
      simp only [Option.some.injEq] at h
      subst hk h
      rfl
    · rw [if_neg hk] at h ⊢
      rw [ih h]
theorem mem_mset {α : Type} {l : List (ByteArray × α)} (hn : (l.map (·.1)).Nodup) {k : ByteArray} {v : α} {e : ByteArray × α} (h : e ∈ mset l k v) : e = (k, v) ∨ (e ∈ l ∧ e.1 ≠ k) := by
  obtain ⟨q, u⟩ := e
  have h1 := mget_of_mem (mset_nodup hn k v) h
  rw [mget_mset] at h1
  by_cases hk : q = k
  · rw [if_pos hk] at h1
    simp only [Option.some.injEq] at h1
    left
    rw [hk, h1]
  · rw [if_neg hk] at h1
    exact .inr ⟨mget_mem h1, hk⟩
section
variable {w w' : World} {base b m : Nat} {room : Int} {t : Tr}
theorem TreeR.ext (h : TreeR w base b m room t) (k : Ext w w')   : TreeR w' base b m room t := ⟨h.low, h.blk.kp k (fun f => f), h.map.ext k, fun e he => (h.nod e he).ext k, h.inj⟩
theorem TreeR.keys (h : TreeR w base b m room t) : (t.map (·.1)).Nodup := by
  have := h.map.nodup
  unfold ptrs at this
  rwa [List.map_map] at this
theorem mget_ptrs (t : Tr) (p : ByteArray) : mget (ptrs t) p = (mget t p).map fun e => .pointer (some ⟨e.1, 0, none⟩) := mget_map (fun e : Nat × NodeV => Value.pointer (some ⟨e.1, 0, none⟩)) t p
/-- A node is written in place. -/
theorem TreeR.put (h : TreeR w base b m room t) {p : ByteArray} {g : Nat} {n n' : NodeV} (hp : mget t p = some (g, n)) (hn : NdAt w' g n') (k : Kp (fun i => i = g) w w') : TreeR w' base b m room (mset t p (g, n')) := by
  have hm := mget_mem hp
  have hg := h.nod _ hm
  have hgb : ∀ A, w.heap[g]? = some (.cells A ndT (0, 0)) → True := fun _ _ => trivial
  obtain ⟨nv, hb, _⟩ := hg
  have hb' : w.heap[g]? = some (.cells (ndA n nv) ndT (0, 0)) := hb
  have hbg : b ≠ g := by
    rintro rfl
    have h1 : w.heap[b]? = some (.cells #[.int .i64 room, .map (some m)] trT (0, 0)) := h.blk
    rw [hb'] at h1
    simp only [Option.some.injEq, Obj.cells.injEq] at h1
    exact absurd h1.2.1 (by decide)
  have hmg : m ≠ g := by
    rintro rfl
    obtain ⟨L, clock, hr, _⟩ := h.map
    have h1 := hr.1
    rw [hb'] at h1
    simp at h1
  have hkey : ptrs (mset t p (g, n')) = ptrs t := by
    have h1 := mset_map (fun e : Nat × NodeV => Value.pointer (some ⟨e.1, 0, none⟩)) t p (g, n')
    show (mset t p (g, n')).map _ = _
    rw [← h1]
    exact mset_same (l := ptrs t) (by rw [mget_ptrs, hp]; rfl)
  have hkn := h.keys
  have hown : ∀ i cur f, i = g → w.heap[i]? ≠ some (.cells cur strT f) := by
    rintro i cur f rfl e
    rw [hb'] at e
    simp only [Option.some.injEq, Obj.cells.injEq] at e
    exact absurd e.2.1 (by decide)
  refine ⟨⟨h.low.1, h.low.2.1, fun e he => ?_⟩, h.blk.kp k hbg, by rw [hkey]; exact h.map.kp k hmg, fun e he => ?_, fun e he f hf hef => ?_⟩
  · rcases mem_mset hkn he with rfl | ⟨he, _⟩
    · exact h.low.2.2 (p, g, n) hm
    · exact h.low.2.2 e he
  · rcases mem_mset hkn he with rfl | ⟨he, hne⟩
    · exact hn
    · exact (h.nod e he).kp k (fun e2 => hne (h.inj e he _ hm e2)) hown
  · rcases mem_mset hkn he with rfl | ⟨he, hne⟩
    · rcases mem_mset hkn hf with rfl | ⟨hf, hnf⟩
      · rfl
      · exact absurd (h.inj _ hm f hf hef).symm hnf
    · rcases mem_mset hkn hf with rfl | ⟨hf, hnf⟩
      · exact absurd (h.inj e he _ hm hef) hne
      · exact h.inj e he f hf hef
/-- A node is laid at a path: a block of its own. -/
theorem TreeR.lay (h : TreeR w base b m room t) {p : ByteArray} {g : Nat} {n : NodeV} (hgb : base ≤ g) (hn : NdAt w g n) (hg : ∀ e ∈ t, e.2.1 ≠ g) (hmap : MapK Value.string w' m (mset (ptrs t) p (.pointer (some ⟨g, 0, none⟩)))) (k : Kp (fun i => i = m) w w') : TreeR w' base b m room (mset t p (g, n)) := by
  have hmo : ∀ cur T f, w.heap[m]? ≠ some (.cells cur T f) := by
    intro cur T f e
    obtain ⟨L, clock, hr, _⟩ := h.map
    have h1 := hr.1
    rw [e] at h1
    simp at h1
  have hbm : b ≠ m := by
    rintro rfl
    exact hmo _ _ _ (show w.heap[b]? = some (.cells #[.int .i64 room, .map (some b)] trT (0, 0)) from h.blk)
  have hkn := h.keys
  have hgm : ∀ {q : Nat} {x : NodeV}, NdAt w q x → q ≠ m := by
    rintro q x ⟨nv, h1, _⟩ rfl
    exact hmo _ _ _ (show w.heap[q]? = some (.cells (ndA x nv) ndT (0, 0)) from h1)
  refine ⟨⟨h.low.1, h.low.2.1, fun e he => ?_⟩, h.blk.kp k hbm, ?_, fun e he => ?_, fun e he f hf hef => ?_⟩
  · rcases mem_mset hkn he with rfl | ⟨he, _⟩
    · exact hgb
    · exact h.low.2.2 e he
  · show MapK _ _ _ ((mset t p (g, n)).map _)
    rw [← mset_map (fun e : Nat × NodeV => Value.pointer (some ⟨e.1, 0, none⟩)) t p (g, n)]
    exact hmap
  · rcases mem_mset hkn he with rfl | ⟨he, _⟩
    · exact hn.kp k (hgm hn) (fun i cur f e => by subst e; exact hmo _ _ _)
    · exact (h.nod e he).kp k (hgm (h.nod e he)) (fun i cur f e => by subst e; exact hmo _ _ _)
  · rcases mem_mset hkn he with rfl | ⟨he, hne⟩
    · rcases mem_mset hkn hf with rfl | ⟨hf, hnf⟩
      · rfl
      · exact absurd hef.symm (hg f hf)
    · rcases mem_mset hkn hf with rfl | ⟨hf, hnf⟩
      · exact absurd hef (hg e he)
      · exact h.inj e he f hf hef
/-- A node goes. -/
theorem TreeR.del (h : TreeR w base b m room t) {p : ByteArray} (hmap : MapK Value.string w' m (mdel (ptrs t) p)) (k : Kp (fun i => i = m) w w') : TreeR w' base b m room (mdel t p) := by
  have hmo : ∀ cur T f, w.heap[m]? ≠ some (.cells cur T f) := by
    intro cur T f e
    obtain ⟨L, clock, hr, _⟩ := h.map
    have h1 := hr.1
    rw [e] at h1
    simp at h1
  have hbm : b ≠ m := by
    rintro rfl
    exact hmo _ _ _ (show w.heap[b]? = some (.cells #[.int .i64 room, .map (some b)] trT (0, 0)) from h.blk)
  have hgm : ∀ {q : Nat} {x : NodeV}, NdAt w q x → q ≠ m := by
    rintro q x ⟨nv, h1, _⟩ rfl
    exact hmo _ _ _ (show w.heap[q]? = some (.cells (ndA x nv) ndT (0, 0)) from h1)
  have hsub : ∀ e ∈ mdel t p, e ∈ t := fun e he => (List.mem_filter.1 he).1
  refine ⟨⟨h.low.1, h.low.2.1, fun e he => h.low.2.2 e (hsub e he)⟩, h.blk.kp k hbm, ?_, fun e he => ?_, fun e he f hf hef => h.inj e (hsub e he) f (hsub f hf) hef⟩
  · show MapK _ _ _ ((mdel t p).map _)
    rw [← mdel_map (fun e : Nat × NodeV => Value.pointer (some ⟨e.1, 0, none⟩)) t p]
    exact hmap
  · exact (h.nod e (hsub e he)).kp k (hgm (h.nod e (hsub e he))) (fun i cur f e => by subst e; exact hmo _ _ _)
end
end Go.Proofs.YtjapjpigpakejaaGreatDoor

/- Locks as a list of pairs: what chapter 17 says, in plain Lean. No program. -/
namespace Av
set_option maxRecDepth 100000
/-- The path without its last name, as a text; empty: there is none. -/
def optS (o : Option Bs) : ByteArray := ⟨(o.getD []).toArray⟩
abbrev goodB (p : ByteArray) : Bool := goodL p.data.toList
abbrev upB (p : ByteArray) : Option Bs := parentL p.data.toList
/-- Does a held path block p for who? -/
def blk (who : Int) (p : ByteArray) (e : ByteArray × Int) : Bool :=
  decide (e.2 ≠ who) && (decide (e.1 = p) || (decide (e.1 = optS (upB p)) || ((upB e.1).isSome && decide (optS (upB e.1) = p))))
def blocksL (st : List (ByteArray × Int)) (who : Int) (p : ByteArray) : Bool := goodB p && st.any (blk who p)
/-- The first path that one may not take. -/
def wrongL (st : List (ByteArray × Int)) (who : Int) (ps : List ByteArray) : Option ByteArray :=
  match ps.find? fun p => !goodB p with
  | some p => some p
  | none => ps.find? fun p => blocksL st who p
def takeAll (st : List (ByteArray × Int)) (who : Int) (ps : List ByteArray) : List (ByteArray × Int) := ps.foldl (fun s p => mset s p who) st
def takeL (st : List (ByteArray × Int)) (who : Int) (ps : List ByteArray) : List (ByteArray × Int) :=
  if (wrongL st who ps).isSome then st else takeAll st who ps
def freeL (st : List (ByteArray × Int)) (who : Int) : List (ByteArray × Int) := st.filter fun e => decide (e.2 ≠ who)
end Av

/- Walks of package path: Parts, Parent. -/
namespace Go.Proofs.YtjapjpigpakejaaGreatDoor
set_option maxRecDepth 100000
open Go.RowKit Av

/-- A slice of the pieces, of its own. -/
def PartsPost (w : World) (l : List Bs) (e : Ending) (w' : World) : Prop :=
  ∃ (v : Value) (ps : List ByteArray), e = .returned v ∧ ps.map (·.data.toList) = l ∧ Strs w' v ps ∧ Ext w w'

theorem extract_tail (p : ByteArray) (t : Bs) (h : p.data.toList = 47 :: t) : (p.extract 1 p.size).data.toList = t := by
  rw [Lib.extract_data, h, Lib.size_eq, h]; simp

set_option maxHeartbeats 400000 in
theorem Parts_any (p : ByteArray) (w : World) (hG : GL w) (hp : p.size ≤ maxLen) :
    Calls Tryz.prog 110 #[.string p] w fun e w' => PartsPost w (partsL p.data.toList) e w' := by
  have HGd := Lib.hid (Good_any p w hG hp)
  unfold maxLen at hp
  by_cases hg : goodL p.data.toList = true
  · obtain ⟨t, ht, h1, h2, h3, h4⟩ := good_head _ hg
    have h200 : p.size ≤ 200 := by rw [Lib.size_eq, ht]; simp; omega
    have h0 : 1 ≤ p.size := by rw [Lib.size_eq, ht]; simp
    have HX := Lib.hid (extract_tail p t ht)
    have H4 := Lib.hid h4
    have hsz : (p.extract 1 p.size).size < 4294967281 := by rw [Lib.size_eq, HX.out]; omega
    have HZ := Lib.hid hsz
    have HG := Lib.hid hg
    clear hg ht h1 h2 h3 h4 hsz
    go_enter Tryz.func110, Tryz.ntmps110
    go_wp2_with (fail)
    refine HGd.out.mono ?_
    rintro e w' ⟨rfl, hx⟩
    rw [HG.out]
    go_wp2_with (fail)
    refine (Split_any _ _ (hG.ext hx) HZ.out).mono ?_
    rintro e w1 ⟨b, ps, hps, rfl, hn, hb, hc, hx1⟩
    go_wp2_with (fail)
    go_ret
    go_light
    exact ⟨.slice (some ⟨b, 0, none⟩) ps.length ps.length, ps, rfl, by rw [hps, HX.out, H4.out], Strs.of_cells hn (Nat.le_refl _) hb (fun i hi => by rw [Nat.zero_add]; exact hc i hi), hx.ext hx1⟩
  · have HG : Hid (goodL p.data.toList = false) := by show goodL p.data.toList = false; simpa using hg
    clear hg
    go_enter Tryz.func110, Tryz.ntmps110
    go_wp2_with (fail)
    refine HGd.out.mono ?_
    rintro e w' ⟨rfl, hx⟩
    rw [HG.out]
    go_wp2_with (fail)
    go_ret
    exact ⟨.slice none 0 0, [], rfl, by simp [partsL, HG.out], Strs.nil _, hx⟩

theorem Join_any (v : Value) (xs : List ByteArray) (w : World) (h : Strs w v xs) (hn : xs.length ≤ 140737488355328) (hl : (Lib.join (xs.map (·.data.toList)) [47]).length ≤ 140737488355328) :
    Calls Tryz.prog 114 #[v, .string ⟨#[47]⟩] w fun e w' => e = .returned (.string ⟨(Lib.join (xs.map (·.data.toList)) [47]).toArray⟩) ∧ Ext w w' := by
  obtain ⟨a, c, rfl, hcc, hm, ho⟩ := Strs.open h
  by_cases h0 : 0 < xs.length
  · obtain ⟨b, off, rfl, hb, hc⟩ := ho h0
    refine (Tryz.strings_Join b off c xs ⟨#[47]⟩ w (fun j x hx => ?_) hb hn hcc hl).mono fun e w' hh => ⟨hh.1, Kp.of_below hh.2⟩
    obtain ⟨hj, rfl⟩ := List.getElem?_eq_some_iff.1 hx
    exact hc j hj
  · have : xs = [] := List.eq_nil_of_length_eq_zero (by omega)
    subst this
    exact (Tryz.strings_Join_none a c ⟨#[47]⟩ w).mono fun e w' hh => ⟨hh.1, hh.2 ▸ Kp.refl _ _⟩

theorem parent_none (p : Bs) (h : (partsL p).length < 2) : parentL p = none := by simp [parentL, h]
theorem parent_some (p : Bs) (h : 2 ≤ (partsL p).length) : parentL p = some (ofL (partsL p).dropLast) := by
  unfold parentL; rw [if_neg (by omega)]

set_option maxHeartbeats 400000 in
theorem Parent_any (p : ByteArray) (w : World) (hG : GL w) (hp : p.size ≤ maxLen) :
    Calls Tryz.prog 91 #[.string p] w fun e w' => e = .returned (.tuple #[.string (optS (parentL p.data.toList)), .bool (parentL p.data.toList).isSome]) ∧ Ext w w' := by
  have HPt := Lib.hid (Parts_any p w hG hp)
  by_cases hn : 2 ≤ (partsL p.data.toList).length
  · go_enter Tryz.func91, Tryz.ntmps91
    go_wp2_with (fail)
    refine HPt.out.mono ?_
    rintro e w1 ⟨v, ps, rfl, hps, hst, hx⟩
    have hl : ps.length = (partsL p.data.toList).length := by rw [← hps]; simp
    have h2 : 2 ≤ ps.length := by omega
    have h8 : ps.length ≤ 8 := by rw [hl]; exact parts_len _
    have HPS := Lib.hid hps
    obtain ⟨a', c', rfl, hcc, hm, hopen⟩ := Strs.open hst
    obtain ⟨b, off, rfl, hb, hc⟩ := hopen (by omega)
    have hd : ps.dropLast.map (·.data.toList) = (partsL p.data.toList).dropLast := by rw [← hps, List.map_dropLast]
    have hj : 47 :: Lib.join (ps.dropLast.map (·.data.toList)) [47] = ofL (partsL p.data.toList).dropLast := by
      rw [join_ofL _ (by intro e; have := congrArg List.length e; simp at this; omega), hd]
    have hjl := parent_len p.data.toList
    rw [← hj] at hjl
    have hs : Strs w1 (.slice (some ⟨b, off, none⟩) (ps.length - 1) c') ps.dropLast := by
      have e : ps.length - 1 = ps.dropLast.length := by simp
      rw [e]
      exact Strs.of_cells (by simp; omega) (by simp; omega) hb (fun i hi => by rw [List.getElem_dropLast]; exact hc i _)
    have hcon := Join_any _ _ _ hs (by simp; omega) (by simp only [List.length_cons] at hjl; omega)
    have HJ := Lib.hid (parent_some _ hn)
    generalize Lib.join (ps.dropLast.map (·.data.toList)) [47] = J at hj hjl hcon
    have HCON := Lib.hid hcon
    have HJ2 := Lib.hid hj
    have hjl' : J.length ≤ 199 := by simp only [List.length_cons] at hjl; omega
    clear hl hps hst hopen hn hc hj hjl hcon hs hd
    go_wp2_with (fail)
    refine HCON.out.mono ?_
    rintro e w2 ⟨rfl, hx2⟩
    go_wp2_with (fail)
    go_ret2
    go_light
    refine ⟨?_, hx.ext hx2⟩
    rw [HJ.out, ← HJ2.out]
    show Ending.returned (.tuple #[.string (⟨[47].toArray⟩ ++ ⟨J.toArray⟩), .bool true]) = _
    rw [bytes_append]; rfl
  · go_enter Tryz.func91, Tryz.ntmps91
    go_wp2_with (fail)
    refine HPt.out.mono ?_
    rintro e w1 ⟨v, ps, rfl, hps, hst, hx⟩
    have hl : ps.length = (partsL p.data.toList).length := by rw [← hps]; simp
    have h2 : ps.length < 2 := by omega
    obtain ⟨a', c', rfl, hcc, hm, hopen⟩ := Strs.open hst
    clear hl hps hst hopen
    go_wp2_with (fail)
    go_ret2
    exact ⟨by rw [parent_none _ (by omega)]; rfl, hx⟩

end Go.Proofs.YtjapjpigpakejaaGreatDoor

/- Walks of package aviaryref1: Cut, IsName. -/
namespace Go.Proofs.YtjapjpigpakejaaGreatDoor
set_option maxRecDepth 100000
open Go.RowKit Av

theorem str_facts : Tryz.prog.underlying 33 = some (.slice 9) ∧ (Tryz.prog.info? 9).map (fun i => (i.zero.map fun z => z.cells.size, i.size, decide (i.bytes ≤ 64))) = some (some 1, 1, true) := ⟨by kernel_rfl, by kernel_rfl⟩

/-- A slice of strings that a call owns from block base on. -/
def OwnS (w : World) (base : Nat) (v : Value) (xs : List ByteArray) : Prop := w.ownsRow base 9 1 v xs.length (xs.map Value.string)

theorem OwnS.cell {w : World} {base g cap n : Nat} {ps : List ByteArray} (h : OwnS w base (.slice (some ⟨g, 0, none⟩) n cap) ps) (i : Nat) (hi : i < ps.length) : w.cell? ⟨g, i, none⟩ = some (.string ps[i]) := by
  have hn : n = ps.length := by have := h.1; rcases h.2 with ⟨h', _⟩ | ⟨_, _, _, h', _⟩ <;> simp_all
  subst hn
  have := World.ownsRow.cellAt h i (by omega)
  rw [this, List.getElem?_map, List.getElem?_eq_getElem hi]; rfl
theorem OwnS.open {w : World} {base : Nat} {v : Value} {ps : List ByteArray} (h : OwnS w base v ps) (hn : 0 < ps.length) :
    ∃ g cap, v = .slice (some ⟨g, 0, none⟩) ps.length cap ∧ base ≤ g ∧ g < w.heap.size ∧ ps.length ≤ cap ∧ cap ≤ maxLen := by
  rcases h.2 with ⟨_, h0⟩ | ⟨g, cap, cur, h1, h2, h3, h4, h5, _⟩
  · omega
  · exact ⟨g, cap, h1, h2, (Array.getElem?_eq_some_iff.1 h3).1, h4, h5⟩
theorem OwnS.strs {w : World} {base : Nat} {v : Value} {ps : List ByteArray} (h : OwnS w base v ps) : Strs w v ps := Strs.of_owns h
theorem OwnS.set {w : World} {base g cap n : Nat} {ps : List ByteArray} (h : OwnS w base (.slice (some ⟨g, 0, none⟩) n cap) ps) (i : Nat) (x : ByteArray) :
    OwnS (w.setCell ⟨g, i, none⟩ (.string x)) base (.slice (some ⟨g, 0, none⟩) n cap) (ps.set i x) := by
  have hn : n = ps.length := by have := h.1; rcases h.2 with ⟨h', _⟩ | ⟨_, _, _, h', _⟩ <;> simp_all
  subst hn
  have := (World.ownsRow.stored h i (.string x)).1
  unfold OwnS
  rw [List.length_set, List.map_set]
  exact this

theorem set_last (ps : List ByteArray) (i : List Bs) (y z : Bs) (x : ByteArray) (h : ps.map (·.data.toList) = i ++ [y]) (h1 : ps.length - 1 < ps.length) (hx : x.data.toList = z) :
    (ps.set (ps.length - 1) (ps[ps.length - 1] ++ x)).map (·.data.toList) = i ++ [y ++ z] := by
  rcases List.eq_nil_or_concat ps with rfl | ⟨l, b, rfl⟩
  · simp at h1
  · simp only [List.concat_eq_append, List.map_append, List.map_cons, List.map_nil] at h ⊢
    obtain ⟨h2, h3⟩ := List.append_inj' h rfl
    simp only [List.cons.injEq, and_true] at h3
    subst h2
    simp [hx, h3]
/-- The loop of Cut: what stands behind k rounds. -/
def CutRel (s : ByteArray) (w : World) (l i : Value) (wr : World) : Prop :=
  ∃ k : Nat, k ≤ s.size ∧ i = .int .i64 k ∧ ∃ ps : List ByteArray, OwnS wr w.heap.size l ps ∧ ps.map (·.data.toList) = cut (s.data.toList.take k) ∧ Ext w wr

set_option maxHeartbeats 400000 in
theorem refCut_any (s : ByteArray) (w : World) (hs : s.size ≤ 200) :
    Calls Tryz.prog 76 #[.string s, .int .u8 47] w fun e w' => ∃ (v : Value) (ps : List ByteArray), e = .returned v ∧ ps.map (·.data.toList) = cut s.data.toList ∧ OwnS w' w.heap.size v ps ∧ Ext w w' := by
  have HS : Hid (s.size = s.data.toList.length) := Go.Lib.size_eq s
  go_enter Tryz.func76, Tryz.ntmps76
  go_wp2_with (fail)
  go_loopw [5, 6] (CutRel s w) (fun _ i _ => s.size - (intOf i).toNat)
  case atStart =>
    go_light
    refine ⟨0, Nat.zero_le _, rfl, [⟨#[]⟩], ?_, by simp [cut], (Kp.refl _ _).alloc _⟩
    exact ⟨rfl, .inr ⟨w.heap.size, 1, #[.string ⟨#[]⟩], rfl, Nat.le_refl _, heap_alloc_new w _, Nat.le_refl _, by decide, rfl, rfl⟩⟩
  case round =>
    obtain ⟨k, hk, rfl, ps, hown, hps, hx⟩ := hrel
    have hpl : ps.length = (cut (s.data.toList.take k)).length := by rw [← hps]; simp
    have hp1 : 1 ≤ ps.length := by rw [hpl]; exact cut_length_pos _
    have hp2 : ps.length ≤ 201 := by
      rw [hpl, cut_length]
      have := List.count_le_length (a := (47 : UInt8)) (l := s.data.toList.take k)
      have h2 : (s.data.toList.take k).length ≤ k := List.length_take_le _ _
      omega
    obtain ⟨g, cap, rfl, hg1, hg2, hcap, hcm⟩ := hown.open (by omega)
    have hHp : Hid (ps.map (·.data.toList) = cut (s.data.toList.take k)) := hps
    clear hps hpl
    unfold maxLen at hcm
    by_cases hlt : k < s.size
    · have hl : k < s.data.toList.length := by rw [← HS.out]; exact hlt
      have hgk : s.data.toList[k] = s[k] := by rw [Array.getElem_toList]; rfl
      have hts : s.data.toList.take (k + 1) = s.data.toList.take k ++ [s[k]] := by rw [List.take_succ_eq_append_getElem hl, hgk]
      by_cases h47 : s[k] = 47
      · have h47' : ((s[k].toNat : Int) == 47) = true := by rw [h47]; rfl
        have HT := Lib.hid hts
        have H4 := Lib.hid h47
        clear hgk hts h47
        go_wp2_with (at_builtin; refine wpList_app1 33 9 str_facts rfl _ _ rfl w.heap.size _ _ _ rfl (hown.alloc _) _ _ (.string ⟨#[]⟩) rfl ?c1 rfl ?c2 ?c3 ?_)
        case c1 => simp
        case c2 => omega
        case c3 => have := hx.size; simp; omega
        intro v' w' hown' hkp
        go_wp2
        go_roundw
        case rel =>
          go_light
          refine ⟨k + 1, by omega, by go_num, ps ++ [⟨#[]⟩], ?_, ?_, ?_⟩
          · unfold OwnS; simpa using hown'
          · rw [HT.out, H4.out, cut_snoc_stroke, ← hHp.out]; simp
          · exact (hx.alloc _).next hkp (fun i hi e => by simp [Value.ownBlock] at e; omega)
        case measure => simp [intOf]; omega
      · have h47' : ((s[k].toNat : Int) == 47) = false := by
          rw [beq_eq_false_iff_ne]; intro e; exact h47 (UInt8.toNat_inj.1 (by show s[k].toNat = 47; omega))
        have hcl := OwnS.cell hown (ps.length - 1) (by omega)
        have hfr := World.ownsRow.frozenAt hown (ps.length - 1)
        have hls : (ps[ps.length - 1]).size ≤ 200 := by
          have h1 : ps[ps.length - 1].data.toList ∈ cut (s.data.toList.take k) := by rw [← hHp.out]; exact List.mem_map_of_mem (List.getElem_mem _)
          have h2 := cut_len_le _ _ h1
          have h3 : (s.data.toList.take k).length ≤ k := List.length_take_le _ _
          rw [Lib.size_eq]; omega
        have HT := Lib.hid hts
        have H4 := Lib.hid h47
        have HN := Lib.hid hown
        have hgk' : s.data.toList[k] = s[k] := hgk
        clear hgk hts h47 hown
        have q1 : 1 ≤ (ps.length : Int) := by omega
        have q2 : (ps.length : Int) - 1 < ps.length := by omega
        have q3 : (k : Int) + 1 ≤ s.size := by omega
        have q4 : k + 1 ≤ s.size := by omega
        have e1 : IntKind.i64.wrap ((ps.length : Int) - 1) = (ps.length : Int) - 1 := IntWalk.i64_in _ (by omega)
        have e2 : ((ps.length : Int) - 1).toNat = ps.length - 1 := by omega
        have e3 : IntKind.i64.wrap ((k : Int) + 1) = (k : Int) + 1 := IntWalk.i64_in _ (by omega)
        have e4 : ((k : Int) + 1).toNat = k + 1 := by omega
        have hsl : ∀ wx, (Instr.slice 9 (.string s) (some (.int .i64 (k : Int))) (some (.int .i64 ((k : Int) + 1))) none).run Tryz.prog wx = .ok (.string (s.extract k (k + 1))) wx := fun wx => by
          have := run_slice_string (P := Tryz.prog) wx 9 s .i64 .i64 (k : Int) ((k : Int) + 1) Tryz.underlying9 (by omega) (by omega) (by omega)
          simpa [e4] using this
        have hxd : (s.extract k (k + 1)).data.toList = [s[k]] := by
          rw [Lib.extract_data, ← hgk']
          simp [List.drop_eq_getElem_cons hl]
        have hxs : (s.extract k (k + 1)).size = 1 := by rw [Lib.size_eq, hxd]; rfl
        generalize s.extract k (k + 1) = x at hsl hxd hxs
        have hcat : ∀ wx, (Op.stringOp .add ps[ps.length - 1] x).run Tryz.prog wx = .ok (.string (ps[ps.length - 1] ++ x)) wx := fun wx => run_string_add_sum (P := Tryz.prog) wx _ _ (by omega)
        have HXD := Lib.hid hxd
        have HGK := Lib.hid hgk'
        clear hxd hxs hgk'
        go_wp2_with (fail)
        go_still_tail 17, (by kernel_rfl)
        rw [show ({ heap := wr.heap, tape := wr.tape, drawn := wr.drawn + 1, os := wr.os, output := wr.output } : World) = wr.drew from rfl]
        go_wp2
        go_light
        refine ⟨⟨k + 1, by omega, rfl, ps.set (ps.length - 1) (ps[ps.length - 1] ++ x), (HN.out.set _ _), ?_, ?_⟩, by simp [intOf]; omega⟩
        · obtain ⟨i, y, c1, c2⟩ := cut_snoc (s.data.toList.take k) s[k] H4.out
          rw [HT.out, c2]
          exact set_last ps i y _ x (hHp.out.trans c1) _ HXD.out
        · exact (hx.setCell _ _ (fun h => by simp at h; omega)).drew
    · have hke : k = s.size := by omega
      have HK := Lib.hid hke
      have HN := Lib.hid hown
      clear hke hown
      go_wp2
      go_ret
      go_light
      refine ⟨_, ps, rfl, ?_, HN.out, hx⟩
      rw [hHp.out, HK.out, HS.out, List.take_length]
end Go.Proofs.YtjapjpigpakejaaGreatDoor
