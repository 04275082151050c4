/- Texts put together: AvTree, AvWPath, AvLock, AvWPathB. -/
import Derived.Test.YtdagikbdpeblhaaGreatDoorAvHWStatB
import Derived.Test.YtdagikbdpeblhaaGreatDoorAvHMap
import Derived.Test.YtdagikbdpeblhaaGreatDoorAvS
import Derived.Test.YtdagikbdpeblhaaGreatDoorAvG1
import Derived.Handy

/- A tree's memory. -/
namespace Go.Proofs.YtdagikbdpeblhaaGreatDoor
set_option maxRecDepth 100000
open Go.RowKit Av

abbrev trT : TypeId := 104
/-- A tree: paths, each with its node's block and the node. -/
abbrev Tr := List (ByteArray × (Nat × NodeV))
def ptrs (t : Tr) : List (ByteArray × Value) := t.map fun e => (e.1, .pointer (some ⟨e.2.1, 0, none⟩))
structure TreeR (w : World) (base b m : Nat) (room : Int) (t : Tr) : Prop where
  low : base ≤ b ∧ base ≤ m ∧ ∀ e ∈ t, base ≤ e.2.1
  blk : Blk w b #[.int .i64 room, .map (some m)] trT
  map : MapK Value.string w m (ptrs t)
  nod : ∀ e ∈ t, NdAt w e.2.1 e.2.2
  inj : ∀ e ∈ t, ∀ f ∈ t, e.2.1 = f.2.1 → e.1 = f.1
theorem kStr : KOk Tryz.prog 9 Value.string := KOk.string Tryz.underlying9
theorem tNodes : Tryz.prog.underlying 102 = some (.map 9 117) := Tryz.underlying102
theorem NdAt.ext {w w' : World} {g : Nat} {n : NodeV} (h : NdAt w g n) (k : Ext w w') : NdAt w' g n := by
  obtain ⟨nv, h1, h2⟩ := h
  exact ⟨nv, h1.kp k (fun f => f), ownsRow.ext h2 k⟩
theorem NdAt.lt {w : World} {g : Nat} {n : NodeV} (h : NdAt w g n) : g < w.heap.size := by
  obtain ⟨nv, h1, _⟩ := h
  exact h1.lt
/-- What is written is a node's block or no block of cells at all: another node stands. -/
theorem NdAt.kp {w w' : World} {S : Nat → Prop} {g : Nat} {n : NodeV} (h : NdAt w g n) (k : Kp S w w') (hg : ¬ S g) (hs : ∀ i cur f, S i → w.heap[i]? ≠ some (.cells cur strT f)) : NdAt w' g n := by
  obtain ⟨nv, h1, h2⟩ := h
  refine ⟨nv, h1.kp k hg, ownsRow.kp h2 k (fun i hi hsi => ?_)⟩
  obtain ⟨_, ⟨rfl, _⟩ | ⟨q, c, cur, rfl, _, hq, _⟩⟩ := h2
  · simp [Value.ownBlock] at hi
  · simp only [Value.ownBlock, Option.some.injEq] at hi
    subst hi
    exact hs q cur _ hsi hq
theorem mset_same {α : Type} {l : List (ByteArray × α)} {k : ByteArray} {v : α} (h : mget l k = some v) : mset l k v = l := by
  induction l with
  | nil => cases h
  | cons a r ih =>
    unfold mget at h
    unfold mset
    by_cases hk : k = a.1
    · rw [if_pos hk] at h ⊢
      simp only [Option.some.injEq] at h
      subst hk h
      rfl
    · rw [if_neg hk] at h ⊢
      rw [ih h]
theorem mem_mset {α : Type} {l : List (ByteArray × α)} (hn : (l.map (·.1)).Nodup) {k : ByteArray} {v : α} {e : ByteArray × α} (h : e ∈ mset l k v) : e = (k, v) ∨ (e ∈ l ∧ e.1 ≠ k) := by
  obtain ⟨q, u⟩ := e
  have h1 := mget_of_mem (mset_nodup hn k v) h
  rw [mget_mset] at h1
  by_cases hk : q = k
  · rw [if_pos hk] at h1
    simp only [Option.some.injEq] at h1
    left
    rw [hk, h1]
  · rw [if_neg hk] at h1
    exact .inr ⟨mget_mem h1, hk⟩
section
variable {w w' : World} {base b m : Nat} {room : Int} {t : Tr}
theorem TreeR.ext (h : TreeR w base b m room t) (k : Ext w w')   : TreeR w' base b m room t := ⟨h.low, h.blk.kp k (fun f => f), h.map.ext k, fun e he => (h.nod e he).ext k, h.inj⟩
theorem TreeR.keys (h : TreeR w base b m room t) : (t.map (·.1)).Nodup := by
  have := h.map.nodup
  unfold ptrs at this
  rwa [List.map_map] at this
theorem mget_ptrs (t : Tr) (p : ByteArray) : mget (ptrs t) p = (mget t p).map fun e => .pointer (some ⟨e.1, 0, none⟩) := mget_map (fun e : Nat × NodeV => Value.pointer (some ⟨e.1, 0, none⟩)) t p
/-- A node is written in place. -/
theorem TreeR.put (h : TreeR w base b m room t) {p : ByteArray} {g : Nat} {n n' : NodeV} (hp : mget t p = some (g, n)) (hn : NdAt w' g n') (k : Kp (fun i => i = g) w w') : TreeR w' base b m room (mset t p (g, n')) := by
  have hm := mget_mem hp
  have hg := h.nod _ hm
  have hgb : ∀ A, w.heap[g]? = some (.cells A ndT (0, 0)) → True := fun _ _ => trivial
  obtain ⟨nv, hb, _⟩ := hg
  have hb' : w.heap[g]? = some (.cells (ndA n nv) ndT (0, 0)) := hb
  have hbg : b ≠ g := by
    rintro rfl
    have h1 : w.heap[b]? = some (.cells #[.int .i64 room, .map (some m)] trT (0, 0)) := h.blk
    rw [hb'] at h1
    simp only [Option.some.injEq, Obj.cells.injEq] at h1
    exact absurd h1.2.1 (by decide)
  have hmg : m ≠ g := by
    rintro rfl
    obtain ⟨L, clock, hr, _⟩ := h.map
    have h1 := hr.1
    rw [hb'] at h1
    simp at h1
  have hkey : ptrs (mset t p (g, n')) = ptrs t := by
    have h1 := mset_map (fun e : Nat × NodeV => Value.pointer (some ⟨e.1, 0, none⟩)) t p (g, n')
    show (mset t p (g, n')).map _ = _
    rw [← h1]
    exact mset_same (l := ptrs t) (by rw [mget_ptrs, hp]; rfl)
  have hkn := h.keys
  have hown : ∀ i cur f, i = g → w.heap[i]? ≠ some (.cells cur strT f) := by
    rintro i cur f rfl e
    rw [hb'] at e
    simp only [Option.some.injEq, Obj.cells.injEq] at e
    exact absurd e.2.1 (by decide)
  refine ⟨⟨h.low.1, h.low.2.1, fun e he => ?_⟩, h.blk.kp k hbg, by rw [hkey]; exact h.map.kp k hmg, fun e he => ?_, fun e he f hf hef => ?_⟩
  · rcases mem_mset hkn he with rfl | ⟨he, _⟩
    · exact h.low.2.2 (p, g, n) hm
    · exact h.low.2.2 e he
  · rcases mem_mset hkn he with rfl | ⟨he, hne⟩
    · exact hn
    · exact (h.nod e he).kp k (fun e2 => hne (h.inj e he _ hm e2)) hown
  · rcases mem_mset hkn he with rfl | ⟨he, hne⟩
    · rcases mem_mset hkn hf with rfl | ⟨hf, hnf⟩
      · rfl
      · exact absurd (h.inj _ hm f hf hef).symm hnf
    · rcases mem_mset hkn hf with rfl | ⟨hf, hnf⟩
      · exact absurd (h.inj e he _ hm hef) hne
      · exact h.inj e he f hf hef
/-- A node is laid at a path: a block of its own. -/
theorem TreeR.lay (h : TreeR w base b m room t) {p : ByteArray} {g : Nat} {n : NodeV} (hgb : base ≤ g) (hn : NdAt w g n) (hg : ∀ e ∈ t, e.2.1 ≠ g) (hmap : MapK Value.string w' m (mset (ptrs t) p (.pointer (some ⟨g, 0, none⟩)))) (k : Kp (fun i => i = m) w w') : TreeR w' base b m room (mset t p (g, n)) := by
  have hmo : ∀ cur T f, w.heap[m]? ≠ some (.cells cur T f) := by
    intro cur T f e
    obtain ⟨L, clock, hr, _⟩ := h.map
    have h1 := hr.1
    rw [e] at h1
    simp at h1
  have hbm : b ≠ m := by
    rintro rfl
    exact hmo _ _ _ (show w.heap[b]? = some (.cells #[.int .i64 room, .map (some b)] trT (0, 0)) from h.blk)
  have hkn := h.keys
  have hgm : ∀ {q : Nat} {x : NodeV}, NdAt w q x → q ≠ m := by
    rintro q x ⟨nv, h1, _⟩ rfl
    exact hmo _ _ _ (show w.heap[q]? = some (.cells (ndA x nv) ndT (0, 0)) from h1)
  refine ⟨⟨h.low.1, h.low.2.1, fun e he => ?_⟩, h.blk.kp k hbm, ?_, fun e he => ?_, fun e he f hf hef => ?_⟩
  · rcases mem_mset hkn he with rfl | ⟨he, _⟩
    · exact hgb
    · exact h.low.2.2 e he
  · show MapK _ _ _ ((mset t p (g, n)).map _)
    rw [← mset_map (fun e : Nat × NodeV => Value.pointer (some ⟨e.1, 0, none⟩)) t p (g, n)]
    exact hmap
  · rcases mem_mset hkn he with rfl | ⟨he, _⟩
    · exact hn.kp k (hgm hn) (fun i cur f e => by subst e; exact hmo _ _ _)
    · exact (h.nod e he).kp k (hgm (h.nod e he)) (fun i cur f e => by subst e; exact hmo _ _ _)
  · rcases mem_mset hkn he with rfl | ⟨he, hne⟩
    · rcases mem_mset hkn hf with rfl | ⟨hf, hnf⟩
      · rfl
      · exact absurd hef.symm (hg f hf)
    · rcases mem_mset hkn hf with rfl | ⟨hf, hnf⟩
      · exact absurd hef (hg e he)
      · exact h.inj e he f hf hef
/-- A node goes. -/
theorem TreeR.del (h : TreeR w base b m room t) {p : ByteArray} (hmap : MapK Value.string w' m (mdel (ptrs t) p)) (k : Kp (fun i => i = m) w w') : TreeR w' base b m room (mdel t p) := by
  have hmo : ∀ cur T f, w.heap[m]? ≠ some (.cells cur T f) := by
    intro cur T f e
    obtain ⟨L, clock, hr, _⟩ := h.map
    have h1 := hr.1
    rw [e] at h1
    simp at h1
  have hbm : b ≠ m := by
    rintro rfl
    exact hmo _ _ _ (show w.heap[b]? = some (.cells #[.int .i64 room, .map (some b)] trT (0, 0)) from h.blk)
  have hgm : ∀ {q : Nat} {x : NodeV}, NdAt w q x → q ≠ m := by
    rintro q x ⟨nv, h1, _⟩ rfl
    exact hmo _ _ _ (show w.heap[q]? = some (.cells (ndA x nv) ndT (0, 0)) from h1)
  have hsub : ∀ e ∈ mdel t p, e ∈ t := fun e he => (List.mem_filter.1 he).1
  refine ⟨⟨h.low.1, h.low.2.1, fun e he => h.low.2.2 e (hsub e he)⟩, h.blk.kp k hbm, ?_, fun e he => ?_, fun e he f hf hef => h.inj e (hsub e he) f (hsub f hf) hef⟩
  · show MapK _ _ _ ((mdel t p).map _)
    rw [← mdel_map (fun e : Nat × NodeV => Value.pointer (some ⟨e.1, 0, none⟩)) t p]
    exact hmap
  · exact (h.nod e (hsub e he)).kp k (hgm (h.nod e (hsub e he))) (fun i cur f e => by subst e; exact hmo _ _ _)
end
end Go.Proofs.YtdagikbdpeblhaaGreatDoor

/- Walks of package path. -/
namespace Go.Proofs.YtdagikbdpeblhaaGreatDoor
set_option maxRecDepth 100000
open Go.RowKit Av

/-- internal/bytealg.MaxLen holds an int, whatever it be. -/
def GL (w : World) : Prop := ∃ m : Int, w.cell? ⟨0, 0, none⟩ = some (.int .i64 m)
theorem GL.kp {S : Nat → Prop} {w w' : World} (h : GL w) (k : Kp S w w') (hs : ¬ S 0) : GL w' := by
  obtain ⟨m, h⟩ := h
  exact ⟨m, k.cell h hs⟩
theorem GL.ext {w w' : World} (h : GL w) (k : Ext w w') : GL w' := h.kp k (fun f => f)

theorem ret_bool {a b : Bool} (h : a = b) : Ending.returned (.bool a) = .returned (.bool b) := by rw [h]

theorem all_snoc (l : Bs) (k : Nat) (h : k < l.length) : (l.take (k + 1)).all sign = ((l.take k).all sign && sign l[k]) := by
  rw [List.take_succ_eq_append_getElem h]; simp only [List.all_append, List.all_cons, List.all_nil, Bool.and_true]
theorem not_all (l : Bs) (k : Nat) (h : k < l.length) (hs : sign l[k] = false) : l.all sign = false := by
  rw [List.all_eq_false]; exact ⟨l[k], List.getElem_mem h, by simp [hs]⟩

set_option maxHeartbeats 400000 in
theorem name_any (s : ByteArray) (w : World) (hs : s.size ≤ maxLen) :
    Calls Tryz.prog 108 #[.string s] w fun e w' => e = .returned (.bool (nameL s.data.toList)) ∧ w = w' := by
  unfold maxLen at hs
  have hsz : s.size = s.data.toList.length := Go.Lib.size_eq s
  have HS := Lib.hid hsz; clear hsz
  go_enter Tryz.func108, Tryz.ntmps108
  go_wp2
  go_loop [6] (fun i => ∃ k : Nat, k ≤ s.size ∧ i = .int .i64 k ∧ (s.data.toList.take k).all sign = true) (fun i => s.size - (intOf i).toNat)
  case atStart => exact ⟨0, Nat.zero_le _, rfl, rfl⟩
  case round =>
    obtain ⟨k, hk, rfl, ht⟩ := hrel
    have HT := Lib.hid ht; clear ht
    by_cases hlt : k < s.size
    · have hl : k < s.data.toList.length := by rw [← HS.out]; exact hlt
      have hg : s.data.toList[k] = s[k] := by rw [Array.getElem_toList]; rfl
      by_cases hsg : sign s[k] = true
      · have hb : 33 ≤ s[k].toNat ∧ s[k].toNat ≤ 126 := by
          simp only [sign, Bool.and_eq_true, decide_eq_true_eq, UInt8.le_iff_toNat_le] at hsg; simpa using hsg
        obtain ⟨hb1, hb2⟩ := hb
        have HG := Lib.hid hsg; clear hsg
        have HX := Lib.hid hg; clear hg
        go_wp2
        go_round
        case rel => exact ⟨k + 1, by omega, by go_num, by rw [all_snoc _ _ hl, HT.out, HX.out, HG.out]; rfl⟩
        case measure => simp [intOf]; omega
      · have hb : s[k].toNat < 33 ∨ 126 < s[k].toNat := by
          simp only [sign, Bool.and_eq_true, decide_eq_true_eq, UInt8.le_iff_toNat_le] at hsg
          have h33 : (33 : UInt8).toNat = 33 := rfl
          have h126 : (126 : UInt8).toNat = 126 := rfl
          omega
        have hres : nameL s.data.toList = false := by
          simp only [nameL, not_all _ _ hl (by rw [hg]; simpa using hsg), Bool.false_and]
        have HR := Lib.hid hres
        clear hsg hg hres
        rcases hb with hb | hb
        all_goals
          go_wp2
          go_ret
          exact ⟨ret_bool (by rw [HR.out]), rfl⟩
    · have hall : s.data.toList.all sign = true := by
        have := HT.out
        rwa [List.take_of_length_le (by rw [← HS.out]; omega)] at this
      have HA := Lib.hid hall
      have e1 : s.toList = s.data.toList := Go.Lib.toList_data s
      clear hall
      have HE := Lib.hid e1; clear e1
      have hnm : ∀ b : Bool, ((decide (1 ≤ s.size) && decide (s.size ≤ 40)) && ((s.data.toList != [46]) && (s.data.toList != [46, 46]))) = b → nameL s.data.toList = b := by
        intro b hb; rw [← hb]; simp only [nameL, HA.out, ← HS.out, Bool.true_and, Bool.and_assoc]
      have HN := Lib.hid hnm; clear hnm
      by_cases h1 : 1 ≤ s.size
      · by_cases h2 : s.size ≤ 40
        · go_wp2
          all_goals
            go_ret
            go_light
            refine ⟨ret_bool (HN.out _ ?_).symm, rfl⟩
            have e2 := HE.out
            simp_all [bne]
        · go_wp2
          go_ret
          exact ⟨ret_bool (HN.out _ (by simp [h2])).symm, rfl⟩
      · go_wp2
        go_ret
        exact ⟨ret_bool (HN.out _ (by simp [h1])).symm, rfl⟩

def stroke : ByteArray := ⟨#[47]⟩
theorem Split_any (q : ByteArray) (w : World) (hG : GL w) (hq : q.size < 4294967281) :
    Calls Tryz.prog 107 #[.string q, .string ⟨#[47]⟩] w fun e w' => ∃ (b : Nat) (ps : List ByteArray), ps.map (·.data.toList) = cut q.data.toList ∧ e = .returned (.slice (some ⟨b, 0, none⟩) ps.length ps.length) ∧
      ps.length ≤ maxLen ∧ b < w'.heap.size ∧ (∀ i (hi : i < ps.length), w'.cell? ⟨b, i, none⟩ = some (.string ps[i])) ∧ Ext w w' := by
  obtain ⟨m, hm⟩ := hG
  refine (Tryz.strings_Split q ⟨#[47]⟩ m w hq hm (by decide)).mono ?_
  rintro e w' ⟨rfl, rfl⟩
  have hc : Lib.countB q ⟨#[47]⟩ = q.data.toList.count 47 := Lib.count_one 47 q.data.toList
  have hl := Lib.splitB_all ⟨#[47]⟩ (by decide) 0 _ q rfl
  have hle := Lib.countB_le ⟨#[47]⟩ (by decide) q.size q (Nat.le_refl _)
  have hd := Lib.splitB_data ⟨#[47]⟩ 0 (Lib.countB q ⟨#[47]⟩) q
  generalize Lib.splitB ⟨#[47]⟩ 0 (Lib.countB q ⟨#[47]⟩) q = ps at hl hd ⊢
  refine ⟨w.heap.size, ps, ?_, by rw [hl], by unfold maxLen; omega, by simp, ?_, (Kp.refl _ _).alloc _⟩
  · rw [hd]; exact splitK_cut _ _ hc.symm
  · intro i hi
    exact (World.cell?_alloc_new _ _ _ _).trans (by simp [hi])

theorem CutPrefix_yes (p : ByteArray) (t : Bs) (w : World) (h : p.data.toList = 47 :: t) :
    Calls Tryz.prog 106 #[.string p, .string ⟨#[47]⟩] w fun e w' => e = .returned (.tuple #[.string ⟨t.toArray⟩, .bool true]) ∧ w = w' := by
  refine (Tryz.strings_CutPrefix _ _ _).mono ?_
  rintro e w' ⟨rfl, rfl⟩
  simp [h, Lib.trimPrefix, Lib.hasPrefix]
theorem CutPrefix_no (p : ByteArray) (w : World) (h : p.data.toList.head? ≠ some 47) :
    Calls Tryz.prog 106 #[.string p, .string ⟨#[47]⟩] w fun e w' => e = .returned (.tuple #[.string p, .bool false]) ∧ w = w' := by
  refine (Tryz.strings_CutPrefix _ _ _).mono ?_
  rintro e w' ⟨rfl, rfl⟩
  have : Lib.hasPrefix p.data.toList [47] = false := by
    cases hl : p.data.toList with
    | nil => rfl
    | cons c t =>
      simp only [Lib.hasPrefix, List.isPrefixOf, Bool.and_true]
      simp only [hl, List.head?_cons, ne_eq, Option.some.injEq] at h
      simpa using fun e => h e.symm
  simp [this, Lib.trimPrefix]

theorem good_no (l : Bs) (h : l.head? ≠ some 47) : goodL l = false := by
  cases l with
  | nil => rfl
  | cons c t =>
    have : (c == 47) = false := by simpa using h
    simp [goodL, this]
theorem good_long (l : Bs) (h : 200 < l.length) : goodL l = false := by
  cases l with
  | nil => rfl
  | cons c t =>
    have : decide ((c :: t).length ≤ 200) = false := decide_eq_false (by omega)
    simp only [goodL, this, Bool.and_false, Bool.false_and]
theorem good_cons (t : Bs) (h : t.length < 200) : goodL (47 :: t) = ((cut t).all nameL && decide ((cut t).length ≤ 8)) := by
  have : decide ((47 :: t).length ≤ 200) = true := by simp; omega
  simp only [goodL, this, beq_self_eq_true, Bool.true_and]
theorem piece (ps : List ByteArray) (l : List Bs) (h : ps.map (·.data.toList) = l) (k : Nat) (hk : k < ps.length) : ∃ hk' : k < l.length, ps[k].data.toList = l[k] := by
  subst h; exact ⟨by simpa using hk, by simp⟩
theorem all_name_snoc (l : List Bs) (k : Nat) (h : k < l.length) : (l.take (k + 1)).all nameL = ((l.take k).all nameL && nameL l[k]) := by
  rw [List.take_succ_eq_append_getElem h]; simp only [List.all_append, List.all_cons, List.all_nil, Bool.and_true]

set_option maxHeartbeats 400000 in
theorem Good_any (p : ByteArray) (w : World) (hG : GL w) (hp : p.size ≤ maxLen) :
    Calls Tryz.prog 55 #[.string p] w fun e w' => e = .returned (.bool (goodL p.data.toList)) ∧ Ext w w' := by
  unfold maxLen at hp
  have HS : Hid (p.size = p.data.toList.length) := Go.Lib.size_eq p
  by_cases hpre : p.data.toList.head? = some 47
  · obtain ⟨t, ht⟩ : ∃ t, p.data.toList = 47 :: t := by
      cases h : p.data.toList with
      | nil => simp [h] at hpre
      | cons c t => simp [h] at hpre; exact ⟨t, by rw [hpre]⟩
    have HT := Lib.hid ht
    clear ht hpre
    by_cases hlen : p.size ≤ 200
    · have htl : (⟨t.toArray⟩ : ByteArray).size < 4294967281 := by
        have := HS.out; rw [HT.out] at this; simp at this; simp [ByteArray.size]; omega
      have HL := Lib.hid htl
      clear htl
      go_enter Tryz.func55, Tryz.ntmps55
      go_wp2_with (fail)
      refine (CutPrefix_yes p t _ HT.out).mono ?_
      rintro e w' ⟨rfl, rfl⟩
      go_wp2_with (fail)
      refine (Split_any _ _ hG HL.out).mono ?_
      rintro e w1 ⟨b, ps, hps, rfl, hn, hb, hc, hx⟩
      have HP := Lib.hid hps
      have HC := Lib.hid hc
      clear hps hc
      unfold maxLen at hn
      go_wp2_with (fail)
      go_loop [24] (fun i => ∃ k : Nat, k ≤ ps.length ∧ i = .int .i64 k ∧ ((cut t).take k).all nameL = true) (fun i => ps.length - (intOf i).toNat)
      case atStart => exact ⟨0, Nat.zero_le _, rfl, rfl⟩
      case round =>
        obtain ⟨k, hk, rfl, hall⟩ := hrel
        have HA := Lib.hid hall
        clear hall
        by_cases hlt : k < ps.length
        · have hcell := HC.out k hlt
          obtain ⟨hk', hpk⟩ := piece ps _ HP.out k hlt
          have hsz : ps[k].size ≤ maxLen := by
            have h1 := cut_len_le t _ (List.getElem_mem hk')
            have h2 : ps[k].size = ps[k].data.toList.length := Go.Lib.size_eq _
            have h3 := HS.out
            rw [HT.out] at h3
            simp only [List.length_cons] at h3
            rw [h2, hpk]; unfold maxLen; omega
          have HZ := Lib.hid hsz
          have HK := Lib.hid hpk
          clear hsz hpk
          by_cases hnm : nameL ps[k].data.toList = true
          · go_wp2_with (go_at_call 108; refine (name_any _ _ HZ.out).mono ?_; rintro e w' ⟨rfl, rfl⟩)
            go_round
            case rel => exact ⟨k + 1, by omega, by go_num, by rw [all_name_snoc _ _ hk', HA.out, ← HK.out, hnm]; rfl⟩
            case measure => simp [intOf]; omega
          · have hnf : nameL ps[k].data.toList = false := by simpa using hnm
            clear hnm
            go_wp2_with (go_at_call 108; refine (name_any _ _ HZ.out).mono ?_; rintro e w' ⟨rfl, rfl⟩)
            go_ret
            go_light
            refine ⟨ret_bool ?_, hx⟩
            have h3 := HS.out
            rw [HT.out] at h3 ⊢
            simp only [List.length_cons] at h3
            rw [good_cons _ (by omega)]
            have : (cut t).all nameL = false := by
              rw [List.all_eq_false]; exact ⟨_, List.getElem_mem hk', by rw [← HK.out, hnf]; simp⟩
            rw [this]; rfl
        · have hke : k = ps.length := by omega
          have HKE := Lib.hid hke
          clear hke
          go_wp2
          go_ret
          go_light
          refine ⟨ret_bool ?_, hx⟩
          have h3 := HS.out
          rw [HT.out] at h3 ⊢
          simp only [List.length_cons] at h3
          rw [good_cons _ (by omega)]
          have hl : (cut t).length = ps.length := by rw [← HP.out]; simp
          have := HA.out
          rw [HKE.out, ← hl, List.take_length] at this
          rw [this, hl]
          simp
          omega
    · go_enter Tryz.func55, Tryz.ntmps55
      go_wp2_with (fail)
      refine (CutPrefix_yes p t _ HT.out).mono ?_
      rintro e w' ⟨rfl, rfl⟩
      go_wp2_with (fail)
      go_ret
      exact ⟨ret_bool (good_long _ (by rw [← HS.out]; omega)).symm, Kp.refl _ _⟩
  · have HP := Lib.hid hpre
    clear hpre
    go_enter Tryz.func55, Tryz.ntmps55
    go_wp2_with (fail)
    refine (CutPrefix_no p _ HP.out).mono ?_
    rintro e w' ⟨rfl, rfl⟩
    go_wp2_with (fail)
    go_ret
    exact ⟨ret_bool (good_no _ HP.out).symm, Kp.refl _ _⟩

end Go.Proofs.YtdagikbdpeblhaaGreatDoor

/- Locks as a list of pairs: what chapter 17 says, in plain Lean. No program. -/
namespace Av
set_option maxRecDepth 100000
/-- The path without its last name, as a text; empty: there is none. -/
def optS (o : Option Bs) : ByteArray := ⟨(o.getD []).toArray⟩
abbrev upB (p : ByteArray) : Option Bs := parentL p.data.toList
/-- Does a held path block p for who? -/
def blk (who : Int) (p : ByteArray) (e : ByteArray × Int) : Bool :=
  decide (e.2 ≠ who) && (decide (e.1 = p) || (decide (e.1 = optS (upB p)) || ((upB e.1).isSome && decide (optS (upB e.1) = p))))
end Av

/- Walks of package path: Parts, Parent. -/
namespace Go.Proofs.YtdagikbdpeblhaaGreatDoor
set_option maxRecDepth 100000
open Go.RowKit Av

/-- A slice of the pieces, of its own. -/
def PartsPost (w : World) (l : List Bs) (e : Ending) (w' : World) : Prop :=
  ∃ (v : Value) (ps : List ByteArray), e = .returned v ∧ ps.map (·.data.toList) = l ∧ Strs w' v ps ∧ Ext w w'

theorem extract_tail (p : ByteArray) (t : Bs) (h : p.data.toList = 47 :: t) : (p.extract 1 p.size).data.toList = t := by
  rw [Lib.extract_data, h, Lib.size_eq, h]; simp

set_option maxHeartbeats 400000 in
theorem Parts_any (p : ByteArray) (w : World) (hG : GL w) (hp : p.size ≤ maxLen) :
    Calls Tryz.prog 146 #[.string p] w fun e w' => PartsPost w (partsL p.data.toList) e w' := by
  have HGd := Lib.hid (Good_any p w hG hp)
  unfold maxLen at hp
  by_cases hg : goodL p.data.toList = true
  · obtain ⟨t, ht, h1, h2, h3, h4⟩ := good_head _ hg
    have h200 : p.size ≤ 200 := by rw [Lib.size_eq, ht]; simp; omega
    have h0 : 1 ≤ p.size := by rw [Lib.size_eq, ht]; simp
    have HX := Lib.hid (extract_tail p t ht)
    have H4 := Lib.hid h4
    have hsz : (p.extract 1 p.size).size < 4294967281 := by rw [Lib.size_eq, HX.out]; omega
    have HZ := Lib.hid hsz
    have HG := Lib.hid hg
    clear hg ht h1 h2 h3 h4 hsz
    go_enter Tryz.func146, Tryz.ntmps146
    go_wp2_with (fail)
    refine HGd.out.mono ?_
    rintro e w' ⟨rfl, hx⟩
    rw [HG.out]
    go_wp2_with (fail)
    refine (Split_any _ _ (hG.ext hx) HZ.out).mono ?_
    rintro e w1 ⟨b, ps, hps, rfl, hn, hb, hc, hx1⟩
    go_wp2_with (fail)
    go_ret
    go_light
    exact ⟨.slice (some ⟨b, 0, none⟩) ps.length ps.length, ps, rfl, by rw [hps, HX.out, H4.out], Strs.of_cells hn (Nat.le_refl _) hb (fun i hi => by rw [Nat.zero_add]; exact hc i hi), hx.ext hx1⟩
  · have HG : Hid (goodL p.data.toList = false) := by show goodL p.data.toList = false; simpa using hg
    clear hg
    go_enter Tryz.func146, Tryz.ntmps146
    go_wp2_with (fail)
    refine HGd.out.mono ?_
    rintro e w' ⟨rfl, hx⟩
    rw [HG.out]
    go_wp2_with (fail)
    go_ret
    exact ⟨.slice none 0 0, [], rfl, by simp [partsL, HG.out], Strs.nil _, hx⟩

theorem Join_any (v : Value) (xs : List ByteArray) (w : World) (h : Strs w v xs) (hn : xs.length ≤ 140737488355328) (hl : (Lib.join (xs.map (·.data.toList)) [47]).length ≤ 140737488355328) :
    Calls Tryz.prog 187 #[v, .string ⟨#[47]⟩] w fun e w' => e = .returned (.string ⟨(Lib.join (xs.map (·.data.toList)) [47]).toArray⟩) ∧ Ext w w' := by
  obtain ⟨a, c, rfl, hcc, hm, ho⟩ := Strs.open h
  by_cases h0 : 0 < xs.length
  · obtain ⟨b, off, rfl, hb, hc⟩ := ho h0
    refine (Tryz.strings_Join b off c xs ⟨#[47]⟩ w (fun j x hx => ?_) hb hn hcc hl).mono fun e w' hh => ⟨hh.1, Kp.of_below hh.2⟩
    obtain ⟨hj, rfl⟩ := List.getElem?_eq_some_iff.1 hx
    exact hc j hj
  · have : xs = [] := List.eq_nil_of_length_eq_zero (by omega)
    subst this
    exact (Tryz.strings_Join_none a c ⟨#[47]⟩ w).mono fun e w' hh => ⟨hh.1, hh.2 ▸ Kp.refl _ _⟩

theorem parent_none (p : Bs) (h : (partsL p).length < 2) : parentL p = none := by simp [parentL, h]
theorem parent_some (p : Bs) (h : 2 ≤ (partsL p).length) : parentL p = some (ofL (partsL p).dropLast) := by
  unfold parentL; rw [if_neg (by omega)]

set_option maxHeartbeats 400000 in
theorem Parent_any (p : ByteArray) (w : World) (hG : GL w) (hp : p.size ≤ maxLen) :
    Calls Tryz.prog 164 #[.string p] w fun e w' => e = .returned (.tuple #[.string (optS (parentL p.data.toList)), .bool (parentL p.data.toList).isSome]) ∧ Ext w w' := by
  have HPt := Lib.hid (Parts_any p w hG hp)
  by_cases hn : 2 ≤ (partsL p.data.toList).length
  · go_enter Tryz.func164, Tryz.ntmps164
    go_wp2_with (fail)
    refine HPt.out.mono ?_
    rintro e w1 ⟨v, ps, rfl, hps, hst, hx⟩
    have hl : ps.length = (partsL p.data.toList).length := by rw [← hps]; simp
    have h2 : 2 ≤ ps.length := by omega
    have h8 : ps.length ≤ 8 := by rw [hl]; exact parts_len _
    have HPS := Lib.hid hps
    obtain ⟨a', c', rfl, hcc, hm, hopen⟩ := Strs.open hst
    obtain ⟨b, off, rfl, hb, hc⟩ := hopen (by omega)
    have hd : ps.dropLast.map (·.data.toList) = (partsL p.data.toList).dropLast := by rw [← hps, List.map_dropLast]
    have hj : 47 :: Lib.join (ps.dropLast.map (·.data.toList)) [47] = ofL (partsL p.data.toList).dropLast := by
      rw [join_ofL _ (by intro e; have := congrArg List.length e; simp at this; omega), hd]
    have hjl := parent_len p.data.toList
    rw [← hj] at hjl
    have hs : Strs w1 (.slice (some ⟨b, off, none⟩) (ps.length - 1) c') ps.dropLast := by
      have e : ps.length - 1 = ps.dropLast.length := by simp
      rw [e]
      exact Strs.of_cells (by simp; omega) (by simp; omega) hb (fun i hi => by rw [List.getElem_dropLast]; exact hc i _)
    have hcon := Join_any _ _ _ hs (by simp; omega) (by simp only [List.length_cons] at hjl; omega)
    have HJ := Lib.hid (parent_some _ hn)
    generalize Lib.join (ps.dropLast.map (·.data.toList)) [47] = J at hj hjl hcon
    have HCON := Lib.hid hcon
    have HJ2 := Lib.hid hj
    have hjl' : J.length ≤ 199 := by simp only [List.length_cons] at hjl; omega
    clear hl hps hst hopen hn hc hj hjl hcon hs hd
    go_wp2_with (fail)
    refine HCON.out.mono ?_
    rintro e w2 ⟨rfl, hx2⟩
    go_wp2_with (fail)
    go_ret2
    go_light
    refine ⟨?_, hx.ext hx2⟩
    rw [HJ.out, ← HJ2.out]
    show Ending.returned (.tuple #[.string (⟨[47].toArray⟩ ++ ⟨J.toArray⟩), .bool true]) = _
    rw [bytes_append]; rfl
  · go_enter Tryz.func164, Tryz.ntmps164
    go_wp2_with (fail)
    refine HPt.out.mono ?_
    rintro e w1 ⟨v, ps, rfl, hps, hst, hx⟩
    have hl : ps.length = (partsL p.data.toList).length := by rw [← hps]; simp
    have h2 : ps.length < 2 := by omega
    obtain ⟨a', c', rfl, hcc, hm, hopen⟩ := Strs.open hst
    clear hl hps hst hopen
    go_wp2_with (fail)
    go_ret2
    exact ⟨by rw [parent_none _ (by omega)]; rfl, hx⟩

end Go.Proofs.YtdagikbdpeblhaaGreatDoor
