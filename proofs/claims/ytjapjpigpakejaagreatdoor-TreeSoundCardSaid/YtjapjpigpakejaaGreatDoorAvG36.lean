/- Texts put together: AvOwnL, AvTreeU. -/
import Derived.Test.YtjapjpigpakejaaGreatDoorAvHAllN
import Derived.Test.YtjapjpigpakejaaGreatDoorAvG32
import Derived.Test.YtjapjpigpakejaaGreatDoorAvG34
import Derived.Test.YtjapjpigpakejaaGreatDoorAvHSound

/- A tree as the reference's list: entries that rise by their paths. Plain. -/
namespace Go.Proofs.YtjapjpigpakejaaGreatDoor
set_option maxRecDepth 100000
open Go.RowKit Av

abbrev RL := List (ByteArray × NodeV)
def keysR (L : RL) : List Bs := L.map (·.1.data.toList)
def entOf (t : Pt) (x : Bs) : ByteArray × NodeV := (⟨x.toArray⟩, (nodeP t ⟨x.toArray⟩).1)
def ownL (t : Pt) : RL := (pathsP t).map (entOf t)
theorem mget_append (A B : RL) (q : ByteArray) : mget (A ++ B) q = (mget A q).or (mget B q) := by
  induction A with
  | nil => rfl
  | cons a r ih =>
    show (if q = a.1 then some a.2 else mget (r ++ B) q) = (if q = a.1 then some a.2 else mget r q).or (mget B q)
    split
    · rfl
    · exact ih
theorem mget_cons (a : ByteArray × NodeV) (B : RL) (q : ByteArray) : mget (a :: B) q = if q = a.1 then some a.2 else mget B q := rfl
structure SortedAs (L : RL) (t : Pt) : Prop where
  rise : Rising (keysR L)
  get : ∀ p, mget L p = mget t p
theorem rise_nodup {L : RL} (h : Rising (keysR L)) : (L.map (·.1)).Nodup := by
  unfold keysR at h
  have h1 := List.pairwise_map.1 h
  exact List.pairwise_map.2 (h1.imp fun {a b} hab e => by rw [e] at hab; exact List.lt_irrefl _ hab)
theorem keys_mem {L : RL} {x : Bs} : x ∈ keysR L ↔ mget L ⟨x.toArray⟩ ≠ none := by
  rw [ne_eq, mget_none, Classical.not_not]
  unfold keysR
  rw [List.mem_map, List.mem_map]
  constructor
  · rintro ⟨e, he, rfl⟩
    exact ⟨e, he, by rw [bytes_self]⟩
  · rintro ⟨e, he, hx⟩
    exact ⟨e, he, by rw [hx]⟩
theorem paths_mem {t : Pt} {x : Bs} : x ∈ pathsP t ↔ mget t ⟨x.toArray⟩ ≠ none := by
  rw [pathsP_mem, ne_eq, mget_none, Classical.not_not, List.mem_map]
  constructor
  · rintro ⟨e, he, rfl⟩
    exact ⟨e, he, by rw [bytes_self]⟩
  · rintro ⟨e, he, hx⟩
    exact ⟨e, he, by rw [hx]⟩
theorem self_own : ∀ {L : RL}, (L.map (·.1)).Nodup → ∀ t : Pt, (∀ e ∈ L, mget t e.1 = some e.2) → L = (keysR L).map (entOf t)
  | [], _, _, _ => rfl
  | a :: L, hn, t, h => by
    have h1 := List.pairwise_cons.1 hn
    have ha := h a (by simp)
    show a :: L = entOf t a.1.data.toList :: (keysR L).map (entOf t)
    rw [← self_own h1.2 t (fun e he => h e (by simp [he]))]
    congr 1
    unfold entOf nodeP
    rw [bytes_self, ha]
theorem SortedAs.own {L : RL} {t : Pt} (h : SortedAs L t) (ht : (t.map (·.1)).Nodup) : L = ownL t := by
  have hn := rise_nodup h.rise
  have h1 := self_own hn t (fun e he => by rw [← h.get]; exact mget_of_mem hn (k := e.1) he)
  have h2 : keysR L = pathsP t := rising_ext h.rise (pathsP_rising ht) (fun x => by rw [keys_mem, paths_mem, h.get])
  rw [h1, h2]; rfl
theorem keys_own (t : Pt) : keysR (ownL t) = pathsP t := by
  unfold keysR ownL
  rw [List.map_map]
  refine (List.map_congr_left (fun x _ => ?_)).trans (List.map_id _)
  show (entOf t x).1.data.toList = x
  unfold entOf
  simp
theorem own_sorted {t : Pt} (ht : (t.map (·.1)).Nodup) : SortedAs (ownL t) t := by
  have hr : Rising (keysR (ownL t)) := by rw [keys_own]; exact pathsP_rising ht
  refine ⟨hr, fun p => ?_⟩
  cases hg : mget t p with
  | none =>
    refine mget_none.2 fun hm => ?_
    obtain ⟨e, he, rfl⟩ := List.mem_map.1 hm
    unfold ownL at he
    obtain ⟨x, hx, rfl⟩ := List.mem_map.1 he
    exact paths_mem.1 hx hg
  | some n =>
    refine mget_of_mem (rise_nodup hr) ?_
    unfold ownL
    refine List.mem_map.2 ⟨p.data.toList, paths_mem.2 (by rw [bytes_self, hg]; simp), ?_⟩
    unfold entOf nodeP
    rw [bytes_self, hg]
theorem SortedAs.congr {L : RL} {t u : Pt} (h : SortedAs L t) (e : ∀ p, mget t p = mget u p) : SortedAs L u := ⟨h.rise, fun p => (h.get p).trans (e p)⟩
/-- Trees that tell the same nodes are the same list. -/
theorem own_same {t u : Pt} (ht : (t.map (·.1)).Nodup) (hu : (u.map (·.1)).Nodup) (e : ∀ p, mget t p = mget u p) : ownL t = ownL u := ((own_sorted ht).congr e).own hu
theorem own_len (t : Pt) : (ownL t).length = t.length := by unfold ownL; rw [List.length_map, pathsP_len]
/-! What acts do to the list. -/
def putR (L : RL) (k : Nat) (e : ByteArray × NodeV) : RL := L.take k ++ e :: L.drop k
def delR (L : RL) (k : Nat) : RL := L.take k ++ L.drop (k + 1)
def atR (L : RL) (p : ByteArray) : Nat := lessN p.data.toList (keysR L)
theorem split_at {L : RL} {k : Nat} {e : ByteArray × NodeV} (h : L[k]? = some e) : L = L.take k ++ e :: L.drop (k + 1) := by
  obtain ⟨hk, rfl⟩ := List.getElem?_eq_some_iff.1 h
  conv => lhs; rw [← List.take_append_drop k L, List.drop_eq_getElem_cons hk]
theorem at_some {L : RL} (hr : Rising (keysR L)) {p : ByteArray} {n : NodeV} (h : mget L p = some n) : L[atR L p]? = some (p, n) := by
  have hm := mget_mem h
  obtain ⟨j, hj, he⟩ := List.getElem_of_mem hm
  have hj2 : j < (keysR L).length := by unfold keysR; simpa using hj
  have hkj : (keysR L)[j] = p.data.toList := by
    have h3 : (L.map fun x => x.1.data.toList)[j]'(by simpa using hj) = p.data.toList := by rw [List.getElem_map, he]
    exact h3
  have hl : atR L p = j := lessN_at _ _ j hj2 (fun z hz => by
    obtain ⟨i, hi, rfl⟩ := List.getElem_of_mem hz
    rw [List.getElem_take, ← hkj]
    have hij : i < j := by simp at hi; omega
    exact List.pairwise_iff_getElem.1 hr i j (by omega) hj2 hij) (by rw [hkj]; exact List.lt_irrefl _)
  rw [hl, List.getElem?_eq_getElem hj, he]
theorem at_none {L : RL} {p : ByteArray} (h : mget L p = none) : ∀ n, L[atR L p]? ≠ some (p, n) := fun n e => by
  have := List.mem_of_getElem? e
  exact mget_none.1 h (List.mem_map.2 ⟨_, this, rfl⟩)
theorem at_le (L : RL) (p : ByteArray) : atR L p ≤ L.length := by
  have := lessN_le p.data.toList (keysR L)
  unfold atR
  unfold keysR at this ⊢
  simpa using this
theorem keys_split (A B : RL) (e : ByteArray × NodeV) : keysR (A ++ e :: B) = keysR A ++ e.1.data.toList :: keysR B := by simp [keysR]
theorem SortedAs.put {L : RL} {t : Pt} (h : SortedAs L t) {p : ByteArray} (n : NodeV) (hp : mget t p = none) : SortedAs (putR L (atR L p) (p, n)) (mset t p n) := by
  have hnone : mget L p = none := by rw [h.get, hp]
  have hsplit := List.take_append_drop (atR L p) L
  refine ⟨?_, fun q => ?_⟩
  · have hk : keysR (putR L (atR L p) (p, n)) = insN (keysR L) (lessN p.data.toList (keysR L)) p.data.toList := by
      unfold putR insN atR
      rw [keys_split]
      unfold keysR
      rw [List.map_take, List.map_drop]
    rw [hk]
    refine insN_rising h.rise fun e => ?_
    have hm := List.mem_of_getElem? e
    rw [keys_mem, bytes_self] at hm
    exact hm hnone
  · have hq : mget L q = (mget (L.take (atR L p)) q).or (mget (L.drop (atR L p)) q) := by rw [← mget_append, hsplit]
    unfold putR
    rw [mget_append, mget_cons, mget_mset, ← h.get]
    by_cases e : q = p
    · subst e
      rw [if_pos rfl, if_pos rfl]
      rw [hnone] at hq
      cases hA : mget (L.take (atR L q)) q with
      | none => rfl
      | some x => rw [hA] at hq; cases hq
    · rw [if_neg e, if_neg e, hq]
theorem nodup_mid {A B : RL} {e : ByteArray × NodeV} (h : ((A ++ e :: B).map (·.1)).Nodup) : mget A e.1 = none ∧ mget B e.1 = none := by
  rw [List.map_append, List.map_cons] at h
  obtain ⟨_, h2, h3⟩ := List.nodup_append.1 h
  exact ⟨mget_none.2 fun hm => h3 _ hm _ (by simp) rfl, mget_none.2 (List.nodup_cons.1 h2).1⟩
theorem SortedAs.set {L : RL} {t : Pt} (h : SortedAs L t) {p : ByteArray} {n0 : NodeV} (n : NodeV) (hp : mget t p = some n0) : SortedAs (L.set (atR L p) (p, n)) (mset t p n) := by
  have hat := at_some h.rise ((h.get p).trans hp)
  have hsp := split_at hat
  obtain ⟨hk, _⟩ := List.getElem?_eq_some_iff.1 hat
  have hset : L.set (atR L p) (p, n) = L.take (atR L p) ++ (p, n) :: L.drop (atR L p + 1) := List.set_eq_take_append_cons_drop.trans (if_pos hk)
  have hnd := rise_nodup h.rise
  rw [hsp] at hnd
  have hmid := nodup_mid hnd
  refine ⟨?_, fun q => ?_⟩
  · have e : keysR (L.set (atR L p) (p, n)) = keysR L := by
      rw [hset]
      conv => rhs; rw [hsp]
      rw [keys_split, keys_split]
    rw [e]; exact h.rise
  · rw [hset, mget_append, mget_cons, mget_mset, ← h.get]
    conv => rhs; rw [hsp, mget_append, mget_cons]
    by_cases e : q = p
    · subst e
      rw [if_pos rfl, if_pos rfl, hmid.1]; rfl
    · simp only
      rw [if_neg e, if_neg e, if_neg e]
theorem SortedAs.del {L : RL} {t : Pt} (h : SortedAs L t) {p : ByteArray} {n0 : NodeV} (hp : mget t p = some n0) : SortedAs (delR L (atR L p)) (mdel t p) := by
  have hat := at_some h.rise ((h.get p).trans hp)
  have hsp := split_at hat
  have hnd := rise_nodup h.rise
  rw [hsp] at hnd
  have hmid := nodup_mid hnd
  refine ⟨?_, fun q => ?_⟩
  · have hr := h.rise
    rw [hsp, keys_split] at hr
    have h1 := List.pairwise_append.1 hr
    unfold delR keysR
    rw [List.map_append]
    exact List.pairwise_append.2 ⟨h1.1, (List.pairwise_cons.1 h1.2.1).2, fun a ha b hb => h1.2.2 a ha b (by unfold keysR; simp only [List.mem_cons]; exact .inr hb)⟩
  · unfold delR
    rw [mget_append, mget_mdel, ← h.get]
    conv => rhs; rw [hsp, mget_append, mget_cons]
    by_cases e : q = p
    · subst e
      rw [if_pos rfl, hmid.1, hmid.2]; rfl
    · simp only
      rw [if_neg e, if_neg e]
/-- What an act keeps where it fails, or only reads. -/
theorem doP_same (room : Int) (t : Pt) (o : OpV) (sess z : Int) (only : Bool) (h : ¬ ((doP room t o sess z only).2.err = 0 ∧ o.kind < 4)) : (doP room t o sess z only).1 = t := by
  unfold doP at h ⊢
  split
  · rfl
  · rename_i hg
    rw [if_neg hg] at h
    split
    · rfl
    · rename_i hs
      rw [if_neg hs] at h
      split
      · rename_i hk
        rw [if_pos hk] at h
        unfold createP at h ⊢
        simp only at h ⊢
        split
        · rfl
        · rename_i hq
          rw [if_neg hq] at h
          exact absurd ⟨rfl, by omega⟩ h
      · rename_i hk
        rw [if_neg hk] at h
        split
        · rename_i hk2
          rw [if_pos hk2] at h
          unfold changeP at h ⊢
          split
          · rfl
          · rename_i n hn
            simp only [hn] at h
            split
            · rfl
            · rename_i hw
              rw [if_neg hw] at h
              split
              · rename_i h2
                rw [if_pos h2] at h
                split
                · rfl
                · rename_i h3
                  rw [if_neg h3] at h
                  exact absurd ⟨rfl, by omega⟩ h
              · rename_i h2
                rw [if_neg h2] at h
                split
                · rename_i h3
                  rw [if_pos h3] at h
                  exact absurd ⟨rfl, by omega⟩ h
                · rfl
        · rfl
theorem doP_try (room : Int) (t : Pt) (o : OpV) (sess z : Int) : (doP room t o sess z true).1 = t := by
  unfold doP
  split
  · rfl
  · split
    · rfl
    · split
      · unfold createP
        simp only
        split <;> rfl
      · split
        · unfold changeP
          split
          · rfl
          · split
            · rfl
            · split
              · split <;> rfl
              · split <;> rfl
        · rfl
end Go.Proofs.YtjapjpigpakejaaGreatDoor

/- A law's tree: its paths; what soundness says of one node; loops over paths. -/
namespace Go.Proofs.YtjapjpigpakejaaGreatDoor
set_option maxRecDepth 100000
open Go.RowKit Av

/-- The paths of a tree that a law has made. -/
theorem tsPaths {w0 w : World} {b m : Nat} {room : Int} {K : Nat} {t : Tr} (h : TS w0 w b m room K t) (hs : SoundP room (pl t)) (hr : room ≤ 100000) :
    Calls Tryz.prog 13 #[.pointer (some ⟨b, 0, none⟩)] w fun e w' => PathsPost w (pathsP (pl t)) e w' := by
  refine treePaths_any w0.heap.size b m room t w h.tr (fun e he => ?_) ?_
  · have h1 : mget (pl t) e.1 = some e.2.2 := by
      rw [pl_get, mget_of_mem h.tr.keys (k := e.1) he]; rfl
    have := path_small e.1 (hs.good _ _ h1)
    unfold maxLen
    omega
  · have := hs.size
    rw [pl_len] at this
    omega
theorem strs_open {w : World} {base n : Nat} {v : Value} {L : List Bs} (h : w.ownsRow base strT 1 v n (L.map encStr)) : ∃ a c, v = .slice a n c ∧ (0 < n → ∃ g off, a = some ⟨g, off, none⟩ ∧ ∀ k (hk : k < L.length), w.cell? ⟨g, off + k, none⟩ = some (encStr L[k])) := by
  obtain ⟨a, c, e, _, _, _, hop⟩ := Sl.open (Sl.of_owns h)
  refine ⟨a, c, e, fun h0 => ?_⟩
  obtain ⟨g, off, e2, _, hc⟩ := hop h0
  exact ⟨g, off, e2, fun k hk => hc k _ (by rw [List.getElem?_map, List.getElem?_eq_getElem hk]; rfl)⟩
theorem strs_same {w : World} {base n : Nat} {v : Value} {L : List Bs} (h : w.ownsRow base strT 1 v n (L.map encStr)) : n = L.length := by
  have := h.1
  simpa using this.symm
/-- What soundness says of one node. -/
structure SoundAt (t : Pt) (p : ByteArray) (n : NodeV) : Prop where
  size : p.size ≤ 200
  cnt : n.cnt = n.names.length
  eph : n.own ≠ 0 → n.names = []
  kid : ∀ x ∈ n.names, ∃ y, mget t (childB p x) = some y
  small : ∀ x ∈ n.names, x.length ≤ 200
  par : ∀ up, parentL p.data.toList = some up → ∃ m, mget t ⟨up.toArray⟩ = some m ∧ m.own = 0 ∧ lastL p.data.toList ∈ m.names
theorem sound_at {room : Int} {t : Pt} (h : SoundP room t) {p : ByteArray} {n : NodeV} (hp : mget t p = some n) : SoundAt t p n := by
  have hk : ∀ x ∈ n.names, ∃ y, mget t (childB p x) = some y := fun x hx => Option.isSome_iff_exists.1 (h.kids p n hp x hx)
  refine ⟨path_small p (h.good p n hp), h.cnt p n hp, h.eph p n hp, hk, fun x hx => ?_, h.par p n hp⟩
  obtain ⟨y, hy⟩ := hk x hx
  have h1 := path_small _ (h.good _ y hy)
  rw [Lib.size_eq] at h1
  unfold childB at h1
  simp at h1
  omega
theorem child_add {p : ByteArray} {y : Bs} (hp : p.size ≤ 200) (hy : y.length ≤ 200) :
    (∀ wx, (Op.stringOp .add p ⟨#[47]⟩).run Tryz.prog wx = .ok (.string ⟨(p.data.toList ++ [47]).toArray⟩) wx) ∧ (∀ wx, (Op.stringOp .add ⟨(p.data.toList ++ [47]).toArray⟩ ⟨y.toArray⟩).run Tryz.prog wx = .ok (.string (childB p y)) wx) := by
  have hp2 := hp
  rw [Lib.size_eq] at hp2
  constructor
  · intro wx
    rw [run_string_add_sum (P := Tryz.prog) wx _ _ (by have : (⟨#[47]⟩ : ByteArray).size = 1 := rfl; omega)]
    refine congrArg (fun s => Result.ok (Value.string s) wx) ?_
    refine bytes_eq ?_
    simp
  · intro wx
    rw [run_string_add_sum (P := Tryz.prog) wx _ _ (by rw [Lib.size_eq, Lib.size_eq]; simp; omega)]
    refine congrArg (fun s => Result.ok (Value.string s) wx) ?_
    unfold childB
    refine bytes_eq ?_
    simp
/-- A loop over a list, all of whose rounds leave what lay there. -/
def SndRel (n : Nat) (w5 : World) (s9 : Value) (wr : World) : Prop := ∃ i : Nat, i ≤ n ∧ s9 = .int .i64 i ∧ Ext w5 wr
end Go.Proofs.YtjapjpigpakejaaGreatDoor
