/- Texts put together: AvWTreeJ, AvOwnL, AvRefD. -/
import Derived.Test.YtnkhmkcpdgmjmaaGreatDoorAvG10
import Derived.Test.YtnkhmkcpdgmjmaaGreatDoorAvG15
import Derived.Test.YtnkhmkcpdgmjmaaGreatDoorShelfJ
import Derived.Test.YtnkhmkcpdgmjmaaGreatDoorAvG11

/- Walks of package tree: Paths. -/
namespace Go.Proofs.YtnkhmkcpdgmjmaaGreatDoor
set_option maxRecDepth 100000
open Go.RowKit Av Go.Maps Go.Sort

/-- All paths, rising. -/
def pathsP (t : Pt) : List Bs := (t.map (·.1.data.toList)).mergeSort fun x y => decide (x ≤ y)
def PathsPost (w : World) (l : List Bs) (e : Ending) (w' : World) : Prop := ∃ v, e = .returned v ∧ w'.ownsRow w.heap.size strT 1 v l.length (l.map encStr) ∧ Ext w w'
theorem treePaths_any (base b m : Nat) (room : Int) (t : Tr) (w : World) (hT : TreeR w base b m room t) (hs : ∀ e ∈ t, e.1.size ≤ maxLen) (hn : t.length ≤ 1000000) :
    Calls Tryz.prog 72 #[.pointer (some ⟨b, 0, none⟩)] w fun e w' => PathsPost w (pathsP (pl t)) e w' := by
  have hpl : (ptrs t).length = t.length := List.length_map _
  obtain ⟨D0, hown, hperm, hsize⟩ := map_owned (P := Tryz.prog) (K := strT) Tryz.underlying9 hT.map (by unfold maxLen; omega) (fun e he => by
    obtain ⟨x, hx, rfl⟩ := List.mem_map.1 he
    exact hs x hx)
  have c1 := hT.blk.cell 1 _ rfl
  have HP : Hid ((strKeys D0).Perm ((pl t).map (·.1.data.toList))) := by
    show List.Perm _ _
    refine hperm.trans ?_
    unfold ptrs pl
    rw [List.map_map, List.map_map]
    exact List.Perm.refl _
  have hmax : Maps.size D0 ≤ maxLen := by unfold maxLen; omega
  have hbytes : Maps.size D0 * 16 ≤ 140737488355328 := by omega
  clear hT hs hperm
  refine (callsIn_wide (n := 6)).1 ?_
  have hfK : Fence.wide.fn 123 := trivial
  have hfS : Fence.wide.fn 122 := trivial
  refine callsIn_of_wp Tryz.func72 rfl trivial ?_ rfl
  simp only [Tryz.ntmps72, List.size_toArray, List.length_cons, List.length_nil, Nat.reduceAdd, Nat.reduceSub, Array.replicate_succ, Array.replicate_zero, List.push_toArray, List.append_toArray, List.nil_append, List.cons_append]
  gi_wp2_with (first
    | (gi_at_call 123; refine (Tryz.maps_Keys_123 _ _).mono ?_; rintro e w' ⟨rfl, rfl⟩)
    | (gi_at_call 122; refine (Tryz.slices_Sorted_keys_122_123 m t.length D0 noVal w (hpl ▸ hown) hmax hbytes).mono ?_; rintro e w' ⟨v, ss, rfl, hS, hrow, hnil, hb⟩))
  go_ret
  have e1 : (ss.mergeSort fun x y => decide (x ≤ y)) = pathsP (pl t) := mergeSort_of_perm (hS.trans HP.out)
  have e2 : ss.length = (pathsP (pl t)).length := by rw [← e1]; simp
  rw [e1, e2] at hrow
  exact ⟨v, rfl, own_less hrow (by simp), ((Kp.refl _ w).alloc _).ext (Kp.of_below hb)⟩
theorem pathsP_rising {t : Pt} (h : (t.map (·.1)).Nodup) : Rising (pathsP t) := by
  have tr : ∀ a b c : Bs, decide (a ≤ b) = true → decide (b ≤ c) = true → decide (a ≤ c) = true := fun a b c h1 h2 => by simp only [decide_eq_true_eq] at *; exact List.le_trans h1 h2
  have tt : ∀ a b : Bs, (decide (a ≤ b) || decide (b ≤ a)) = true := fun a b => by simp only [Bool.or_eq_true, decide_eq_true_eq]; exact List.le_total a b
  have hp := List.pairwise_mergeSort tr tt (t.map (·.1.data.toList))
  have hk : (t.map (·.1.data.toList)).Nodup := by
    have : (t.map (·.1.data.toList)) = (t.map (·.1)).map (·.data.toList) := by rw [List.map_map]; rfl
    rw [this]
    exact List.pairwise_map.2 (h.imp fun hab e => hab (bytes_eq e))
  have hn : (pathsP t).Nodup := (List.mergeSort_perm _ _).nodup_iff.2 hk
  exact (hp.and hn).imp fun ⟨h1, h2⟩ => lt_of_not (fun h3 => h2 (List.le_antisymm (by simpa using h1) (List.le_of_lt h3))) (fun e => h2 e.symm)
theorem pathsP_mem {t : Pt} {x : Bs} : x ∈ pathsP t ↔ ∃ e ∈ t, e.1.data.toList = x := by
  unfold pathsP
  rw [(List.mergeSort_perm _ _).mem_iff, List.mem_map]
theorem pathsP_len (t : Pt) : (pathsP t).length = t.length := by simp [pathsP]
end Go.Proofs.YtnkhmkcpdgmjmaaGreatDoor

/- A tree as the reference's list: entries that rise by their paths. Plain. -/
namespace Go.Proofs.YtnkhmkcpdgmjmaaGreatDoor
set_option maxRecDepth 100000
open Go.RowKit Av

abbrev RL := List (ByteArray × NodeV)
def keysR (L : RL) : List Bs := L.map (·.1.data.toList)
def entOf (t : Pt) (x : Bs) : ByteArray × NodeV := (⟨x.toArray⟩, (nodeP t ⟨x.toArray⟩).1)
def ownL (t : Pt) : RL := (pathsP t).map (entOf t)
theorem mget_append (A B : RL) (q : ByteArray) : mget (A ++ B) q = (mget A q).or (mget B q) := by
  induction A with
  | nil => rfl
  | cons a r ih =>
    show (if q = a.1 then some a.2 else mget (r ++ B) q) = (if q = a.1 then some a.2 else mget r q).or (mget B q)
    split
    · rfl
    · exact ih
theorem mget_cons (a : ByteArray × NodeV) (B : RL) (q : ByteArray) : mget (a :: B) q = if q = a.1 then some a.2 else mget B q := rfl
structure SortedAs (L : RL) (t : Pt) : Prop where
  rise : Rising (keysR L)
  get : ∀ p, mget L p = mget t p
theorem rise_nodup {L : RL} (h : Rising (keysR L)) : (L.map (·.1)).Nodup := by
  unfold keysR at h
  have h1 := List.pairwise_map.1 h
  exact List.pairwise_map.2 (h1.imp fun {a b} hab e => by rw [e] at hab; exact List.lt_irrefl _ hab)
theorem keys_mem {L : RL} {x : Bs} : x ∈ keysR L ↔ mget L ⟨x.toArray⟩ ≠ none := by
  rw [ne_eq, mget_none, Classical.not_not]
  unfold keysR
  rw [List.mem_map, List.mem_map]
  constructor
  · rintro ⟨e, he, rfl⟩
    exact ⟨e, he, by rw [bytes_self]⟩
  · rintro ⟨e, he, hx⟩
    exact ⟨e, he, by rw [hx]⟩
theorem paths_mem {t : Pt} {x : Bs} : x ∈ pathsP t ↔ mget t ⟨x.toArray⟩ ≠ none := by
  rw [pathsP_mem, ne_eq, mget_none, Classical.not_not, List.mem_map]
  constructor
  · rintro ⟨e, he, rfl⟩
    exact ⟨e, he, by rw [bytes_self]⟩
  · rintro ⟨e, he, hx⟩
    exact ⟨e, he, by rw [hx]⟩
theorem self_own : ∀ {L : RL}, (L.map (·.1)).Nodup → ∀ t : Pt, (∀ e ∈ L, mget t e.1 = some e.2) → L = (keysR L).map (entOf t)
  | [], _, _, _ => rfl
  | a :: L, hn, t, h => by
    have h1 := List.pairwise_cons.1 hn
    have ha := h a (by simp)
    show a :: L = entOf t a.1.data.toList :: (keysR L).map (entOf t)
    rw [← self_own h1.2 t (fun e he => h e (by simp [he]))]
    congr 1
    unfold entOf nodeP
    rw [bytes_self, ha]
theorem SortedAs.own {L : RL} {t : Pt} (h : SortedAs L t) (ht : (t.map (·.1)).Nodup) : L = ownL t := by
  have hn := rise_nodup h.rise
  have h1 := self_own hn t (fun e he => by rw [← h.get]; exact mget_of_mem hn (k := e.1) he)
  have h2 : keysR L = pathsP t := rising_ext h.rise (pathsP_rising ht) (fun x => by rw [keys_mem, paths_mem, h.get])
  rw [h1, h2]; rfl
theorem keys_own (t : Pt) : keysR (ownL t) = pathsP t := by
  unfold keysR ownL
  rw [List.map_map]
  refine (List.map_congr_left (fun x _ => ?_)).trans (List.map_id _)
  show (entOf t x).1.data.toList = x
  unfold entOf
  simp
theorem own_sorted {t : Pt} (ht : (t.map (·.1)).Nodup) : SortedAs (ownL t) t := by
  have hr : Rising (keysR (ownL t)) := by rw [keys_own]; exact pathsP_rising ht
  refine ⟨hr, fun p => ?_⟩
  cases hg : mget t p with
  | none =>
    refine mget_none.2 fun hm => ?_
    obtain ⟨e, he, rfl⟩ := List.mem_map.1 hm
    unfold ownL at he
    obtain ⟨x, hx, rfl⟩ := List.mem_map.1 he
    exact paths_mem.1 hx hg
  | some n =>
    refine mget_of_mem (rise_nodup hr) ?_
    unfold ownL
    refine List.mem_map.2 ⟨p.data.toList, paths_mem.2 (by rw [bytes_self, hg]; simp), ?_⟩
    unfold entOf nodeP
    rw [bytes_self, hg]
theorem SortedAs.congr {L : RL} {t u : Pt} (h : SortedAs L t) (e : ∀ p, mget t p = mget u p) : SortedAs L u := ⟨h.rise, fun p => (h.get p).trans (e p)⟩
/-- Trees that tell the same nodes are the same list. -/
theorem own_same {t u : Pt} (ht : (t.map (·.1)).Nodup) (hu : (u.map (·.1)).Nodup) (e : ∀ p, mget t p = mget u p) : ownL t = ownL u := ((own_sorted ht).congr e).own hu
theorem own_len (t : Pt) : (ownL t).length = t.length := by unfold ownL; rw [List.length_map, pathsP_len]
/-! What acts do to the list. -/
def putR (L : RL) (k : Nat) (e : ByteArray × NodeV) : RL := L.take k ++ e :: L.drop k
def delR (L : RL) (k : Nat) : RL := L.take k ++ L.drop (k + 1)
def atR (L : RL) (p : ByteArray) : Nat := lessN p.data.toList (keysR L)
theorem split_at {L : RL} {k : Nat} {e : ByteArray × NodeV} (h : L[k]? = some e) : L = L.take k ++ e :: L.drop (k + 1) := by
  obtain ⟨hk, rfl⟩ := List.getElem?_eq_some_iff.1 h
  conv => lhs; rw [← List.take_append_drop k L, List.drop_eq_getElem_cons hk]
theorem at_some {L : RL} (hr : Rising (keysR L)) {p : ByteArray} {n : NodeV} (h : mget L p = some n) : L[atR L p]? = some (p, n) := by
  have hm := mget_mem h
  obtain ⟨j, hj, he⟩ := List.getElem_of_mem hm
  have hj2 : j < (keysR L).length := by unfold keysR; simpa using hj
  have hkj : (keysR L)[j] = p.data.toList := by
    have h3 : (L.map fun x => x.1.data.toList)[j]'(by simpa using hj) = p.data.toList := by rw [List.getElem_map, he]
    exact h3
  have hl : atR L p = j := lessN_at _ _ j hj2 (fun z hz => by
    obtain ⟨i, hi, rfl⟩ := List.getElem_of_mem hz
    rw [List.getElem_take, ← hkj]
    have hij : i < j := by simp at hi; omega
    exact List.pairwise_iff_getElem.1 hr i j (by omega) hj2 hij) (by rw [hkj]; exact List.lt_irrefl _)
  rw [hl, List.getElem?_eq_getElem hj, he]
theorem keys_split (A B : RL) (e : ByteArray × NodeV) : keysR (A ++ e :: B) = keysR A ++ e.1.data.toList :: keysR B := by simp [keysR]
theorem SortedAs.put {L : RL} {t : Pt} (h : SortedAs L t) {p : ByteArray} (n : NodeV) (hp : mget t p = none) : SortedAs (putR L (atR L p) (p, n)) (mset t p n) := by
  have hnone : mget L p = none := by rw [h.get, hp]
  have hsplit := List.take_append_drop (atR L p) L
  refine ⟨?_, fun q => ?_⟩
  · have hk : keysR (putR L (atR L p) (p, n)) = insN (keysR L) (lessN p.data.toList (keysR L)) p.data.toList := by
      unfold putR insN atR
      rw [keys_split]
      unfold keysR
      rw [List.map_take, List.map_drop]
    rw [hk]
    refine insN_rising h.rise fun e => ?_
    have hm := List.mem_of_getElem? e
    rw [keys_mem, bytes_self] at hm
    exact hm hnone
  · have hq : mget L q = (mget (L.take (atR L p)) q).or (mget (L.drop (atR L p)) q) := by rw [← mget_append, hsplit]
    unfold putR
    rw [mget_append, mget_cons, mget_mset, ← h.get]
    by_cases e : q = p
    · subst e
      rw [if_pos rfl, if_pos rfl]
      rw [hnone] at hq
      cases hA : mget (L.take (atR L q)) q with
      | none => rfl
      | some x => rw [hA] at hq; cases hq
    · rw [if_neg e, if_neg e, hq]
theorem nodup_mid {A B : RL} {e : ByteArray × NodeV} (h : ((A ++ e :: B).map (·.1)).Nodup) : mget A e.1 = none ∧ mget B e.1 = none := by
  rw [List.map_append, List.map_cons] at h
  obtain ⟨_, h2, h3⟩ := List.nodup_append.1 h
  exact ⟨mget_none.2 fun hm => h3 _ hm _ (by simp) rfl, mget_none.2 (List.nodup_cons.1 h2).1⟩
theorem SortedAs.set {L : RL} {t : Pt} (h : SortedAs L t) {p : ByteArray} {n0 : NodeV} (n : NodeV) (hp : mget t p = some n0) : SortedAs (L.set (atR L p) (p, n)) (mset t p n) := by
  have hat := at_some h.rise ((h.get p).trans hp)
  have hsp := split_at hat
  obtain ⟨hk, _⟩ := List.getElem?_eq_some_iff.1 hat
  have hset : L.set (atR L p) (p, n) = L.take (atR L p) ++ (p, n) :: L.drop (atR L p + 1) := List.set_eq_take_append_cons_drop.trans (if_pos hk)
  have hnd := rise_nodup h.rise
  rw [hsp] at hnd
  have hmid := nodup_mid hnd
  refine ⟨?_, fun q => ?_⟩
  · have e : keysR (L.set (atR L p) (p, n)) = keysR L := by
      rw [hset]
      conv => rhs; rw [hsp]
      rw [keys_split, keys_split]
    rw [e]; exact h.rise
  · rw [hset, mget_append, mget_cons, mget_mset, ← h.get]
    conv => rhs; rw [hsp, mget_append, mget_cons]
    by_cases e : q = p
    · subst e
      rw [if_pos rfl, if_pos rfl, hmid.1]; rfl
    · simp only
      rw [if_neg e, if_neg e, if_neg e]
theorem SortedAs.del {L : RL} {t : Pt} (h : SortedAs L t) {p : ByteArray} {n0 : NodeV} (hp : mget t p = some n0) : SortedAs (delR L (atR L p)) (mdel t p) := by
  have hat := at_some h.rise ((h.get p).trans hp)
  have hsp := split_at hat
  have hnd := rise_nodup h.rise
  rw [hsp] at hnd
  have hmid := nodup_mid hnd
  refine ⟨?_, fun q => ?_⟩
  · have hr := h.rise
    rw [hsp, keys_split] at hr
    have h1 := List.pairwise_append.1 hr
    unfold delR keysR
    rw [List.map_append]
    exact List.pairwise_append.2 ⟨h1.1, (List.pairwise_cons.1 h1.2.1).2, fun a ha b hb => h1.2.2 a ha b (by unfold keysR; simp only [List.mem_cons]; exact .inr hb)⟩
  · unfold delR
    rw [mget_append, mget_mdel, ← h.get]
    conv => rhs; rw [hsp, mget_append, mget_cons]
    by_cases e : q = p
    · subst e
      rw [if_pos rfl, hmid.1, hmid.2]; rfl
    · simp only
      rw [if_neg e, if_neg e]
end Go.Proofs.YtnkhmkcpdgmjmaaGreatDoor

/- Plain laws: the reference's tree as a list: what a Do makes of it. -/
namespace Go.Proofs.YtnkhmkcpdgmjmaaGreatDoor
set_option maxRecDepth 100000
open Go.RowKit Av
/-- A parent hears of its child: the list. -/
def tellL (f : NodeV → Bs → NodeV) (L : RL) (p : ByteArray) : RL := match parentL p.data.toList with
  | none => L
  | some up => match mget L ⟨up.toArray⟩ with
    | none => L
    | some n => L.set (atR L ⟨up.toArray⟩) (⟨up.toArray⟩, f n (lastL p.data.toList))
theorem tellL_sorted {f : NodeV → Bs → NodeV} {L : RL} {t : Pt} (h : SortedAs L t) (p : ByteArray) : SortedAs (tellL f L p) (tellP f t p) := by
  unfold tellL tellP
  cases parentL p.data.toList with
  | none => exact h
  | some up =>
    simp only
    rw [h.get]
    cases hg : mget t ⟨up.toArray⟩ with
    | none => exact h
    | some n => exact h.set _ hg
theorem place_sorted {L : RL} {t : Pt} (h : SortedAs L t) (hl : L.length = t.length) (room : Int) (p : ByteArray) (f : Int) : placeP room L p f = placeP room t p f := by
  have hf : ∀ q, finQ room L q = finQ room t q := fun q => by unfold finQ; rw [h.get, hl]
  unfold placeP
  cases parentL p.data.toList with
  | none => exact hf p
  | some up =>
    simp only
    rw [h.get]
    cases mget t ⟨up.toArray⟩ with
    | none => rfl
    | some n => simp only [hf]
def createL (room : Int) (L : RL) (o : OpV) (sess z : Int) : RL × Rp :=
  let q := placeP room L o.path o.flags
  if q.2 ≠ 0 then (L, failR q.2) else
  let n := ndNew z (ownF o.flags sess) o.data
  (putR (tellL ndAdd L q.1) (atR (tellL ndAdd L q.1) q.1) (q.1, n), ⟨0, q.1, ⟨#[]⟩, [], n⟩)
def changeL (L : RL) (o : OpV) (z : Int) : RL × Rp := match mget L o.path with
  | none => (L, failR 4)
  | some n => if wrongB o n = true then (L, failR 6)
    else if o.kind = 2 then (if 0 < n.names.length then (L, failR 7) else (tellL ndRem (delR L (atR L o.path)) o.path, ⟨0, o.path, ⟨#[]⟩, [], ndZ⟩))
    else if o.kind = 3 then (L.set (atR L o.path) (o.path, ndWrite n z o.data), ⟨0, o.path, ⟨#[]⟩, [], ndWrite n z o.data⟩)
    else (L, ⟨0, o.path, ⟨#[]⟩, [], ndZ⟩)
def doL (room : Int) (L : RL) (o : OpV) (sess z : Int) : RL × Rp :=
  if goodO o ≠ 0 then (L, failR (goodO o)) else
  if sess < 1 ∨ z < 0 then (L, failR 1) else
  if o.kind = 1 then createL room L o sess z else
  if o.kind = 2 ∨ o.kind = 3 ∨ o.kind = 4 then changeL L o z else (L, readP L o)
theorem parent_neq {q up : Bs} (h : parentL q = some up) : up ≠ q := fun e => by
  have h1 := child_of h
  have h2 := congrArg List.length h1
  rw [e] at h2
  simp at h2
/-- A node laid, then its parent told; or the other way: the same. -/
theorem tell_set {t : Pt} {q : ByteArray} (n : NodeV) (f : NodeV → Bs → NodeV) (p : ByteArray) : mget (mset (tellP f t q) q n) p = mget (tellP f (mset t q n) q) p := by
  unfold tellP
  cases hu : parentL q.data.toList with
  | none => rfl
  | some up =>
    have hne : (⟨up.toArray⟩ : ByteArray) ≠ q := fun e => parent_ne hu (by rw [← e])
    have e : mget (mset t q n) ⟨up.toArray⟩ = mget t ⟨up.toArray⟩ := by rw [mget_mset, if_neg hne]
    simp only
    rw [e]
    cases mget t ⟨up.toArray⟩ with
    | none => rfl
    | some m =>
      simp only
      rw [mget_mset, mget_mset, mget_mset, mget_mset]
      by_cases h1 : p = q
      · rw [if_pos h1, if_neg (fun h => hne (by rw [← h, h1])), if_pos h1]
      · rw [if_neg h1, if_neg h1]
theorem place_okP {room : Int} {t : Pt} {p q : ByteArray} {f : Int} (h : placeP room t p f = (q, 0)) : mget t q = none ∧ (t.length : Int) < room := by
  have hf : ∀ {a : ByteArray}, finQ room t a = (q, 0) → mget t q = none ∧ (t.length : Int) < room := fun {a} h => by
    unfold finQ at h
    split at h
    · simp at h
    · split at h
      · simp at h
      · rename_i h1 h2
        simp only [Prod.mk.injEq, and_true] at h
        subst h
        exact ⟨by simpa using h1, by omega⟩
  unfold placeP at h
  split at h
  · exact hf h
  · split at h
    · simp at h
    · split at h
      · simp at h
      · split at h
        · split at h
          · simp at h
          · exact hf h
        · exact hf h
/-- The answer is the tree's, and the list is its. -/
theorem doL_doP {room : Int} {L : RL} {t : Pt} (h : SortedAs L t) (ht : (t.map (·.1)).Nodup) (o : OpV) (sess z : Int) :
    (doL room L o sess z).2 = (doP room t o sess z false).2 ∧ SortedAs (doL room L o sess z).1 (doP room t o sess z false).1 := by
  have hl : L.length = t.length := by
    rw [h.own ht, own_len]
  unfold doL doP
  split
  · exact ⟨rfl, h⟩
  · split
    · exact ⟨rfl, h⟩
    · split
      · unfold createL createP
        simp only
        rw [place_sorted h hl]
        split
        · exact ⟨rfl, h⟩
        · rename_i hq
          refine ⟨rfl, ?_⟩
          rw [if_neg (by decide)]
          obtain ⟨q, hqq⟩ : ∃ q, placeP room t o.path o.flags = q := ⟨_, rfl⟩
          rw [hqq] at hq ⊢
          have hq0 : placeP room t o.path o.flags = (q.1, 0) := by rw [hqq]; exact Prod.ext rfl (Classical.not_not.1 hq)
          have hnone : mget t q.1 = none := (place_okP hq0).1
          have h1 := tellL_sorted (f := ndAdd) h q.1
          have hn2 : mget (tellP ndAdd t q.1) q.1 = none := by
            unfold tellP
            cases hu : parentL q.1.data.toList with
            | none => exact hnone
            | some up =>
              have hne : q.1 ≠ (⟨up.toArray⟩ : ByteArray) := fun e => parent_neq hu (by rw [e])
              simp only
              cases mget t ⟨up.toArray⟩ with
              | none => exact hnone
              | some m => simp only; rw [mget_mset, if_neg hne]; exact hnone
          exact (h1.put (ndNew z (ownF o.flags sess) o.data) hn2).congr (fun p => tell_set _ ndAdd p)
      · split
        · unfold changeL changeP
          rw [h.get]
          cases hg : mget t o.path with
          | none => exact ⟨rfl, h⟩
          | some n =>
            simp only
            split
            · exact ⟨rfl, h⟩
            · split
              · split
                · exact ⟨rfl, h⟩
                · refine ⟨rfl, ?_⟩
                  rw [if_neg (by decide)]
                  exact tellL_sorted (h.del hg) _
              · split
                · refine ⟨rfl, ?_⟩
                  rw [if_neg (by decide)]
                  exact h.set _ hg
                · exact ⟨rfl, h⟩
        · unfold readP
          rw [h.get]
          exact ⟨rfl, h⟩
end Go.Proofs.YtnkhmkcpdgmjmaaGreatDoor
