/- Texts put together: AvOwnL, AvSnapL. -/
import Derived.Test.YtjapjpigpakejaaGreatDoorAvG20
import Derived.Test.YtjapjpigpakejaaGreatDoorAvG26
import Derived.Test.YtjapjpigpakejaaGreatDoorAvG3

/- A tree as the reference's list: entries that rise by their paths. Plain. -/
namespace Go.Proofs.YtjapjpigpakejaaGreatDoor
set_option maxRecDepth 100000
open Go.RowKit Av

abbrev RL := List (ByteArray × NodeV)
def keysR (L : RL) : List Bs := L.map (·.1.data.toList)
def entOf (t : Pt) (x : Bs) : ByteArray × NodeV := (⟨x.toArray⟩, (nodeP t ⟨x.toArray⟩).1)
def ownL (t : Pt) : RL := (pathsP t).map (entOf t)
theorem mget_append (A B : RL) (q : ByteArray) : mget (A ++ B) q = (mget A q).or (mget B q) := by
  induction A with
  | nil => rfl
  | cons a r ih =>
    show (if q = a.1 then some a.2 else mget (r ++ B) q) = (if q = a.1 then some a.2 else mget r q).or (mget B q)
    split
    · rfl
    · exact ih
theorem mget_cons (a : ByteArray × NodeV) (B : RL) (q : ByteArray) : mget (a :: B) q = if q = a.1 then some a.2 else mget B q := rfl
structure SortedAs (L : RL) (t : Pt) : Prop where
  rise : Rising (keysR L)
  get : ∀ p, mget L p = mget t p
theorem rise_nodup {L : RL} (h : Rising (keysR L)) : (L.map (·.1)).Nodup := by
  unfold keysR at h
  have h1 := List.pairwise_map.1 h
  exact List.pairwise_map.2 (h1.imp fun {a b} hab e => by rw [e] at hab; exact List.lt_irrefl _ hab)
theorem keys_mem {L : RL} {x : Bs} : x ∈ keysR L ↔ mget L ⟨x.toArray⟩ ≠ none := by
  rw [ne_eq, mget_none, Classical.not_not]
  unfold keysR
  rw [List.mem_map, List.mem_map]
  constructor
  · rintro ⟨e, he, rfl⟩
    exact ⟨e, he, by rw [bytes_self]⟩
  · rintro ⟨e, he, hx⟩
    exact ⟨e, he, by rw [hx]⟩
theorem paths_mem {t : Pt} {x : Bs} : x ∈ pathsP t ↔ mget t ⟨x.toArray⟩ ≠ none := by
  rw [pathsP_mem, ne_eq, mget_none, Classical.not_not, List.mem_map]
  constructor
  · rintro ⟨e, he, rfl⟩
    exact ⟨e, he, by rw [bytes_self]⟩
  · rintro ⟨e, he, hx⟩
    exact ⟨e, he, by rw [hx]⟩
theorem self_own : ∀ {L : RL}, (L.map (·.1)).Nodup → ∀ t : Pt, (∀ e ∈ L, mget t e.1 = some e.2) → L = (keysR L).map (entOf t)
  | [], _, _, _ => rfl
  | a :: L, hn, t, h => by
    have h1 := List.pairwise_cons.1 hn
    have ha := h a (by simp)
    show a :: L = entOf t a.1.data.toList :: (keysR L).map (entOf t)
    rw [← self_own h1.2 t (fun e he => h e (by simp [he]))]
    congr 1
    unfold entOf nodeP
    rw [bytes_self, ha]
theorem SortedAs.own {L : RL} {t : Pt} (h : SortedAs L t) (ht : (t.map (·.1)).Nodup) : L = ownL t := by
  have hn := rise_nodup h.rise
  have h1 := self_own hn t (fun e he => by rw [← h.get]; exact mget_of_mem hn (k := e.1) he)
  have h2 : keysR L = pathsP t := rising_ext h.rise (pathsP_rising ht) (fun x => by rw [keys_mem, paths_mem, h.get])
  rw [h1, h2]; rfl
theorem keys_own (t : Pt) : keysR (ownL t) = pathsP t := by
  unfold keysR ownL
  rw [List.map_map]
  refine (List.map_congr_left (fun x _ => ?_)).trans (List.map_id _)
  show (entOf t x).1.data.toList = x
  unfold entOf
  simp
theorem own_sorted {t : Pt} (ht : (t.map (·.1)).Nodup) : SortedAs (ownL t) t := by
  have hr : Rising (keysR (ownL t)) := by rw [keys_own]; exact pathsP_rising ht
  refine ⟨hr, fun p => ?_⟩
  cases hg : mget t p with
  | none =>
    refine mget_none.2 fun hm => ?_
    obtain ⟨e, he, rfl⟩ := List.mem_map.1 hm
    unfold ownL at he
    obtain ⟨x, hx, rfl⟩ := List.mem_map.1 he
    exact paths_mem.1 hx hg
  | some n =>
    refine mget_of_mem (rise_nodup hr) ?_
    unfold ownL
    refine List.mem_map.2 ⟨p.data.toList, paths_mem.2 (by rw [bytes_self, hg]; simp), ?_⟩
    unfold entOf nodeP
    rw [bytes_self, hg]
theorem SortedAs.congr {L : RL} {t u : Pt} (h : SortedAs L t) (e : ∀ p, mget t p = mget u p) : SortedAs L u := ⟨h.rise, fun p => (h.get p).trans (e p)⟩
/-- Trees that tell the same nodes are the same list. -/
theorem own_same {t u : Pt} (ht : (t.map (·.1)).Nodup) (hu : (u.map (·.1)).Nodup) (e : ∀ p, mget t p = mget u p) : ownL t = ownL u := ((own_sorted ht).congr e).own hu
theorem own_len (t : Pt) : (ownL t).length = t.length := by unfold ownL; rw [List.length_map, pathsP_len]
/-! What acts do to the list. -/
def putR (L : RL) (k : Nat) (e : ByteArray × NodeV) : RL := L.take k ++ e :: L.drop k
def delR (L : RL) (k : Nat) : RL := L.take k ++ L.drop (k + 1)
def atR (L : RL) (p : ByteArray) : Nat := lessN p.data.toList (keysR L)
theorem split_at {L : RL} {k : Nat} {e : ByteArray × NodeV} (h : L[k]? = some e) : L = L.take k ++ e :: L.drop (k + 1) := by
  obtain ⟨hk, rfl⟩ := List.getElem?_eq_some_iff.1 h
  conv => lhs; rw [← List.take_append_drop k L, List.drop_eq_getElem_cons hk]
theorem at_some {L : RL} (hr : Rising (keysR L)) {p : ByteArray} {n : NodeV} (h : mget L p = some n) : L[atR L p]? = some (p, n) := by
  have hm := mget_mem h
  obtain ⟨j, hj, he⟩ := List.getElem_of_mem hm
  have hj2 : j < (keysR L).length := by unfold keysR; simpa using hj
  have hkj : (keysR L)[j] = p.data.toList := by
    have h3 : (L.map fun x => x.1.data.toList)[j]'(by simpa using hj) = p.data.toList := by rw [List.getElem_map, he]
    exact h3
  have hl : atR L p = j := lessN_at _ _ j hj2 (fun z hz => by
    obtain ⟨i, hi, rfl⟩ := List.getElem_of_mem hz
    rw [List.getElem_take, ← hkj]
    have hij : i < j := by simp at hi; omega
    exact List.pairwise_iff_getElem.1 hr i j (by omega) hj2 hij) (by rw [hkj]; exact List.lt_irrefl _)
  rw [hl, List.getElem?_eq_getElem hj, he]
theorem at_none {L : RL} {p : ByteArray} (h : mget L p = none) : ∀ n, L[atR L p]? ≠ some (p, n) := fun n e => by
  have := List.mem_of_getElem? e
  exact mget_none.1 h (List.mem_map.2 ⟨_, this, rfl⟩)
theorem at_le (L : RL) (p : ByteArray) : atR L p ≤ L.length := by
  have := lessN_le p.data.toList (keysR L)
  unfold atR
  unfold keysR at this ⊢
  simpa using this
theorem keys_split (A B : RL) (e : ByteArray × NodeV) : keysR (A ++ e :: B) = keysR A ++ e.1.data.toList :: keysR B := by simp [keysR]
theorem SortedAs.put {L : RL} {t : Pt} (h : SortedAs L t) {p : ByteArray} (n : NodeV) (hp : mget t p = none) : SortedAs (putR L (atR L p) (p, n)) (mset t p n) := by
  have hnone : mget L p = none := by rw [h.get, hp]
  have hsplit := List.take_append_drop (atR L p) L
  refine ⟨?_, fun q => ?_⟩
  · have hk : keysR (putR L (atR L p) (p, n)) = insN (keysR L) (lessN p.data.toList (keysR L)) p.data.toList := by
      unfold putR insN atR
      rw [keys_split]
      unfold keysR
      rw [List.map_take, List.map_drop]
    rw [hk]
    refine insN_rising h.rise fun e => ?_
    have hm := List.mem_of_getElem? e
    rw [keys_mem, bytes_self] at hm
    exact hm hnone
  · have hq : mget L q = (mget (L.take (atR L p)) q).or (mget (L.drop (atR L p)) q) := by rw [← mget_append, hsplit]
    unfold putR
    rw [mget_append, mget_cons, mget_mset, ← h.get]
    by_cases e : q = p
    · subst e
      rw [if_pos rfl, if_pos rfl]
      rw [hnone] at hq
      cases hA : mget (L.take (atR L q)) q with
      | none => rfl
      | some x => rw [hA] at hq; cases hq
    · rw [if_neg e, if_neg e, hq]
theorem nodup_mid {A B : RL} {e : ByteArray × NodeV} (h : ((A ++ e :: B).map (·.1)).Nodup) : mget A e.1 = none ∧ mget B e.1 = none := by
  rw [List.map_append, List.map_cons] at h
  obtain ⟨_, h2, h3⟩ := List.nodup_append.1 h
  exact ⟨mget_none.2 fun hm => h3 _ hm _ (by simp) rfl, mget_none.2 (List.nodup_cons.1 h2).1⟩
theorem SortedAs.set {L : RL} {t : Pt} (h : SortedAs L t) {p : ByteArray} {n0 : NodeV} (n : NodeV) (hp : mget t p = some n0) : SortedAs (L.set (atR L p) (p, n)) (mset t p n) := by
  have hat := at_some h.rise ((h.get p).trans hp)
  have hsp := split_at hat
  obtain ⟨hk, _⟩ := List.getElem?_eq_some_iff.1 hat
  have hset : L.set (atR L p) (p, n) = L.take (atR L p) ++ (p, n) :: L.drop (atR L p + 1) := List.set_eq_take_append_cons_drop.trans (if_pos hk)
  have hnd := rise_nodup h.rise
  rw [hsp] at hnd
  have hmid := nodup_mid hnd
  refine ⟨?_, fun q => ?_⟩
  · have e : keysR (L.set (atR L p) (p, n)) = keysR L := by
      rw [hset]
      conv => rhs; rw [hsp]
      rw [keys_split, keys_split]
    rw [e]; exact h.rise
  · rw [hset, mget_append, mget_cons, mget_mset, ← h.get]
    conv => rhs; rw [hsp, mget_append, mget_cons]
    by_cases e : q = p
    · subst e
      rw [if_pos rfl, if_pos rfl, hmid.1]; rfl
    · simp only
      rw [if_neg e, if_neg e, if_neg e]
theorem SortedAs.del {L : RL} {t : Pt} (h : SortedAs L t) {p : ByteArray} {n0 : NodeV} (hp : mget t p = some n0) : SortedAs (delR L (atR L p)) (mdel t p) := by
  have hat := at_some h.rise ((h.get p).trans hp)
  have hsp := split_at hat
  have hnd := rise_nodup h.rise
  rw [hsp] at hnd
  have hmid := nodup_mid hnd
  refine ⟨?_, fun q => ?_⟩
  · have hr := h.rise
    rw [hsp, keys_split] at hr
    have h1 := List.pairwise_append.1 hr
    unfold delR keysR
    rw [List.map_append]
    exact List.pairwise_append.2 ⟨h1.1, (List.pairwise_cons.1 h1.2.1).2, fun a ha b hb => h1.2.2 a ha b (by unfold keysR; simp only [List.mem_cons]; exact .inr hb)⟩
  · unfold delR
    rw [mget_append, mget_mdel, ← h.get]
    conv => rhs; rw [hsp, mget_append, mget_cons]
    by_cases e : q = p
    · subst e
      rw [if_pos rfl, hmid.1, hmid.2]; rfl
    · simp only
      rw [if_neg e, if_neg e]
/-- What an act keeps where it fails, or only reads. -/
theorem doP_same (room : Int) (t : Pt) (o : OpV) (sess z : Int) (only : Bool) (h : ¬ ((doP room t o sess z only).2.err = 0 ∧ o.kind < 4)) : (doP room t o sess z only).1 = t := by
  unfold doP at h ⊢
  split
  · rfl
  · rename_i hg
    rw [if_neg hg] at h
    split
    · rfl
    · rename_i hs
      rw [if_neg hs] at h
      split
      · rename_i hk
        rw [if_pos hk] at h
        unfold createP at h ⊢
        simp only at h ⊢
        split
        · rfl
        · rename_i hq
          rw [if_neg hq] at h
          exact absurd ⟨rfl, by omega⟩ h
      · rename_i hk
        rw [if_neg hk] at h
        split
        · rename_i hk2
          rw [if_pos hk2] at h
          unfold changeP at h ⊢
          split
          · rfl
          · rename_i n hn
            simp only [hn] at h
            split
            · rfl
            · rename_i hw
              rw [if_neg hw] at h
              split
              · rename_i h2
                rw [if_pos h2] at h
                split
                · rfl
                · rename_i h3
                  rw [if_neg h3] at h
                  exact absurd ⟨rfl, by omega⟩ h
              · rename_i h2
                rw [if_neg h2] at h
                split
                · rename_i h3
                  rw [if_pos h3] at h
                  exact absurd ⟨rfl, by omega⟩ h
                · rfl
        · rfl
theorem doP_try (room : Int) (t : Pt) (o : OpV) (sess z : Int) : (doP room t o sess z true).1 = t := by
  unfold doP
  split
  · rfl
  · split
    · rfl
    · split
      · unfold createP
        simp only
        split <;> rfl
      · split
        · unfold changeP
          split
          · rfl
          · split
            · rfl
            · split
              · split <;> rfl
              · split <;> rfl
        · rfl
end Go.Proofs.YtjapjpigpakejaaGreatDoor

/- Plain laws: a node in bytes, and back. -/
namespace Go.Proofs.YtjapjpigpakejaaGreatDoor
set_option maxRecDepth 100000
open Go.RowKit Av

def mostN : Int := 2147483647
def encN (n : NodeV) : Bs := be8 n.made ++ (be8 n.chg ++ (be8 n.ver ++ (be8 n.kids ++ (be8 n.own ++ (be8 n.next ++ (txt n.data.data.toList ++ (be8 (n.names.length : Int) ++ n.names.flatMap txt)))))))
def encE (e : ByteArray × NodeV) : Bs := txt e.1.data.toList ++ encN e.2
def encL (L : RL) : Bs := be8 (L.length : Int) ++ L.flatMap encE
/-- Names off a reader. -/
def rdNs : Nat → Rd → List Bs × Rd
  | 0, s => ([], s)
  | k + 1, s => ((rdNs k s).1 ++ [(rdT 40 (rdNs k s).2).1], (rdT 40 (rdNs k s).2).2)
/-- A node off a reader, piece by piece. -/
structure RdN where
  made : Int × Rd
  chg : Int × Rd
  ver : Int × Rd
  kids : Int × Rd
  own : Int × Rd
  next : Int × Rd
  data : Bs × Rd
  cnt : Int × Rd
  names : List Bs × Rd
def rdNode (s : Rd) : RdN :=
  let a1 := rdI s
  let a2 := rdI a1.2
  let a3 := rdC mostN a2.2
  let a4 := rdC mostN a3.2
  let a5 := rdI a4.2
  let a6 := rdC mostN a5.2
  let a7 := rdT 1000 a6.2
  let a8 := rdC 500 a7.2
  ⟨a1, a2, a3, a4, a5, a6, a7, a8, rdNs a8.1.toNat a8.2⟩
def RdN.node (x : RdN) : NodeV := ⟨x.made.1, x.chg.1, x.ver.1, x.kids.1, x.own.1, (mkS x.data.1).size, (x.names.1.length : Int), mkS x.data.1, x.next.1, x.names.1⟩
/-- What a node must be to be read back. -/
structure NodeB (n : NodeV) : Prop where
  made : I64 n.made
  chg : I64 n.chg
  ver : 0 ≤ n.ver ∧ n.ver ≤ mostN
  kids : 0 ≤ n.kids ∧ n.kids ≤ mostN
  own : I64 n.own
  next : 0 ≤ n.next ∧ n.next ≤ mostN
  parts : PartsOk n
  few : n.names.length ≤ 500
theorem i64_most {n : Int} (h : 0 ≤ n ∧ n ≤ mostN) : I64 n := by unfold mostN at h; exact ⟨by omega, by omega⟩
theorem rdNs_enc : ∀ (k : Nat) (xs : List Bs) (r : Bs), xs.length = k → (∀ x ∈ xs, x.length ≤ 40) → rdNs k (some (xs.flatMap txt ++ r)) = (xs, some r)
  | 0, xs, r, hl, _ => by rw [List.length_eq_zero_iff.1 hl]; rfl
  | k + 1, xs, r, hl, h => by
    rcases List.eq_nil_or_concat xs with rfl | ⟨ys, o, rfl⟩
    · simp at hl
    · simp only [List.concat_eq_append, List.length_append, List.length_singleton] at hl
      have ih := rdNs_enc k ys (txt o ++ r) (by omega) (fun x hx => h x (by simp [hx]))
      have ho := h o (by simp)
      have e : (ys.concat o).flatMap txt ++ r = ys.flatMap txt ++ (txt o ++ r) := by
        simp only [List.concat_eq_append, List.flatMap_append, List.flatMap_singleton, List.append_assoc]
      rw [e]
      simp only [rdNs, ih]
      rw [rdT_txt _ _ (by omega) (by omega), List.concat_eq_append]
theorem rdNode_enc {n : NodeV} (h : NodeB n) (r : Bs) : (rdNode (some (encN n ++ r))).node = n ∧ (rdNode (some (encN n ++ r))).names.2 = some r := by
  have hk : ∀ x ∈ n.names, x.length ≤ 40 := fun x hx => name_len (h.parts.2.2.2 x hx)
  have hd : n.data.data.toList.length ≤ 1000 := by have := h.parts.2.2.1; rwa [Lib.size_eq] at this
  have e : rdNode (some (encN n ++ r)) = ⟨(n.made, some (be8 n.chg ++ (be8 n.ver ++ (be8 n.kids ++ (be8 n.own ++ (be8 n.next ++ (txt n.data.data.toList ++ (be8 (n.names.length : Int) ++ (n.names.flatMap txt ++ r))))))))),
      (n.chg, some (be8 n.ver ++ (be8 n.kids ++ (be8 n.own ++ (be8 n.next ++ (txt n.data.data.toList ++ (be8 (n.names.length : Int) ++ (n.names.flatMap txt ++ r)))))))),
      (n.ver, some (be8 n.kids ++ (be8 n.own ++ (be8 n.next ++ (txt n.data.data.toList ++ (be8 (n.names.length : Int) ++ (n.names.flatMap txt ++ r))))))),
      (n.kids, some (be8 n.own ++ (be8 n.next ++ (txt n.data.data.toList ++ (be8 (n.names.length : Int) ++ (n.names.flatMap txt ++ r)))))),
      (n.own, some (be8 n.next ++ (txt n.data.data.toList ++ (be8 (n.names.length : Int) ++ (n.names.flatMap txt ++ r))))),
      (n.next, some (txt n.data.data.toList ++ (be8 (n.names.length : Int) ++ (n.names.flatMap txt ++ r)))),
      (n.data.data.toList, some (be8 (n.names.length : Int) ++ (n.names.flatMap txt ++ r))),
      ((n.names.length : Int), some (n.names.flatMap txt ++ r)), (n.names, some r)⟩ := by
    unfold rdNode encN
    simp only [List.append_assoc]
    rw [rdI_be8 h.made]
    simp only
    rw [rdI_be8 h.chg]
    simp only
    rw [rdC_be8 (i64_most h.ver) h.ver.1 h.ver.2]
    simp only
    rw [rdC_be8 (i64_most h.kids) h.kids.1 h.kids.2]
    simp only
    rw [rdI_be8 h.own]
    simp only
    rw [rdC_be8 (i64_most h.next) h.next.1 h.next.2]
    simp only
    rw [rdT_txt _ _ (by omega) (by omega)]
    simp only
    rw [rdC_be8 (i64_len (by have := h.few; omega)) (Int.natCast_nonneg _) (by have := h.few; omega)]
    simp only
    rw [Int.toNat_natCast, rdNs_enc _ _ _ rfl hk]
  rw [e]
  refine ⟨?_, rfl⟩
  obtain ⟨h1, h2, _⟩ := h.parts
  unfold RdN.node
  simp only
  rw [mkS_of, ← h1, ← h2]
end Go.Proofs.YtjapjpigpakejaaGreatDoor
