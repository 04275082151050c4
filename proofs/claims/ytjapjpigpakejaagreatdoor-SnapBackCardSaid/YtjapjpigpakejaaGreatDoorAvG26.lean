/- Texts put together: AvOwnL, AvSnapL, AvWBytes, AvTreeU. -/
import Derived.Test.YtjapjpigpakejaaGreatDoorAvG19
import Derived.Test.YtjapjpigpakejaaGreatDoorAvG25
import Derived.Test.YtjapjpigpakejaaGreatDoorAvG2
import Derived.Test.YtjapjpigpakejaaGreatDoorAvG3
import Derived.Test.YtjapjpigpakejaaGreatDoorAvHWStatB
import Derived.Deep.RegionHeld3
import Derived.Test.YtjapjpigpakejaaGreatDoorAvHSound

/- A tree as the reference's list: entries that rise by their paths. Plain. -/
namespace Go.Proofs.YtjapjpigpakejaaGreatDoor
set_option maxRecDepth 100000
open Go.RowKit Av

abbrev RL := List (ByteArray × NodeV)
def keysR (L : RL) : List Bs := L.map (·.1.data.toList)
def entOf (t : Pt) (x : Bs) : ByteArray × NodeV := (⟨x.toArray⟩, (nodeP t ⟨x.toArray⟩).1)
def ownL (t : Pt) : RL := (pathsP t).map (entOf t)
theorem mget_append (A B : RL) (q : ByteArray) : mget (A ++ B) q = (mget A q).or (mget B q) := by
  induction A with
  | nil => rfl
  | cons a r ih =>
    show (if q = a.1 then some a.2 else mget (r ++ B) q) = (if q = a.1 then some a.2 else mget r q).or (mget B q)
    split
    · rfl
    · exact ih
theorem mget_cons (a : ByteArray × NodeV) (B : RL) (q : ByteArray) : mget (a :: B) q = if q = a.1 then some a.2 else mget B q := rfl
structure SortedAs (L : RL) (t : Pt) : Prop where
  rise : Rising (keysR L)
  get : ∀ p, mget L p = mget t p
theorem rise_nodup {L : RL} (h : Rising (keysR L)) : (L.map (·.1)).Nodup := by
  unfold keysR at h
  have h1 := List.pairwise_map.1 h
  exact List.pairwise_map.2 (h1.imp fun {a b} hab e => by rw [e] at hab; exact List.lt_irrefl _ hab)
theorem keys_mem {L : RL} {x : Bs} : x ∈ keysR L ↔ mget L ⟨x.toArray⟩ ≠ none := by
  rw [ne_eq, mget_none, Classical.not_not]
  unfold keysR
  rw [List.mem_map, List.mem_map]
  constructor
  · rintro ⟨e, he, rfl⟩
    exact ⟨e, he, by rw [bytes_self]⟩
  · rintro ⟨e, he, hx⟩
    exact ⟨e, he, by rw [hx]⟩
theorem paths_mem {t : Pt} {x : Bs} : x ∈ pathsP t ↔ mget t ⟨x.toArray⟩ ≠ none := by
  rw [pathsP_mem, ne_eq, mget_none, Classical.not_not, List.mem_map]
  constructor
  · rintro ⟨e, he, rfl⟩
    exact ⟨e, he, by rw [bytes_self]⟩
  · rintro ⟨e, he, hx⟩
    exact ⟨e, he, by rw [hx]⟩
theorem self_own : ∀ {L : RL}, (L.map (·.1)).Nodup → ∀ t : Pt, (∀ e ∈ L, mget t e.1 = some e.2) → L = (keysR L).map (entOf t)
  | [], _, _, _ => rfl
  | a :: L, hn, t, h => by
    have h1 := List.pairwise_cons.1 hn
    have ha := h a (by simp)
    show a :: L = entOf t a.1.data.toList :: (keysR L).map (entOf t)
    rw [← self_own h1.2 t (fun e he => h e (by simp [he]))]
    congr 1
    unfold entOf nodeP
    rw [bytes_self, ha]
theorem SortedAs.own {L : RL} {t : Pt} (h : SortedAs L t) (ht : (t.map (·.1)).Nodup) : L = ownL t := by
  have hn := rise_nodup h.rise
  have h1 := self_own hn t (fun e he => by rw [← h.get]; exact mget_of_mem hn (k := e.1) he)
  have h2 : keysR L = pathsP t := rising_ext h.rise (pathsP_rising ht) (fun x => by rw [keys_mem, paths_mem, h.get])
  rw [h1, h2]; rfl
theorem keys_own (t : Pt) : keysR (ownL t) = pathsP t := by
  unfold keysR ownL
  rw [List.map_map]
  refine (List.map_congr_left (fun x _ => ?_)).trans (List.map_id _)
  show (entOf t x).1.data.toList = x
  unfold entOf
  simp
theorem own_sorted {t : Pt} (ht : (t.map (·.1)).Nodup) : SortedAs (ownL t) t := by
  have hr : Rising (keysR (ownL t)) := by rw [keys_own]; exact pathsP_rising ht
  refine ⟨hr, fun p => ?_⟩
  cases hg : mget t p with
  | none =>
    refine mget_none.2 fun hm => ?_
    obtain ⟨e, he, rfl⟩ := List.mem_map.1 hm
    unfold ownL at he
    obtain ⟨x, hx, rfl⟩ := List.mem_map.1 he
    exact paths_mem.1 hx hg
  | some n =>
    refine mget_of_mem (rise_nodup hr) ?_
    unfold ownL
    refine List.mem_map.2 ⟨p.data.toList, paths_mem.2 (by rw [bytes_self, hg]; simp), ?_⟩
    unfold entOf nodeP
    rw [bytes_self, hg]
theorem SortedAs.congr {L : RL} {t u : Pt} (h : SortedAs L t) (e : ∀ p, mget t p = mget u p) : SortedAs L u := ⟨h.rise, fun p => (h.get p).trans (e p)⟩
/-- Trees that tell the same nodes are the same list. -/
theorem own_same {t u : Pt} (ht : (t.map (·.1)).Nodup) (hu : (u.map (·.1)).Nodup) (e : ∀ p, mget t p = mget u p) : ownL t = ownL u := ((own_sorted ht).congr e).own hu
theorem own_len (t : Pt) : (ownL t).length = t.length := by unfold ownL; rw [List.length_map, pathsP_len]
/-! What acts do to the list. -/
def putR (L : RL) (k : Nat) (e : ByteArray × NodeV) : RL := L.take k ++ e :: L.drop k
def delR (L : RL) (k : Nat) : RL := L.take k ++ L.drop (k + 1)
def atR (L : RL) (p : ByteArray) : Nat := lessN p.data.toList (keysR L)
theorem split_at {L : RL} {k : Nat} {e : ByteArray × NodeV} (h : L[k]? = some e) : L = L.take k ++ e :: L.drop (k + 1) := by
  obtain ⟨hk, rfl⟩ := List.getElem?_eq_some_iff.1 h
  conv => lhs; rw [← List.take_append_drop k L, List.drop_eq_getElem_cons hk]
theorem at_some {L : RL} (hr : Rising (keysR L)) {p : ByteArray} {n : NodeV} (h : mget L p = some n) : L[atR L p]? = some (p, n) := by
  have hm := mget_mem h
  obtain ⟨j, hj, he⟩ := List.getElem_of_mem hm
  have hj2 : j < (keysR L).length := by unfold keysR; simpa using hj
  have hkj : (keysR L)[j] = p.data.toList := by
    have h3 : (L.map fun x => x.1.data.toList)[j]'(by simpa using hj) = p.data.toList := by rw [List.getElem_map, he]
    exact h3
  have hl : atR L p = j := lessN_at _ _ j hj2 (fun z hz => by
    obtain ⟨i, hi, rfl⟩ := List.getElem_of_mem hz
    rw [List.getElem_take, ← hkj]
    have hij : i < j := by simp at hi; omega
    exact List.pairwise_iff_getElem.1 hr i j (by omega) hj2 hij) (by rw [hkj]; exact List.lt_irrefl _)
  rw [hl, List.getElem?_eq_getElem hj, he]
theorem at_none {L : RL} {p : ByteArray} (h : mget L p = none) : ∀ n, L[atR L p]? ≠ some (p, n) := fun n e => by
  have := List.mem_of_getElem? e
  exact mget_none.1 h (List.mem_map.2 ⟨_, this, rfl⟩)
theorem at_le (L : RL) (p : ByteArray) : atR L p ≤ L.length := by
  have := lessN_le p.data.toList (keysR L)
  unfold atR
  unfold keysR at this ⊢
  simpa using this
theorem keys_split (A B : RL) (e : ByteArray × NodeV) : keysR (A ++ e :: B) = keysR A ++ e.1.data.toList :: keysR B := by simp [keysR]
theorem SortedAs.put {L : RL} {t : Pt} (h : SortedAs L t) {p : ByteArray} (n : NodeV) (hp : mget t p = none) : SortedAs (putR L (atR L p) (p, n)) (mset t p n) := by
  have hnone : mget L p = none := by rw [h.get, hp]
  have hsplit := List.take_append_drop (atR L p) L
  refine ⟨?_, fun q => ?_⟩
  · have hk : keysR (putR L (atR L p) (p, n)) = insN (keysR L) (lessN p.data.toList (keysR L)) p.data.toList := by
      unfold putR insN atR
      rw [keys_split]
      unfold keysR
      rw [List.map_take, List.map_drop]
    rw [hk]
    refine insN_rising h.rise fun e => ?_
    have hm := List.mem_of_getElem? e
    rw [keys_mem, bytes_self] at hm
    exact hm hnone
  · have hq : mget L q = (mget (L.take (atR L p)) q).or (mget (L.drop (atR L p)) q) := by rw [← mget_append, hsplit]
    unfold putR
    rw [mget_append, mget_cons, mget_mset, ← h.get]
    by_cases e : q = p
    · subst e
      rw [if_pos rfl, if_pos rfl]
      rw [hnone] at hq
      cases hA : mget (L.take (atR L q)) q with
      | none => rfl
      | some x => rw [hA] at hq; cases hq
    · rw [if_neg e, if_neg e, hq]
theorem nodup_mid {A B : RL} {e : ByteArray × NodeV} (h : ((A ++ e :: B).map (·.1)).Nodup) : mget A e.1 = none ∧ mget B e.1 = none := by
  rw [List.map_append, List.map_cons] at h
  obtain ⟨_, h2, h3⟩ := List.nodup_append.1 h
  exact ⟨mget_none.2 fun hm => h3 _ hm _ (by simp) rfl, mget_none.2 (List.nodup_cons.1 h2).1⟩
theorem SortedAs.set {L : RL} {t : Pt} (h : SortedAs L t) {p : ByteArray} {n0 : NodeV} (n : NodeV) (hp : mget t p = some n0) : SortedAs (L.set (atR L p) (p, n)) (mset t p n) := by
  have hat := at_some h.rise ((h.get p).trans hp)
  have hsp := split_at hat
  obtain ⟨hk, _⟩ := List.getElem?_eq_some_iff.1 hat
  have hset : L.set (atR L p) (p, n) = L.take (atR L p) ++ (p, n) :: L.drop (atR L p + 1) := List.set_eq_take_append_cons_drop.trans (if_pos hk)
  have hnd := rise_nodup h.rise
  rw [hsp] at hnd
  have hmid := nodup_mid hnd
  refine ⟨?_, fun q => ?_⟩
  · have e : keysR (L.set (atR L p) (p, n)) = keysR L := by
      rw [hset]
      conv => rhs; rw [hsp]
      rw [keys_split, keys_split]
    rw [e]; exact h.rise
  · rw [hset, mget_append, mget_cons, mget_mset, ← h.get]
    conv => rhs; rw [hsp, mget_append, mget_cons]
    by_cases e : q = p
    · subst e
      rw [if_pos rfl, if_pos rfl, hmid.1]; rfl
    · simp only
      rw [if_neg e, if_neg e, if_neg e]
theorem SortedAs.del {L : RL} {t : Pt} (h : SortedAs L t) {p : ByteArray} {n0 : NodeV} (hp : mget t p = some n0) : SortedAs (delR L (atR L p)) (mdel t p) := by
  have hat := at_some h.rise ((h.get p).trans hp)
  have hsp := split_at hat
  have hnd := rise_nodup h.rise
  rw [hsp] at hnd
  have hmid := nodup_mid hnd
  refine ⟨?_, fun q => ?_⟩
  · have hr := h.rise
    rw [hsp, keys_split] at hr
    have h1 := List.pairwise_append.1 hr
    unfold delR keysR
    rw [List.map_append]
    exact List.pairwise_append.2 ⟨h1.1, (List.pairwise_cons.1 h1.2.1).2, fun a ha b hb => h1.2.2 a ha b (by unfold keysR; simp only [List.mem_cons]; exact .inr hb)⟩
  · unfold delR
    rw [mget_append, mget_mdel, ← h.get]
    conv => rhs; rw [hsp, mget_append, mget_cons]
    by_cases e : q = p
    · subst e
      rw [if_pos rfl, hmid.1, hmid.2]; rfl
    · simp only
      rw [if_neg e, if_neg e]
/-- What an act keeps where it fails, or only reads. -/
theorem doP_same (room : Int) (t : Pt) (o : OpV) (sess z : Int) (only : Bool) (h : ¬ ((doP room t o sess z only).2.err = 0 ∧ o.kind < 4)) : (doP room t o sess z only).1 = t := by
  unfold doP at h ⊢
  split
  · rfl
  · rename_i hg
    rw [if_neg hg] at h
    split
    · rfl
    · rename_i hs
      rw [if_neg hs] at h
      split
      · rename_i hk
        rw [if_pos hk] at h
        unfold createP at h ⊢
        simp only at h ⊢
        split
        · rfl
        · rename_i hq
          rw [if_neg hq] at h
          exact absurd ⟨rfl, by omega⟩ h
      · rename_i hk
        rw [if_neg hk] at h
        split
        · rename_i hk2
          rw [if_pos hk2] at h
          unfold changeP at h ⊢
          split
          · rfl
          · rename_i n hn
            simp only [hn] at h
            split
            · rfl
            · rename_i hw
              rw [if_neg hw] at h
              split
              · rename_i h2
                rw [if_pos h2] at h
                split
                · rfl
                · rename_i h3
                  rw [if_neg h3] at h
                  exact absurd ⟨rfl, by omega⟩ h
              · rename_i h2
                rw [if_neg h2] at h
                split
                · rename_i h3
                  rw [if_pos h3] at h
                  exact absurd ⟨rfl, by omega⟩ h
                · rfl
        · rfl
theorem doP_try (room : Int) (t : Pt) (o : OpV) (sess z : Int) : (doP room t o sess z true).1 = t := by
  unfold doP
  split
  · rfl
  · split
    · rfl
    · split
      · unfold createP
        simp only
        split <;> rfl
      · split
        · unfold changeP
          split
          · rfl
          · split
            · rfl
            · split
              · split <;> rfl
              · split <;> rfl
        · rfl
end Go.Proofs.YtjapjpigpakejaaGreatDoor

/- Plain laws: a node in bytes, and back. -/
namespace Go.Proofs.YtjapjpigpakejaaGreatDoor
set_option maxRecDepth 100000
open Go.RowKit Av

def mostN : Int := 2147483647
def encN (n : NodeV) : Bs := be8 n.made ++ (be8 n.chg ++ (be8 n.ver ++ (be8 n.kids ++ (be8 n.own ++ (be8 n.next ++ (txt n.data.data.toList ++ (be8 (n.names.length : Int) ++ n.names.flatMap txt)))))))
def encE (e : ByteArray × NodeV) : Bs := txt e.1.data.toList ++ encN e.2
def encL (L : RL) : Bs := be8 (L.length : Int) ++ L.flatMap encE
/-- Names off a reader. -/
def rdNs : Nat → Rd → List Bs × Rd
  | 0, s => ([], s)
  | k + 1, s => ((rdNs k s).1 ++ [(rdT 40 (rdNs k s).2).1], (rdT 40 (rdNs k s).2).2)
/-- A node off a reader, piece by piece. -/
structure RdN where
  made : Int × Rd
  chg : Int × Rd
  ver : Int × Rd
  kids : Int × Rd
  own : Int × Rd
  next : Int × Rd
  data : Bs × Rd
  cnt : Int × Rd
  names : List Bs × Rd
def rdNode (s : Rd) : RdN :=
  let a1 := rdI s
  let a2 := rdI a1.2
  let a3 := rdC mostN a2.2
  let a4 := rdC mostN a3.2
  let a5 := rdI a4.2
  let a6 := rdC mostN a5.2
  let a7 := rdT 1000 a6.2
  let a8 := rdC 500 a7.2
  ⟨a1, a2, a3, a4, a5, a6, a7, a8, rdNs a8.1.toNat a8.2⟩
def RdN.node (x : RdN) : NodeV := ⟨x.made.1, x.chg.1, x.ver.1, x.kids.1, x.own.1, (mkS x.data.1).size, (x.names.1.length : Int), mkS x.data.1, x.next.1, x.names.1⟩
/-- What a node must be to be read back. -/
structure NodeB (n : NodeV) : Prop where
  made : I64 n.made
  chg : I64 n.chg
  ver : 0 ≤ n.ver ∧ n.ver ≤ mostN
  kids : 0 ≤ n.kids ∧ n.kids ≤ mostN
  own : I64 n.own
  next : 0 ≤ n.next ∧ n.next ≤ mostN
  parts : PartsOk n
  few : n.names.length ≤ 500
theorem i64_most {n : Int} (h : 0 ≤ n ∧ n ≤ mostN) : I64 n := by unfold mostN at h; exact ⟨by omega, by omega⟩
theorem rdNs_enc : ∀ (k : Nat) (xs : List Bs) (r : Bs), xs.length = k → (∀ x ∈ xs, x.length ≤ 40) → rdNs k (some (xs.flatMap txt ++ r)) = (xs, some r)
  | 0, xs, r, hl, _ => by rw [List.length_eq_zero_iff.1 hl]; rfl
  | k + 1, xs, r, hl, h => by
    rcases List.eq_nil_or_concat xs with rfl | ⟨ys, o, rfl⟩
    · simp at hl
    · simp only [List.concat_eq_append, List.length_append, List.length_singleton] at hl
      have ih := rdNs_enc k ys (txt o ++ r) (by omega) (fun x hx => h x (by simp [hx]))
      have ho := h o (by simp)
      have e : (ys.concat o).flatMap txt ++ r = ys.flatMap txt ++ (txt o ++ r) := by
        simp only [List.concat_eq_append, List.flatMap_append, List.flatMap_singleton, List.append_assoc]
      rw [e]
      simp only [rdNs, ih]
      rw [rdT_txt _ _ (by omega) (by omega), List.concat_eq_append]
theorem rdNode_enc {n : NodeV} (h : NodeB n) (r : Bs) : (rdNode (some (encN n ++ r))).node = n ∧ (rdNode (some (encN n ++ r))).names.2 = some r := by
  have hk : ∀ x ∈ n.names, x.length ≤ 40 := fun x hx => name_len (h.parts.2.2.2 x hx)
  have hd : n.data.data.toList.length ≤ 1000 := by have := h.parts.2.2.1; rwa [Lib.size_eq] at this
  have e : rdNode (some (encN n ++ r)) = ⟨(n.made, some (be8 n.chg ++ (be8 n.ver ++ (be8 n.kids ++ (be8 n.own ++ (be8 n.next ++ (txt n.data.data.toList ++ (be8 (n.names.length : Int) ++ (n.names.flatMap txt ++ r))))))))),
      (n.chg, some (be8 n.ver ++ (be8 n.kids ++ (be8 n.own ++ (be8 n.next ++ (txt n.data.data.toList ++ (be8 (n.names.length : Int) ++ (n.names.flatMap txt ++ r)))))))),
      (n.ver, some (be8 n.kids ++ (be8 n.own ++ (be8 n.next ++ (txt n.data.data.toList ++ (be8 (n.names.length : Int) ++ (n.names.flatMap txt ++ r))))))),
      (n.kids, some (be8 n.own ++ (be8 n.next ++ (txt n.data.data.toList ++ (be8 (n.names.length : Int) ++ (n.names.flatMap txt ++ r)))))),
      (n.own, some (be8 n.next ++ (txt n.data.data.toList ++ (be8 (n.names.length : Int) ++ (n.names.flatMap txt ++ r))))),
      (n.next, some (txt n.data.data.toList ++ (be8 (n.names.length : Int) ++ (n.names.flatMap txt ++ r)))),
      (n.data.data.toList, some (be8 (n.names.length : Int) ++ (n.names.flatMap txt ++ r))),
      ((n.names.length : Int), some (n.names.flatMap txt ++ r)), (n.names, some r)⟩ := by
    unfold rdNode encN
    simp only [List.append_assoc]
    rw [rdI_be8 h.made]
    simp only
    rw [rdI_be8 h.chg]
    simp only
    rw [rdC_be8 (i64_most h.ver) h.ver.1 h.ver.2]
    simp only
    rw [rdC_be8 (i64_most h.kids) h.kids.1 h.kids.2]
    simp only
    rw [rdI_be8 h.own]
    simp only
    rw [rdC_be8 (i64_most h.next) h.next.1 h.next.2]
    simp only
    rw [rdT_txt _ _ (by omega) (by omega)]
    simp only
    rw [rdC_be8 (i64_len (by have := h.few; omega)) (Int.natCast_nonneg _) (by have := h.few; omega)]
    simp only
    rw [Int.toNat_natCast, rdNs_enc _ _ _ rfl hk]
  rw [e]
  refine ⟨?_, rfl⟩
  obtain ⟨h1, h2, _⟩ := h.parts
  unfold RdN.node
  simp only
  rw [mkS_of, ← h1, ← h2]
end Go.Proofs.YtjapjpigpakejaaGreatDoor

/- Walks: a node in bytes: stat.Put. -/
namespace Go.Proofs.YtjapjpigpakejaaGreatDoor
set_option maxRecDepth 100000
open Go.RowKit Av

theorem txt_size (s : Bs) : (txt s).length = 8 + s.length := by unfold txt; rw [List.length_append, be8_len]
/-- Text, I64, All behind what a call owns. -/
theorem wr_text (v : Value) (bs : Bs) (s : ByteArray) (w0 w : World) (base : Nat) (hb : OwnBy w base v bs) (hx : Ext w0 w) (hl : bs.length ≤ 10000000) (hs : s.size ≤ 10000000) (hbase : base ≤ w.heap.size) :
    Calls Tryz.prog 63 #[v, .string s] w fun e w' => ∃ v, e = .returned v ∧ OwnBy w' base v (bs ++ txt s.data.toList) ∧ Ext w0 w' ∧ base ≤ w'.heap.size ∧ (bs ++ txt s.data.toList).length = bs.length + 8 + s.size :=
  (packText_any v bs s w hb.bytes (by omega) (by omega)).mono fun _ _ ⟨v, h1, h2, h3⟩ => ⟨v, h1, h2.low hbase, hx.ext h3, by have := h3.size; omega, by rw [List.length_append, txt_size, ← Lib.size_eq]; omega⟩
theorem wr_i64 (v : Value) (bs : Bs) (z : Int) (w0 w : World) (base : Nat) (hb : OwnBy w base v bs) (hx : Ext w0 w) (hl : bs.length ≤ 20000000) (hbase : base ≤ w.heap.size) :
    Calls Tryz.prog 62 #[v, .int .i64 z] w fun e w' => ∃ v, e = .returned v ∧ OwnBy w' base v (bs ++ be8 z) ∧ Ext w0 w' ∧ base ≤ w'.heap.size ∧ (bs ++ be8 z).length = bs.length + 8 :=
  (packI64_any v bs z w hb.bytes (by omega)).mono fun _ _ ⟨v, h1, h2, h3⟩ => ⟨v, h1, h2.low hbase, hx.ext h3, by have := h3.size; omega, by rw [List.length_append, be8_len]⟩
theorem wr_all (v : Value) (bs : Bs) (zs : List Int) (w : World) (hb : BytesR w v bs) (hl : bs.length ≤ 10000000) (hn : zs.length ≤ 1000) :
    Calls Tryz.prog 93 #[v, .slice (some ⟨w.heap.size, 0, none⟩) zs.length zs.length] (w.alloc (.cells (zs.map (Value.int .i64)).toArray 2)) fun e w' => ∃ v, e = .returned v ∧ OwnBy w' w.heap.size v (bs ++ zs.flatMap be8) ∧ Ext w w' := by
  have hx : Ext w (w.alloc (.cells (zs.map (Value.int .i64)).toArray 2)) := (Kp.refl _ w).alloc _
  refine (packAll_any v _ bs zs _ (hb.ext hx) hl (Sl.of_block (heap_alloc_new w _) (by simp) (by unfold maxLen; omega) (Nat.le_refl _)) hn).mono ?_
  rintro e w' ⟨v', rfl, h2, h3⟩
  exact ⟨v', rfl, h2.low (by simp), hx.ext h3⟩
theorem txts_len {K : Nat} {l : List Bs} (h : ∀ s ∈ l, s.length ≤ K) : (l.flatMap txt).length ≤ l.length * (8 + K) := by
  induction l with
  | nil => simp
  | cons a l ih =>
    have h1 := ih (fun s hs => h s (by simp [hs]))
    have h2 := h a (by simp)
    rw [List.flatMap_cons, List.length_append, txt_size, List.length_cons, Nat.succ_mul]
    omega
def PutNRel (w : World) (base : Nat) (pre : Bs) (xs : List Bs) (o i : Value) (wr : World) : Prop :=
  ∃ k : Nat, k ≤ xs.length ∧ i = .int .i64 k ∧ OwnBy wr base o (pre ++ (xs.take k).flatMap txt) ∧ Ext w wr
set_option maxHeartbeats 3200000 in
theorem statPut_any (n : NodeV) (nv : Value) (w : World) (hn : NmS w nv n.names) (hd : n.data.size ≤ 100000) (hl : n.names.length ≤ 1000) (hs : ∀ s ∈ n.names, s.length ≤ 1000) :
    Calls Tryz.prog 64 #[.agg (ndA n nv)] w fun e w' => ∃ v, e = .returned v ∧ OwnBy w' w.heap.size v (encN n) ∧ Ext w w' := by
  obtain ⟨a, c, rfl, hcc, hm, _, hop⟩ := Sl.open hn.1
  obtain ⟨wA, hWA⟩ : ∃ wA, w.alloc (.cells (ndA n (.slice a n.names.length c)) ndT) = wA := ⟨_, rfl⟩
  have hxA : Ext w wA := by rw [← hWA]; exact (Kp.refl _ _).alloc _
  have hA : Blk wA w.heap.size (ndA n (.slice a n.names.length c)) ndT := by rw [← hWA]; exact heap_alloc_new w _
  have HSZ : Hid (w.heap.size < wA.heap.size) := hA.lt
  have HBX : Hid (∀ W, Ext wA W → W.cell? ⟨w.heap.size, 7, none⟩ = some (.string n.data) ∧ W.cell? ⟨w.heap.size, 9, none⟩ = some (.slice a n.names.length c)) := fun W hW =>
    ⟨(hA.kp hW (fun f => f)).cell 7 _ rfl, (hA.kp hW (fun f => f)).cell 9 _ rfl⟩
  have HOP : Hid (∀ W, Ext w W → 0 < n.names.length → ∃ g off, a = some ⟨g, off, none⟩ ∧ ∀ k (hk : k < n.names.length), W.cell? ⟨g, off + k, none⟩ = some (.string ⟨n.names[k].toArray⟩)) := fun W hW h0 => by
    obtain ⟨g, off, e, _, hc⟩ := hop h0
    exact ⟨g, off, e, fun k hk => hW.cell (hc k (.string ⟨n.names[k].toArray⟩) (by rw [List.getElem?_map, List.getElem?_eq_getElem hk]; rfl)) (fun f => f)⟩
  have HXA := Lib.hid hxA
  have HS := Lib.hid hs
  have HE : Hid (encN n = (([n.made, n.chg, n.ver, n.kids, n.own, n.next] : List Int).flatMap be8 ++ txt n.data.data.toList ++ be8 (n.names.length : Int)) ++ n.names.flatMap txt) := by
    show _ = _
    unfold encN
    simp only [List.flatMap_cons, List.flatMap_nil, List.append_assoc, List.append_nil]
  generalize encN n = R at HE ⊢
  unfold ndA at hA hWA ⊢
  have HWA := Lib.hid hWA
  have d0 := hA.cell 0 _ rfl
  have d1 := hA.cell 1 _ rfl
  have d2 := hA.cell 2 _ rfl
  have d3 := hA.cell 3 _ rfl
  have d4 := hA.cell 4 _ rfl
  have d5 := hA.cell 5 _ rfl
  have d6 := hA.cell 6 _ rfl
  have d7 := hA.cell 7 _ rfl
  have d8 := hA.cell 8 _ rfl
  have d9 := hA.cell 9 _ rfl
  clear hWA hxA hA hn hop hs
  go_enter Tryz.func64, Tryz.ntmps64
  go_upto_region 1 with (fail)
  rw [HWA.out]
  go_wp2_with (fail)
  refine (wr_all _ [] [n.made, n.chg, n.ver, n.kids, n.own, n.next] wA (BytesR.nil _) (by simp) (by simp)).mono ?_
  rintro e w1 ⟨v1, rfl, h1, hx1⟩
  rw [List.nil_append] at h1
  have hpl : (([n.made, n.chg, n.ver, n.kids, n.own, n.next] : List Int).flatMap be8).length = 48 := by simp [be8_len]
  obtain ⟨pre, hpre⟩ : ∃ p, (([n.made, n.chg, n.ver, n.kids, n.own, n.next] : List Int).flatMap be8) = p := ⟨_, rfl⟩
  rw [hpre] at h1 HE hpl
  have h1' : OwnBy w1 w.heap.size v1 pre := h1.low (Nat.le_of_lt HSZ.out)
  have hb1 : w.heap.size ≤ w1.heap.size := by have := HSZ.out; have := hx1.size; omega
  clear d0 d1 d2 d3 d4 d5 d6 d7 d8 d9 h1 hpre HWA
  obtain ⟨f7, f9⟩ := HBX.out w1 hx1
  have HT := Lib.hid (fun v bs s W hb hx hl hs hbase => wr_text v bs s wA W w.heap.size hb hx hl hs hbase)
  have HI := Lib.hid (fun v bs z W hb hx hl hbase => wr_i64 v bs z wA W w.heap.size hb hx hl hbase)
  go_upto_region 2 with (fail)
  go_wp2_with (fail)
  have h1d := OwnBy.ext h1' (Kp.refl (fun _ => False) w1).drew
  have hx1d := hx1.drew
  have hb1d : w.heap.size ≤ w1.drew.heap.size := hb1
  go_region_held3 (fun w' => w'.cell? ⟨w.heap.size, 7, none⟩ = some (.string n.data) ∧ w'.cell? ⟨w.heap.size, 9, none⟩ = some (.slice a n.names.length c) ∧ Ext wA w')
    ((refine (fun hE => And.intro (HBX.out _ hE).1 (And.intro (HBX.out _ hE).2 hE)) ?_; first | exact hx1d | assumption))
    (first
      | (go_at_call 63; refine (HT.out _ _ _ _ (by assumption) (by assumption) (by omega) (by omega) (by assumption)).mono ?_; rintro e w' ⟨v', rfl, h', hx', hb', hl'⟩)
      | (go_at_call 62; refine (HI.out _ _ _ _ (by assumption) (by assumption) (by omega) (by assumption)).mono ?_; rintro e w'' ⟨v'', rfl, h'', hx'', hb'', hl''⟩))
  obtain ⟨g7, g9⟩ := HBX.out _ hx''
  have HX2 := Lib.hid (HXA.out.trans hx'')
  obtain ⟨P, hP⟩ : ∃ P, pre ++ txt n.data.data.toList ++ be8 (n.names.length : Int) = P := ⟨_, rfl⟩
  have hPl : P.length ≤ 200000 := by rw [← hP]; omega
  rw [hP] at h'' HE
  have HO2 : Hid (OwnBy w'' w.heap.size v'' (P ++ (n.names.take 0).flatMap txt)) := by
    show OwnBy _ _ _ _
    simpa using h''
  clear hP h'' hx'' hb'' hl'' hpl h1' hx1 hb1 h1d hx1d hb1d f7 f9 h' hx' hb' hl' HT HI HBX HXA
  go_wp2_with (fail)
  go_loopw [3, 36] (PutNRel w'' w.heap.size P n.names) (fun _ i _ => n.names.length - (intOf i).toNat)
  case atStart => exact ⟨0, Nat.zero_le _, rfl, HO2.out, Kp.refl _ _⟩
  case round =>
    clear HO2 g7 g9
    obtain ⟨k, hk, rfl, hown, hx⟩ := hrel
    have hlen : (P ++ (n.names.take k).flatMap txt).length ≤ 10000000 := by
      have h1 := txts_len (K := 1000) (l := n.names.take k) (fun s hs => HS.out s (List.mem_of_mem_take hs))
      have h2 : (n.names.take k).length * (8 + 1000) ≤ 1000 * 1008 := Nat.mul_le_mul (by rw [List.length_take]; omega) (by omega)
      rw [List.length_append]
      omega
    have HX := Lib.hid hx
    have HO := Lib.hid hown
    by_cases hlt : k < n.names.length
    · obtain ⟨g, off, rfl, hcl⟩ := HOP.out _ (HX2.out.trans hx) (by omega)
      have hc := hcl k hlt
      have HN : Hid (P ++ (n.names.take (k + 1)).flatMap txt = P ++ (n.names.take k).flatMap txt ++ txt n.names[k]) := by
        show _ = _
        rw [List.take_succ_eq_append_getElem hlt, List.flatMap_append, List.flatMap_singleton, List.append_assoc]
      have hsz : n.names[k].length ≤ 1000 := HS.out _ (List.getElem_mem hlt)
      have HC := Lib.hid (packText_any _ _ ⟨n.names[k].toArray⟩ wr (OwnBy.bytes hown) (by omega) (by rw [Lib.size_eq]; simp; omega))
      clear hcl hown hx
      go_wp2_with (fail)
      refine HC.out.mono ?_
      rintro e w3 ⟨v3, rfl, h3, hx3⟩
      have h3' : OwnBy w3 w.heap.size v3 (P ++ (n.names.take (k + 1)).flatMap txt) := by
        rw [HN.out]
        exact h3.low ((HX2.out.trans HX.out).size)
      have HO3 := Lib.hid h3'
      have HX3 := Lib.hid (HX.out.trans hx3)
      clear h3 h3' hx3 HC
      go_wp2_with (fail)
      go_light
      refine ⟨⟨k + 1, ?_, ?_, HO3.out, HX3.out⟩, ?_⟩
      · omega
      · go_num
      · simp [intOf]; omega
    · have hke : n.names.take k = n.names := List.take_of_length_le (by omega)
      rw [hke] at HO
      clear hown hx hke
      go_wp2_with (fail)
      go_ret
      go_light
      exact ⟨_, rfl, by rw [HE.out]; exact HO.out, HX2.out.trans HX.out⟩
end Go.Proofs.YtjapjpigpakejaaGreatDoor

/- A law's tree: its paths; what soundness says of one node; loops over paths. -/
namespace Go.Proofs.YtjapjpigpakejaaGreatDoor
set_option maxRecDepth 100000
open Go.RowKit Av

/-- The paths of a tree that a law has made. -/
theorem tsPaths {w0 w : World} {b m : Nat} {room : Int} {K : Nat} {t : Tr} (h : TS w0 w b m room K t) (hs : SoundP room (pl t)) (hr : room ≤ 100000) :
    Calls Tryz.prog 13 #[.pointer (some ⟨b, 0, none⟩)] w fun e w' => PathsPost w (pathsP (pl t)) e w' := by
  refine treePaths_any w0.heap.size b m room t w h.tr (fun e he => ?_) ?_
  · have h1 : mget (pl t) e.1 = some e.2.2 := by
      rw [pl_get, mget_of_mem h.tr.keys (k := e.1) he]; rfl
    have := path_small e.1 (hs.good _ _ h1)
    unfold maxLen
    omega
  · have := hs.size
    rw [pl_len] at this
    omega
theorem strs_open {w : World} {base n : Nat} {v : Value} {L : List Bs} (h : w.ownsRow base strT 1 v n (L.map encStr)) : ∃ a c, v = .slice a n c ∧ (0 < n → ∃ g off, a = some ⟨g, off, none⟩ ∧ ∀ k (hk : k < L.length), w.cell? ⟨g, off + k, none⟩ = some (encStr L[k])) := by
  obtain ⟨a, c, e, _, _, _, hop⟩ := Sl.open (Sl.of_owns h)
  refine ⟨a, c, e, fun h0 => ?_⟩
  obtain ⟨g, off, e2, _, hc⟩ := hop h0
  exact ⟨g, off, e2, fun k hk => hc k _ (by rw [List.getElem?_map, List.getElem?_eq_getElem hk]; rfl)⟩
theorem strs_same {w : World} {base n : Nat} {v : Value} {L : List Bs} (h : w.ownsRow base strT 1 v n (L.map encStr)) : n = L.length := by
  have := h.1
  simpa using this.symm
/-- What soundness says of one node. -/
structure SoundAt (t : Pt) (p : ByteArray) (n : NodeV) : Prop where
  size : p.size ≤ 200
  cnt : n.cnt = n.names.length
  eph : n.own ≠ 0 → n.names = []
  kid : ∀ x ∈ n.names, ∃ y, mget t (childB p x) = some y
  small : ∀ x ∈ n.names, x.length ≤ 200
  par : ∀ up, parentL p.data.toList = some up → ∃ m, mget t ⟨up.toArray⟩ = some m ∧ m.own = 0 ∧ lastL p.data.toList ∈ m.names
theorem sound_at {room : Int} {t : Pt} (h : SoundP room t) {p : ByteArray} {n : NodeV} (hp : mget t p = some n) : SoundAt t p n := by
  have hk : ∀ x ∈ n.names, ∃ y, mget t (childB p x) = some y := fun x hx => Option.isSome_iff_exists.1 (h.kids p n hp x hx)
  refine ⟨path_small p (h.good p n hp), h.cnt p n hp, h.eph p n hp, hk, fun x hx => ?_, h.par p n hp⟩
  obtain ⟨y, hy⟩ := hk x hx
  have h1 := path_small _ (h.good _ y hy)
  rw [Lib.size_eq] at h1
  unfold childB at h1
  simp at h1
  omega
theorem child_add {p : ByteArray} {y : Bs} (hp : p.size ≤ 200) (hy : y.length ≤ 200) :
    (∀ wx, (Op.stringOp .add p ⟨#[47]⟩).run Tryz.prog wx = .ok (.string ⟨(p.data.toList ++ [47]).toArray⟩) wx) ∧ (∀ wx, (Op.stringOp .add ⟨(p.data.toList ++ [47]).toArray⟩ ⟨y.toArray⟩).run Tryz.prog wx = .ok (.string (childB p y)) wx) := by
  have hp2 := hp
  rw [Lib.size_eq] at hp2
  constructor
  · intro wx
    rw [run_string_add_sum (P := Tryz.prog) wx _ _ (by have : (⟨#[47]⟩ : ByteArray).size = 1 := rfl; omega)]
    refine congrArg (fun s => Result.ok (Value.string s) wx) ?_
    refine bytes_eq ?_
    simp
  · intro wx
    rw [run_string_add_sum (P := Tryz.prog) wx _ _ (by rw [Lib.size_eq, Lib.size_eq]; simp; omega)]
    refine congrArg (fun s => Result.ok (Value.string s) wx) ?_
    unfold childB
    refine bytes_eq ?_
    simp
/-- A loop over a list, all of whose rounds leave what lay there. -/
def SndRel (n : Nat) (w5 : World) (s9 : Value) (wr : World) : Prop := ∃ i : Nat, i ≤ n ∧ s9 = .int .i64 i ∧ Ext w5 wr
end Go.Proofs.YtjapjpigpakejaaGreatDoor
