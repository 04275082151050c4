/- Texts put together: AvAllN, AvOwnL. -/
import Derived.Test.YtkpcmbgnaenbhaaGreatDoorAvHSound
import Derived.Test.YtkpcmbgnaenbhaaGreatDoorAvG31
import Derived.Test.YtkpcmbgnaenbhaaGreatDoorAvHTreeS

/- Plain laws: what every node of a tree is, whatever is done; whose nodes they are. -/
namespace Go.Proofs.YtkpcmbgnaenbhaaGreatDoor
set_option maxRecDepth 100000
open Go.RowKit Av

def AllN (Pr : NodeV → Prop) (t : Pt) : Prop := ∀ p n, mget t p = some n → Pr n
theorem AllN.nil (Pr : NodeV → Prop) : AllN Pr [] := fun p n h => by cases h
theorem AllN.set {Pr : NodeV → Prop} {t : Pt} (h : AllN Pr t) (p : ByteArray) {n : NodeV} (hn : Pr n) : AllN Pr (mset t p n) := fun q m hm => by
  rw [mget_mset] at hm
  split at hm
  · simp only [Option.some.injEq] at hm
    subst hm
    exact hn
  · exact h q m hm
theorem AllN.del {Pr : NodeV → Prop} {t : Pt} (h : AllN Pr t) (p : ByteArray) : AllN Pr (mdel t p) := fun q m hm => by
  rw [mget_mdel] at hm
  split at hm
  · cases hm
  · exact h q m hm
theorem AllN.tell {Pr : NodeV → Prop} {t : Pt} (h : AllN Pr t) {f : NodeV → Bs → NodeV} {p : ByteArray} (hf : ∀ n, parentL p.data.toList ≠ none → Pr n → Pr (f n (lastL p.data.toList))) : AllN Pr (tellP f t p) := by
  unfold tellP
  split
  · exact h
  · rename_i up hu
    split
    · exact h
    · rename_i n hn
      exact h.set _ (hf n (by rw [hu]; simp) (h _ n hn))
theorem AllN.mono {P Q : NodeV → Prop} {t : Pt} (h : AllN P t) (hpq : ∀ n, P n → Q n) : AllN Q t := fun p n hp => hpq n (h p n hp)
/-- What an act keeps of a node's truth. -/
structure NodeInv (Pr : NodeV → Prop) (o : OpV) (sess z : Int) : Prop where
  new : goodO o = 0 → 1 ≤ sess → Pr (ndNew z (ownF o.flags sess) o.data)
  add : ∀ n (q : Bs), goodL q = true → parentL q ≠ none → Pr n → Pr (ndAdd n (lastL q))
  rem : ∀ n x, Pr n → Pr (ndRem n x)
  write : ∀ n, goodO o = 0 → Pr n → Pr (ndWrite n z o.data)
theorem goodO_path {o : OpV} (h : goodO o = 0) : goodL o.path.data.toList = true := by
  unfold goodO at h
  split at h
  · rename_i hf
    unfold formedB at hf
    simp only [Bool.and_eq_true] at hf
    simp [hf]
  · simp at h
theorem par_good {q : Bs} (h : parentL q ≠ none) : goodL q = true := by
  refine (good_iff_parts q).2 fun e => h ?_
  unfold parentL
  rw [e]; rfl
theorem AllN.doP {Pr : NodeV → Prop} {t : Pt} (h : AllN Pr t) {o : OpV} {sess z : Int} (hi : NodeInv Pr o sess z) (room : Int) (only : Bool) : AllN Pr (doP room t o sess z only).1 := by
  unfold Proofs.YtkpcmbgnaenbhaaGreatDoor.doP
  split
  · exact h
  · rename_i hg
    have hg0 : goodO o = 0 := by simpa using hg
    split
    · exact h
    · rename_i hs
      split
      · unfold createP
        simp only
        split
        · exact h
        · split
          · exact h
          · exact (h.set _ (hi.new hg0 (by omega))).tell (fun n hp hn => hi.add n _ (par_good hp) hp hn)
      · split
        · unfold changeP
          split
          · exact h
          · rename_i n hn
            split
            · exact h
            · split
              · split
                · exact h
                · show AllN Pr (if _ then _ else _)
                  split
                  · exact h
                  · exact (h.del _).tell (fun n _ hn => hi.rem n _ hn)
              · split
                · show AllN Pr (if _ then _ else _)
                  split
                  · exact h
                  · exact h.set _ (hi.write n hg0 (h _ n hn))
                · exact h
        · exact h
/-! Whose nodes they are. -/
def OwnedBy (S : List Int) (n : NodeV) : Prop := n.own = 0 ∨ (1 ≤ n.own ∧ n.own ∈ S)
theorem ownedBy_inv {S : List Int} (o : OpV) {sess : Int} (z : Int) (hs : 1 ≤ sess → sess ∈ S) : NodeInv (OwnedBy S) o sess z := by
  refine ⟨fun _ h1 => ?_, fun n q _ _ h => ?_, fun n x h => ?_, fun n _ h => h⟩
  · show ownF o.flags sess = 0 ∨ (1 ≤ ownF o.flags sess ∧ ownF o.flags sess ∈ S)
    unfold ownF
    split
    · exact .inr ⟨h1, hs h1⟩
    · exact .inl rfl
  · unfold OwnedBy
    rw [add_own]
    exact h
  · unfold OwnedBy
    rw [rem_own]
    exact h
/-! What a node's own parts say of each other. -/
def nameOk (x : Bs) : Prop := nameL x = true ∧ (47 : UInt8) ∉ x
def PartsOk (n : NodeV) : Prop := n.len = n.data.size ∧ n.cnt = n.names.length ∧ n.data.size ≤ 1000 ∧ ∀ x ∈ n.names, nameOk x
theorem goodO_data {o : OpV} (h : goodO o = 0) : o.data.size ≤ 1000 := by
  unfold goodO at h
  split at h
  · split at h
    · simp at h
    · omega
  · simp at h
theorem last_name {q : Bs} (h : goodL q = true) : nameOk (lastL q) := by
  have hne := (good_iff_parts q).1 h
  have e : lastL q = (partsL q).getLast hne := by
    unfold lastL
    rw [List.getLastD_eq_getLast?, List.getLast?_eq_some_getLast hne]; rfl
  rw [e]
  exact parts_name q _ (List.getLast_mem hne)
theorem partsOk_inv (o : OpV) (sess z : Int) : NodeInv PartsOk o sess z := by
  refine ⟨fun h _ => ⟨rfl, rfl, goodO_data h, by simp [ndNew]⟩, fun n q hq _ h => ?_, fun n x h => ?_, fun n hg h => ⟨rfl, h.2.1, goodO_data hg, h.2.2.2⟩⟩
  · refine ⟨?_, add_cnt h.2.1 _, ?_, fun x hx => ?_⟩
    · unfold ndAdd; split <;> exact h.1
    · unfold ndAdd; split <;> exact h.2.2.1
    · rcases add_mem.1 hx with hx | rfl
      · exact h.2.2.2 x hx
      · exact last_name hq
  · refine ⟨?_, rem_cnt h.2.1 _, ?_, fun y hy => ?_⟩
    · unfold ndRem; split <;> exact h.1
    · unfold ndRem; split <;> exact h.2.2.1
    · refine h.2.2.2 y ?_
      unfold ndRem at hy
      split at hy
      · exact (delN_sub _ _).subset hy
      · exact hy
theorem name_top {x : Bs} (h : nameOk x) : goodL (47 :: x) = true ∧ topL (47 :: x) = x ∧ x ≠ [] := by
  obtain ⟨h1, h2⟩ := h
  have hc := cut_plain h2
  have hl : 1 ≤ x.length ∧ x.length ≤ 40 := by
    have h3 := h1
    unfold nameL at h3
    simp only [Bool.and_eq_true, decide_eq_true_eq] at h3
    exact ⟨h3.1.1.1.2, h3.1.1.2⟩
  have hg : goodL (47 :: x) = true := by
    show ((47 : UInt8) == 47 && decide ((47 :: x).length ≤ 200) && (cut x).all nameL && decide ((cut x).length ≤ 8)) = true
    rw [hc]
    simp [h1]
    omega
  refine ⟨hg, ?_, fun e => by rw [e] at hl; simp at hl⟩
  unfold topL partsL
  rw [hg]
  simp [hc]
theorem top_name {x : Bs} (h : topL (47 :: x) = x) (h0 : x ≠ []) : nameOk x := by
  have : x ∈ partsL (47 :: x) := by
    unfold topL at h
    cases hp : partsL (47 :: x) with
    | nil => rw [hp] at h; exact absurd h.symm h0
    | cons a r =>
      rw [hp] at h
      simp only [List.headD_cons] at h
      subst h
      simp
  exact parts_name _ _ this
theorem named_of {l : List Bs} (h : ∀ x ∈ l, nameOk x) (hr : Rising l) (hl : l.length ≤ 500) : Named l := by
  refine ⟨fun j hj => ⟨hj, ?_⟩, hl⟩
  obtain ⟨_, h2, h3⟩ := name_top (h l[j] (List.getElem_mem hj))
  exact ⟨h2, h3, fun h0 => List.pairwise_iff_getElem.1 hr (j - 1) j (by omega) hj (by omega)⟩
theorem name_len {x : Bs} (h : nameOk x) : x.length ≤ 40 := by
  have h3 := h.1
  unfold nameL at h3
  simp only [Bool.and_eq_true, decide_eq_true_eq] at h3
  exact h3.1.1.2
/-! How many a list of sessions owns. -/
theorem count_app {f : Bs → Int} {D : List Int} {s : Int} (hs : s ∉ D) (L : List Bs) : (L.filter fun x => decide (f x ∈ D ++ [s])).length = (L.filter fun x => decide (f x ∈ D)).length + (L.filter fun x => decide (f x = s)).length := by
  induction L with
  | nil => rfl
  | cons a r ih =>
    simp only [List.filter_cons, List.mem_append, List.mem_singleton] at ih ⊢
    by_cases h1 : f a ∈ D
    · have h2 : ¬ f a = s := fun e => hs (e ▸ h1)
      simp only [h1, h2, true_or, decide_true, decide_false, if_true, Bool.false_eq_true, if_false, List.length_cons]
      omega
    · by_cases h2 : f a = s
      · have h3 : f a ∈ D ∨ f a = s := .inr h2
        rw [if_pos (decide_eq_true h3), if_neg (by simp [h1]), if_pos (decide_eq_true h2), List.length_cons, List.length_cons]
        omega
      · simp only [h1, h2, or_false, decide_false, Bool.false_eq_true, if_false]
        exact ih
def ownI (t : Pt) (x : Bs) : Int := match mget t ⟨x.toArray⟩ with
  | none => 0
  | some n => n.own
theorem ownI_some {t : Pt} {x : Bs} {n : NodeV} (h : mget t ⟨x.toArray⟩ = some n) : ownI t x = n.own := by
  unfold ownI
  rw [h]
theorem owned_all {t : Pt} {S : List Int} (h : AllN (OwnedBy S) t) (x : Bs) : ownI t x = 0 ∨ (1 ≤ ownI t x ∧ ownI t x ∈ S) := by
  unfold ownI
  cases hg : mget t ⟨x.toArray⟩ with
  | none => exact .inl rfl
  | some n => exact h _ n hg
end Go.Proofs.YtkpcmbgnaenbhaaGreatDoor

/- A tree as the reference's list: entries that rise by their paths. Plain. -/
namespace Go.Proofs.YtkpcmbgnaenbhaaGreatDoor
set_option maxRecDepth 100000
open Go.RowKit Av

abbrev RL := List (ByteArray × NodeV)
def keysR (L : RL) : List Bs := L.map (·.1.data.toList)
def entOf (t : Pt) (x : Bs) : ByteArray × NodeV := (⟨x.toArray⟩, (nodeP t ⟨x.toArray⟩).1)
def ownL (t : Pt) : RL := (pathsP t).map (entOf t)
theorem mget_append (A B : RL) (q : ByteArray) : mget (A ++ B) q = (mget A q).or (mget B q) := by
  induction A with
  | nil => rfl
  | cons a r ih =>
    show (if q = a.1 then some a.2 else mget (r ++ B) q) = (if q = a.1 then some a.2 else mget r q).or (mget B q)
    split
    · rfl
    · exact ih
theorem mget_cons (a : ByteArray × NodeV) (B : RL) (q : ByteArray) : mget (a :: B) q = if q = a.1 then some a.2 else mget B q := rfl
structure SortedAs (L : RL) (t : Pt) : Prop where
  rise : Rising (keysR L)
  get : ∀ p, mget L p = mget t p
theorem rise_nodup {L : RL} (h : Rising (keysR L)) : (L.map (·.1)).Nodup := by
  unfold keysR at h
  have h1 := List.pairwise_map.1 h
  exact List.pairwise_map.2 (h1.imp fun {a b} hab e => by rw [e] at hab; exact List.lt_irrefl _ hab)
theorem keys_mem {L : RL} {x : Bs} : x ∈ keysR L ↔ mget L ⟨x.toArray⟩ ≠ none := by
  rw [ne_eq, mget_none, Classical.not_not]
  unfold keysR
  rw [List.mem_map, List.mem_map]
  constructor
  · rintro ⟨e, he, rfl⟩
    exact ⟨e, he, by rw [bytes_self]⟩
  · rintro ⟨e, he, hx⟩
    exact ⟨e, he, by rw [hx]⟩
theorem paths_mem {t : Pt} {x : Bs} : x ∈ pathsP t ↔ mget t ⟨x.toArray⟩ ≠ none := by
  rw [pathsP_mem, ne_eq, mget_none, Classical.not_not, List.mem_map]
  constructor
  · rintro ⟨e, he, rfl⟩
    exact ⟨e, he, by rw [bytes_self]⟩
  · rintro ⟨e, he, hx⟩
    exact ⟨e, he, by rw [hx]⟩
theorem self_own : ∀ {L : RL}, (L.map (·.1)).Nodup → ∀ t : Pt, (∀ e ∈ L, mget t e.1 = some e.2) → L = (keysR L).map (entOf t)
  | [], _, _, _ => rfl
  | a :: L, hn, t, h => by
    have h1 := List.pairwise_cons.1 hn
    have ha := h a (by simp)
    show a :: L = entOf t a.1.data.toList :: (keysR L).map (entOf t)
    rw [← self_own h1.2 t (fun e he => h e (by simp [he]))]
    congr 1
    unfold entOf nodeP
    rw [bytes_self, ha]
theorem SortedAs.own {L : RL} {t : Pt} (h : SortedAs L t) (ht : (t.map (·.1)).Nodup) : L = ownL t := by
  have hn := rise_nodup h.rise
  have h1 := self_own hn t (fun e he => by rw [← h.get]; exact mget_of_mem hn (k := e.1) he)
  have h2 : keysR L = pathsP t := rising_ext h.rise (pathsP_rising ht) (fun x => by rw [keys_mem, paths_mem, h.get])
  rw [h1, h2]; rfl
theorem keys_own (t : Pt) : keysR (ownL t) = pathsP t := by
  unfold keysR ownL
  rw [List.map_map]
  refine (List.map_congr_left (fun x _ => ?_)).trans (List.map_id _)
  show (entOf t x).1.data.toList = x
  unfold entOf
  simp
theorem own_sorted {t : Pt} (ht : (t.map (·.1)).Nodup) : SortedAs (ownL t) t := by
  have hr : Rising (keysR (ownL t)) := by rw [keys_own]; exact pathsP_rising ht
  refine ⟨hr, fun p => ?_⟩
  cases hg : mget t p with
  | none =>
    refine mget_none.2 fun hm => ?_
    obtain ⟨e, he, rfl⟩ := List.mem_map.1 hm
    unfold ownL at he
    obtain ⟨x, hx, rfl⟩ := List.mem_map.1 he
    exact paths_mem.1 hx hg
  | some n =>
    refine mget_of_mem (rise_nodup hr) ?_
    unfold ownL
    refine List.mem_map.2 ⟨p.data.toList, paths_mem.2 (by rw [bytes_self, hg]; simp), ?_⟩
    unfold entOf nodeP
    rw [bytes_self, hg]
theorem SortedAs.congr {L : RL} {t u : Pt} (h : SortedAs L t) (e : ∀ p, mget t p = mget u p) : SortedAs L u := ⟨h.rise, fun p => (h.get p).trans (e p)⟩
/-- Trees that tell the same nodes are the same list. -/
theorem own_same {t u : Pt} (ht : (t.map (·.1)).Nodup) (hu : (u.map (·.1)).Nodup) (e : ∀ p, mget t p = mget u p) : ownL t = ownL u := ((own_sorted ht).congr e).own hu
theorem own_len (t : Pt) : (ownL t).length = t.length := by unfold ownL; rw [List.length_map, pathsP_len]
/-! What acts do to the list. -/
def putR (L : RL) (k : Nat) (e : ByteArray × NodeV) : RL := L.take k ++ e :: L.drop k
def delR (L : RL) (k : Nat) : RL := L.take k ++ L.drop (k + 1)
def atR (L : RL) (p : ByteArray) : Nat := lessN p.data.toList (keysR L)
theorem split_at {L : RL} {k : Nat} {e : ByteArray × NodeV} (h : L[k]? = some e) : L = L.take k ++ e :: L.drop (k + 1) := by
  obtain ⟨hk, rfl⟩ := List.getElem?_eq_some_iff.1 h
  conv => lhs; rw [← List.take_append_drop k L, List.drop_eq_getElem_cons hk]
theorem at_some {L : RL} (hr : Rising (keysR L)) {p : ByteArray} {n : NodeV} (h : mget L p = some n) : L[atR L p]? = some (p, n) := by
  have hm := mget_mem h
  obtain ⟨j, hj, he⟩ := List.getElem_of_mem hm
  have hj2 : j < (keysR L).length := by unfold keysR; simpa using hj
  have hkj : (keysR L)[j] = p.data.toList := by
    have h3 : (L.map fun x => x.1.data.toList)[j]'(by simpa using hj) = p.data.toList := by rw [List.getElem_map, he]
    exact h3
  have hl : atR L p = j := lessN_at _ _ j hj2 (fun z hz => by
    obtain ⟨i, hi, rfl⟩ := List.getElem_of_mem hz
    rw [List.getElem_take, ← hkj]
    have hij : i < j := by simp at hi; omega
    exact List.pairwise_iff_getElem.1 hr i j (by omega) hj2 hij) (by rw [hkj]; exact List.lt_irrefl _)
  rw [hl, List.getElem?_eq_getElem hj, he]
theorem at_none {L : RL} {p : ByteArray} (h : mget L p = none) : ∀ n, L[atR L p]? ≠ some (p, n) := fun n e => by
  have := List.mem_of_getElem? e
  exact mget_none.1 h (List.mem_map.2 ⟨_, this, rfl⟩)
theorem at_le (L : RL) (p : ByteArray) : atR L p ≤ L.length := by
  have := lessN_le p.data.toList (keysR L)
  unfold atR
  unfold keysR at this ⊢
  simpa using this
theorem keys_split (A B : RL) (e : ByteArray × NodeV) : keysR (A ++ e :: B) = keysR A ++ e.1.data.toList :: keysR B := by simp [keysR]
theorem SortedAs.put {L : RL} {t : Pt} (h : SortedAs L t) {p : ByteArray} (n : NodeV) (hp : mget t p = none) : SortedAs (putR L (atR L p) (p, n)) (mset t p n) := by
  have hnone : mget L p = none := by rw [h.get, hp]
  have hsplit := List.take_append_drop (atR L p) L
  refine ⟨?_, fun q => ?_⟩
  · have hk : keysR (putR L (atR L p) (p, n)) = insN (keysR L) (lessN p.data.toList (keysR L)) p.data.toList := by
      unfold putR insN atR
      rw [keys_split]
      unfold keysR
      rw [List.map_take, List.map_drop]
    rw [hk]
    refine insN_rising h.rise fun e => ?_
    have hm := List.mem_of_getElem? e
    rw [keys_mem, bytes_self] at hm
    exact hm hnone
  · have hq : mget L q = (mget (L.take (atR L p)) q).or (mget (L.drop (atR L p)) q) := by rw [← mget_append, hsplit]
    unfold putR
    rw [mget_append, mget_cons, mget_mset, ← h.get]
    by_cases e : q = p
    · subst e
      rw [if_pos rfl, if_pos rfl]
      rw [hnone] at hq
      cases hA : mget (L.take (atR L q)) q with
      | none => rfl
      | some x => rw [hA] at hq; cases hq
    · rw [if_neg e, if_neg e, hq]
theorem nodup_mid {A B : RL} {e : ByteArray × NodeV} (h : ((A ++ e :: B).map (·.1)).Nodup) : mget A e.1 = none ∧ mget B e.1 = none := by
  rw [List.map_append, List.map_cons] at h
  obtain ⟨_, h2, h3⟩ := List.nodup_append.1 h
  exact ⟨mget_none.2 fun hm => h3 _ hm _ (by simp) rfl, mget_none.2 (List.nodup_cons.1 h2).1⟩
theorem SortedAs.set {L : RL} {t : Pt} (h : SortedAs L t) {p : ByteArray} {n0 : NodeV} (n : NodeV) (hp : mget t p = some n0) : SortedAs (L.set (atR L p) (p, n)) (mset t p n) := by
  have hat := at_some h.rise ((h.get p).trans hp)
  have hsp := split_at hat
  obtain ⟨hk, _⟩ := List.getElem?_eq_some_iff.1 hat
  have hset : L.set (atR L p) (p, n) = L.take (atR L p) ++ (p, n) :: L.drop (atR L p + 1) := List.set_eq_take_append_cons_drop.trans (if_pos hk)
  have hnd := rise_nodup h.rise
  rw [hsp] at hnd
  have hmid := nodup_mid hnd
  refine ⟨?_, fun q => ?_⟩
  · have e : keysR (L.set (atR L p) (p, n)) = keysR L := by
      rw [hset]
      conv => rhs; rw [hsp]
      rw [keys_split, keys_split]
    rw [e]; exact h.rise
  · rw [hset, mget_append, mget_cons, mget_mset, ← h.get]
    conv => rhs; rw [hsp, mget_append, mget_cons]
    by_cases e : q = p
    · subst e
      rw [if_pos rfl, if_pos rfl, hmid.1]; rfl
    · simp only
      rw [if_neg e, if_neg e, if_neg e]
theorem SortedAs.del {L : RL} {t : Pt} (h : SortedAs L t) {p : ByteArray} {n0 : NodeV} (hp : mget t p = some n0) : SortedAs (delR L (atR L p)) (mdel t p) := by
  have hat := at_some h.rise ((h.get p).trans hp)
  have hsp := split_at hat
  have hnd := rise_nodup h.rise
  rw [hsp] at hnd
  have hmid := nodup_mid hnd
  refine ⟨?_, fun q => ?_⟩
  · have hr := h.rise
    rw [hsp, keys_split] at hr
    have h1 := List.pairwise_append.1 hr
    unfold delR keysR
    rw [List.map_append]
    exact List.pairwise_append.2 ⟨h1.1, (List.pairwise_cons.1 h1.2.1).2, fun a ha b hb => h1.2.2 a ha b (by unfold keysR; simp only [List.mem_cons]; exact .inr hb)⟩
  · unfold delR
    rw [mget_append, mget_mdel, ← h.get]
    conv => rhs; rw [hsp, mget_append, mget_cons]
    by_cases e : q = p
    · subst e
      rw [if_pos rfl, hmid.1, hmid.2]; rfl
    · simp only
      rw [if_neg e, if_neg e]
/-- What an act keeps where it fails, or only reads. -/
theorem doP_same (room : Int) (t : Pt) (o : OpV) (sess z : Int) (only : Bool) (h : ¬ ((doP room t o sess z only).2.err = 0 ∧ o.kind < 4)) : (doP room t o sess z only).1 = t := by
  unfold doP at h ⊢
  split
  · rfl
  · rename_i hg
    rw [if_neg hg] at h
    split
    · rfl
    · rename_i hs
      rw [if_neg hs] at h
      split
      · rename_i hk
        rw [if_pos hk] at h
        unfold createP at h ⊢
        simp only at h ⊢
        split
        · rfl
        · rename_i hq
          rw [if_neg hq] at h
          exact absurd ⟨rfl, by omega⟩ h
      · rename_i hk
        rw [if_neg hk] at h
        split
        · rename_i hk2
          rw [if_pos hk2] at h
          unfold changeP at h ⊢
          split
          · rfl
          · rename_i n hn
            simp only [hn] at h
            split
            · rfl
            · rename_i hw
              rw [if_neg hw] at h
              split
              · rename_i h2
                rw [if_pos h2] at h
                split
                · rfl
                · rename_i h3
                  rw [if_neg h3] at h
                  exact absurd ⟨rfl, by omega⟩ h
              · rename_i h2
                rw [if_neg h2] at h
                split
                · rename_i h3
                  rw [if_pos h3] at h
                  exact absurd ⟨rfl, by omega⟩ h
                · rfl
        · rfl
theorem doP_try (room : Int) (t : Pt) (o : OpV) (sess z : Int) : (doP room t o sess z true).1 = t := by
  unfold doP
  split
  · rfl
  · split
    · rfl
    · split
      · unfold createP
        simp only
        split <;> rfl
      · split
        · unfold changeP
          split
          · rfl
          · split
            · rfl
            · split
              · split <;> rfl
              · split <;> rfl
        · rfl
end Go.Proofs.YtkpcmbgnaenbhaaGreatDoor
