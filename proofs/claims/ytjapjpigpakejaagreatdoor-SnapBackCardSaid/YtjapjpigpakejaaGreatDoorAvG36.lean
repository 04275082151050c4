/- Texts put together: AvSnapM, AvSnapS, AvSnapR, AvSnapB. -/
import Derived.Test.YtjapjpigpakejaaGreatDoorAvG26
import Derived.Test.YtjapjpigpakejaaGreatDoorAvG33

/- Plain laws: a tree in bytes, read back; trees that tell the same go on alike. -/
namespace Go.Proofs.YtjapjpigpakejaaGreatDoor
set_option maxRecDepth 100000
open Go.RowKit Av

theorem mset_new {t : Pt} {p : ByteArray} (n : NodeV) (h : mget t p = none) : mset t p n = t ++ [(p, n)] := by
  induction t with
  | nil => rfl
  | cons a r ih =>
    rw [mget_cons] at h
    split at h
    · cases h
    · rename_i hk
      show (if p = a.1 then _ else _) = _
      rw [if_neg hk, ih h]; rfl
theorem ndLoad_id {n : NodeV} (h : PartsOk n) : ndLoad n = n := by
  obtain ⟨a1, a2, a3, a4, a5, a6, a7, a8, a9, a10⟩ := n
  obtain ⟨h1, h2, _⟩ := h
  simp only at h1 h2
  unfold ndLoad
  simp only
  rw [h1, h2]
/-- What is read so far: nodes, what is left, the last path. -/
structure LdSt where
  t : Pt
  s : Rd
  last : Bs
def loadB (t : Pt) (p : ByteArray) (n : NodeV) : Prop := goodL p.data.toList = true ∧ Named n.names ∧ mget t p = none ∧ t.length < 500
open Classical in
noncomputable def stepE (x : LdSt) : Option LdSt :=
  if (rdNode (rdT 200 x.s).2).names.2 ≠ none ∧ Rising (rdNode (rdT 200 x.s).2).names.1 ∧ x.last < (rdT 200 x.s).1 ∧ loadB x.t ⟨(rdT 200 x.s).1.toArray⟩ (rdNode (rdT 200 x.s).2).node
  then some ⟨mset x.t ⟨(rdT 200 x.s).1.toArray⟩ (ndLoad (rdNode (rdT 200 x.s).2).node), (rdNode (rdT 200 x.s).2).names.2, (rdT 200 x.s).1⟩ else none
theorem stepE_yes {x : LdSt} {p : Bs} {s1 : Rd} {s2 : Bs} {n : NodeV} (h1 : rdT 200 x.s = (p, s1)) (h2 : (rdNode s1).names.2 = some s2) (h3 : (rdNode s1).node = n) (hr : Rising n.names) (hl : x.last < p) (hb : loadB x.t ⟨p.toArray⟩ n) : stepE x = some ⟨mset x.t ⟨p.toArray⟩ (ndLoad n), some s2, p⟩ := by
  have e : (rdNode s1).names.1 = n.names := by rw [← h3]; rfl
  unfold stepE
  rw [h1]
  simp only
  rw [if_pos ⟨by rw [h2]; simp, by rw [e]; exact hr, hl, by rw [h3]; exact hb⟩, h2, h3]
noncomputable def stepsE : Nat → LdSt → Option LdSt
  | 0, x => some x
  | k + 1, x => (stepsE k x).bind stepE
/-- Entries that can be read back. -/
structure EntsB (L : RL) : Prop where
  rise : Rising (keysR L)
  good : ∀ e ∈ L, goodL e.1.data.toList = true
  node : ∀ e ∈ L, NodeB e.2
  up : ∀ e ∈ L, Rising e.2.names
  few : L.length ≤ 500
def lastR (L : RL) (k : Nat) : Bs := match k with
  | 0 => []
  | j + 1 => match L[j]? with
    | none => []
    | some e => e.1.data.toList
theorem steps_enc {L : RL} (h : EntsB L) (r : Bs) : ∀ k, k ≤ L.length → stepsE k ⟨[], some (L.flatMap encE ++ r), []⟩ = some ⟨L.take k, some ((L.drop k).flatMap encE ++ r), lastR L k⟩
  | 0, _ => by simp [stepsE, lastR]
  | k + 1, hk => by
    have hkl : k < L.length := hk
    have ih := steps_enc h r k (by omega)
    have hm : L[k] ∈ L := List.getElem_mem hkl
    have hg := h.good _ hm
    have hn := h.node _ hm
    have hu := h.up _ hm
    have hd : (L.drop k).flatMap encE ++ r = txt L[k].1.data.toList ++ (encN L[k].2 ++ ((L.drop (k + 1)).flatMap encE ++ r)) := by
      rw [List.drop_eq_getElem_cons hkl, List.flatMap_cons]
      unfold encE
      simp only [List.append_assoc]
    have hlen := (good_len _ hg).2
    have hrd : rdT 200 (some ((L.drop k).flatMap encE ++ r)) = (L[k].1.data.toList, some (encN L[k].2 ++ ((L.drop (k + 1)).flatMap encE ++ r))) := by
      rw [hd, rdT_txt _ _ (by omega) (by omega)]
    obtain ⟨e1, e2⟩ := rdNode_enc hn ((L.drop (k + 1)).flatMap encE ++ r)
    have hnone : mget (L.take k) L[k].1 = none := by
      refine mget_none.2 fun hmm => ?_
      obtain ⟨e, he, hee⟩ := List.mem_map.1 hmm
      obtain ⟨i, hi, rfl⟩ := List.getElem_of_mem he
      rw [List.getElem_take] at hee
      have hik : i < k := by simp at hi; omega
      have h1 : (keysR L).Pairwise (· < ·) := h.rise
      unfold keysR at h1
      have h2 := List.pairwise_iff_getElem.1 (List.pairwise_map.1 h1) i k (by omega) hkl hik
      rw [hee] at h2
      exact List.lt_irrefl _ h2
    have hlast : lastR L k < L[k].1.data.toList := by
      cases k with
      | zero =>
        show ([] : Bs) < _
        cases hp : L[0].1.data.toList with
        | nil => rw [hp] at hg; cases hg
        | cons a b => exact List.Lex.nil
      | succ j =>
        have h1 : (keysR L).Pairwise (· < ·) := h.rise
        unfold keysR at h1
        have h2 := List.pairwise_iff_getElem.1 (List.pairwise_map.1 h1) j (j + 1) (by omega) hkl (by omega)
        show (match L[j]? with | none => [] | some e => e.1.data.toList) < _
        rw [List.getElem?_eq_getElem (by omega)]
        exact h2
    show (stepsE k _).bind stepE = _
    rw [ih]
    show stepE _ = _
    rw [stepE_yes (x := ⟨L.take k, some ((L.drop k).flatMap encE ++ r), lastR L k⟩) hrd e2 e1 hu hlast (by rw [bytes_self]; exact ⟨hg, named_of hn.parts.2.2.2 hu hn.few, hnone, by simp; have := h.few; omega⟩), bytes_self]
    simp only
    rw [mset_new _ hnone, ndLoad_id hn.parts, List.take_succ_eq_append_getElem hkl]
    have hl : lastR L (k + 1) = L[k].1.data.toList := by
      show (match L[k]? with | none => [] | some e => e.1.data.toList) = _
      rw [List.getElem?_eq_getElem hkl]
    rw [hl]
/-! Trees that tell the same. -/
structure Alike (t u : Pt) : Prop where
  get : ∀ p, mget t p = mget u p
  len : t.length = u.length
theorem Alike.refl (t : Pt) : Alike t t := ⟨fun _ => rfl, rfl⟩
theorem Alike.set {t u : Pt} (h : Alike t u) (p : ByteArray) (n : NodeV) : Alike (mset t p n) (mset u p n) :=
  ⟨fun q => by rw [mget_mset, mget_mset, h.get], by rw [mset_length, mset_length, h.get, h.len]⟩
theorem mdel_length {t : Pt} (hn : (t.map (·.1)).Nodup) (p : ByteArray) : (mdel t p).length = t.length - (if (mget t p).isSome then 1 else 0) := by
  induction t with
  | nil => rfl
  | cons a r ih =>
    have h1 := List.nodup_cons.1 hn
    rw [mget_cons]
    unfold mdel at ih ⊢
    rw [List.filter_cons]
    by_cases hk : p = a.1
    · have hnone : mget r p = none := mget_none.2 (by rw [hk]; exact h1.1)
      have ih2 := ih h1.2
      rw [hnone] at ih2
      rw [if_neg (by simp [hk]), if_pos hk]
      simp at ih2 ⊢
      exact ih2
    · have ih2 := ih h1.2
      rw [if_pos (by simp; exact hk), if_neg hk, List.length_cons, ih2, List.length_cons]
      split
      · rename_i hs
        have : 0 < r.length := by
          cases r with
          | nil => cases hs
          | cons _ _ => simp
        omega
      · rfl
theorem Alike.del {t u : Pt} (h : Alike t u) (ht : (t.map (·.1)).Nodup) (hu : (u.map (·.1)).Nodup) (p : ByteArray) : Alike (mdel t p) (mdel u p) :=
  ⟨fun q => by rw [mget_mdel, mget_mdel, h.get], by rw [mdel_length ht, mdel_length hu, h.get, h.len]⟩
theorem Alike.tell {t u : Pt} (h : Alike t u) (f : NodeV → Bs → NodeV) (p : ByteArray) : Alike (tellP f t p) (tellP f u p) := by
  unfold tellP
  cases parentL p.data.toList with
  | none => exact h
  | some up =>
    simp only
    rw [← h.get]
    cases mget t ⟨up.toArray⟩ with
    | none => exact h
    | some n => exact h.set _ _
theorem Alike.place {t u : Pt} (h : Alike t u) (room : Int) (p : ByteArray) (f : Int) : placeP room t p f = placeP room u p f := by
  have hf : ∀ q, finQ room t q = finQ room u q := fun q => by unfold finQ; rw [h.get, h.len]
  unfold placeP
  cases parentL p.data.toList with
  | none => exact hf p
  | some up =>
    simp only
    rw [← h.get]
    cases mget t ⟨up.toArray⟩ with
    | none => rfl
    | some n => simp only [hf]
theorem Alike.doP {t u : Pt} (h : Alike t u) (ht : (t.map (·.1)).Nodup) (hu : (u.map (·.1)).Nodup) (room : Int) (o : OpV) (sess z : Int) (only : Bool) :
    (Proofs.YtjapjpigpakejaaGreatDoor.doP room t o sess z only).2 = (Proofs.YtjapjpigpakejaaGreatDoor.doP room u o sess z only).2 ∧ Alike (Proofs.YtjapjpigpakejaaGreatDoor.doP room t o sess z only).1 (Proofs.YtjapjpigpakejaaGreatDoor.doP room u o sess z only).1 := by
  unfold Proofs.YtjapjpigpakejaaGreatDoor.doP
  split
  · exact ⟨rfl, h⟩
  · split
    · exact ⟨rfl, h⟩
    · split
      · unfold createP
        simp only
        rw [← h.place]
        split
        · exact ⟨rfl, h⟩
        · refine ⟨rfl, ?_⟩
          show Alike (if _ then _ else _) (if _ then _ else _)
          split
          · exact h
          · exact (h.set _ _).tell _ _
      · split
        · unfold changeP
          rw [← h.get]
          cases mget t o.path with
          | none => exact ⟨rfl, h⟩
          | some n =>
            simp only
            split
            · exact ⟨rfl, h⟩
            · split
              · split
                · exact ⟨rfl, h⟩
                · refine ⟨rfl, ?_⟩
                  show Alike (if _ then _ else _) (if _ then _ else _)
                  split
                  · exact h
                  · exact (h.del ht hu _).tell _ _
              · split
                · refine ⟨rfl, ?_⟩
                  show Alike (if _ then _ else _) (if _ then _ else _)
                  split
                  · exact h
                  · exact h.set _ _
                · exact ⟨rfl, h⟩
        · unfold readP
          rw [← h.get]
          exact ⟨rfl, h⟩
end Go.Proofs.YtjapjpigpakejaaGreatDoor

/- Plain laws: the names of those under a path, gathered and sorted, are the node's; what a snapshot asks of a tree's numbers. -/
namespace Go.Proofs.YtjapjpigpakejaaGreatDoor
set_option maxRecDepth 100000
open Go.RowKit Av

def kidsOf (L : List Bs) (p : Bs) : List Bs := L.filterMap fun q => if parentL q = some p then some (lastL q) else none
theorem kids_mem {L : List Bs} {p x : Bs} : x ∈ kidsOf L p ↔ ∃ q ∈ L, parentL q = some p ∧ lastL q = x := by
  unfold kidsOf
  rw [List.mem_filterMap]
  constructor
  · rintro ⟨q, hq, h⟩
    split at h
    · rename_i hp
      simp only [Option.some.injEq] at h
      exact ⟨q, hq, hp, h⟩
    · cases h
  · rintro ⟨q, hq, hp, rfl⟩
    exact ⟨q, hq, by rw [if_pos hp]⟩
theorem kids_nodup {p : Bs} : ∀ {L : List Bs}, L.Nodup → (kidsOf L p).Nodup
  | [], _ => List.nodup_nil
  | a :: L, h => by
    have h1 := List.nodup_cons.1 h
    have ih := kids_nodup (p := p) h1.2
    by_cases ha : parentL a = some p
    · have e : kidsOf (a :: L) p = lastL a :: kidsOf L p := by
        unfold kidsOf
        rw [List.filterMap_cons, if_pos ha]
      rw [e]
      refine List.nodup_cons.2 ⟨fun hm => ?_, ih⟩
      obtain ⟨q, hq, hp, hl⟩ := kids_mem.1 hm
      have e1 := child_of ha
      have e2 := child_of hp
      rw [hl, e1] at e2
      rw [← e2] at hq
      exact h1.1 hq
    · have e : kidsOf (a :: L) p = kidsOf L p := by
        unfold kidsOf
        rw [List.filterMap_cons, if_neg ha]
      rw [e]
      exact ih
theorem sort_rising {l : List Bs} (h : l.Nodup) : Rising (l.mergeSort fun x y => decide (x ≤ y)) := by
  have tr : ∀ a b c : Bs, decide (a ≤ b) = true → decide (b ≤ c) = true → decide (a ≤ c) = true := fun a b c h1 h2 => by simp only [decide_eq_true_eq] at *; exact List.le_trans h1 h2
  have tt : ∀ a b : Bs, (decide (a ≤ b) || decide (b ≤ a)) = true := fun a b => by simp only [Bool.or_eq_true, decide_eq_true_eq]; exact List.le_total a b
  have hp := List.pairwise_mergeSort tr tt l
  have hn : (l.mergeSort fun x y => decide (x ≤ y)).Nodup := (List.mergeSort_perm _ _).nodup_iff.2 h
  exact (hp.and hn).imp fun ⟨h1, h2⟩ => lt_of_not (fun h3 => h2 (List.le_antisymm (by simpa using h1) (List.le_of_lt h3))) (fun e => h2 e.symm)
/-- A sound tree's children. -/
theorem sound_kids {room : Int} {t : Pt} {K : Nat} (h : SoundP room t) (hk : PtK K t) (hf : PtN t) {p : ByteArray} {n : NodeV} (hp : mget t p = some n) :
    ((kidsOf (pathsP t) p.data.toList).mergeSort fun x y => decide (x ≤ y)) = n.names := by
  have hnd : (pathsP t).Nodup := (pathsP_rising hk.1).imp fun {a b} h e => by rw [e] at h; exact List.lt_irrefl _ h
  refine rising_ext (sort_rising (kids_nodup hnd)) (hk.2 _ (mget_mem hp)).rise (fun x => ?_)
  rw [(List.mergeSort_perm _ _).mem_iff, kids_mem]
  constructor
  · rintro ⟨q, hq, hpar, rfl⟩
    obtain ⟨m, hm⟩ := Option.ne_none_iff_exists'.1 (paths_mem.1 hq)
    have hq2 : (⟨q.toArray⟩ : ByteArray).data.toList = q := by simp
    obtain ⟨y, hy, _, hyl⟩ := h.par _ m hm p.data.toList (by rw [hq2]; exact hpar)
    rw [bytes_self, hp] at hy
    simp only [Option.some.injEq] at hy
    subst hy
    rwa [hq2] at hyl
  · intro hx
    have hs := h.kids p n hp x hx
    obtain ⟨m, hm⟩ := Option.isSome_iff_exists.1 hs
    have hg := h.good _ m hm
    obtain ⟨e1, e2⟩ := child_is (h.good p n hp) (hf _ (mget_mem hp) x hx) hg rfl
    exact ⟨(childB p x).data.toList, paths_mem.2 (by rw [bytes_self, hm]; simp), e1, e2⟩
/-! Numbers that can be written. -/
structure NumOk (n : NodeV) : Prop where
  made : I64 n.made
  chg : I64 n.chg
  ver : 0 ≤ n.ver ∧ n.ver ≤ mostN
  kids : 0 ≤ n.kids ∧ n.kids ≤ mostN
  own : I64 n.own
  next : 0 ≤ n.next ∧ n.next ≤ mostN
theorem moreI_most {n : Int} (h : 0 ≤ n ∧ n ≤ mostN) : 0 ≤ moreI n ∧ moreI n ≤ mostN := by
  unfold moreI mostN at *
  split <;> omega
theorem numOk_inv (o : OpV) {sess z : Int} (hs : I64 sess) (hz : I64 z) : NodeInv NumOk o sess z := by
  have h0 : (0 : Int) ≤ 0 ∧ (0 : Int) ≤ mostN := by unfold mostN; omega
  refine ⟨fun _ _ => ⟨hz, hz, h0, h0, ?_, h0⟩, fun n q _ _ h => ?_, fun n x h => ?_, fun n _ h => ⟨h.made, hz, moreI_most h.ver, h.kids, h.own, h.next⟩⟩
  · show I64 (ownF o.flags sess)
    unfold ownF
    split
    · exact hs
    · exact ⟨by omega, by omega⟩
  · unfold ndAdd
    split
    · exact h
    · exact ⟨h.made, h.chg, h.ver, moreI_most h.kids, h.own, moreI_most h.next⟩
  · unfold ndRem
    split
    · exact ⟨h.made, h.chg, h.ver, moreI_most h.kids, h.own, h.next⟩
    · exact h
theorem nodeB_of {K : Nat} {n : NodeV} (h : NumOk n) (hp : PartsOk n) (hk : NodeK K n) (hK : K ≤ 500) : NodeB n :=
  ⟨h.made, h.chg, h.ver, h.kids, h.own, h.next, hp, Nat.le_trans hk.few hK⟩
/-- A tree that can be written and read back. -/
theorem entsB_of {room : Int} {t : Pt} {K : Nat} (h : SoundP room t) (hk : PtK K t) (hK : K ≤ 500) (hr : room ≤ 500) (hn : AllN NumOk t) (hp : AllN PartsOk t) : EntsB (ownL t) := by
  have hmem : ∀ e ∈ ownL t, mget t e.1 = some e.2 := fun e he => by
    have h1 := mget_of_mem (rise_nodup (own_sorted hk.1).rise) (k := e.1) he
    rw [(own_sorted hk.1).get] at h1
    exact h1
  refine ⟨(own_sorted hk.1).rise, fun e he => h.good _ _ (hmem e he), fun e he => ?_, fun e he => (hk.2 _ (mget_mem (hmem e he))).rise, ?_⟩
  · exact nodeB_of (hn _ _ (hmem e he)) (hp _ _ (hmem e he)) (hk.2 _ (mget_mem (hmem e he))) hK
  · have h1 := h.size
    rw [own_len]
    omega
/-- What is read back is the tree's list, and it tells the same. -/
theorem own_alike {t : Pt} (h : (t.map (·.1)).Nodup) : Alike t (ownL t) := ⟨fun p => ((own_sorted h).get p).symm, (own_len t).symm⟩
end Go.Proofs.YtjapjpigpakejaaGreatDoor

/- Plain laws: a list of entries is read back; unlike ones have unlike bytes. -/
namespace Go.Proofs.YtjapjpigpakejaaGreatDoor
set_option maxRecDepth 100000
open Go.RowKit Av

theorem rdC_encL {L : RL} (h : L.length ≤ 500) : rdC 500 (some (encL L)) = ((L.length : Int), some (L.flatMap encE)) := by
  unfold encL
  exact rdC_be8 (i64_len (by omega)) (Int.natCast_nonneg _) (by omega) _
theorem steps_all {L : RL} (h : EntsB L) : stepsE L.length ⟨[], some (L.flatMap encE), []⟩ = some ⟨L, some [], lastR L L.length⟩ := by
  have := steps_enc h [] L.length (Nat.le_refl _)
  rw [List.append_nil, List.take_length, List.drop_length] at this
  exact this
theorem encL_inj {L M : RL} (hL : EntsB L) (hM : EntsB M) (h : encL L = encL M) : L = M := by
  have h1 := rdC_encL hL.few
  rw [h, rdC_encL hM.few] at h1
  simp only [Prod.mk.injEq, Option.some.injEq] at h1
  obtain ⟨e1, e2⟩ := h1
  have e3 : M.length = L.length := by omega
  have h2 := steps_all hL
  rw [← e2, ← e3, steps_all hM] at h2
  simp only [Option.some.injEq, LdSt.mk.injEq] at h2
  exact h2.1.symm
/-- Bytes as a tree: nodes, if they are some. -/
noncomputable def readFrom (k : Nat) (s : Rd) : Option Pt := (stepsE k ⟨[], s, []⟩).bind fun x => if x.s = some [] then some x.t else none
noncomputable def readT (b : Bs) : Option Pt := readFrom (rdC 500 (some b)).1.toNat (rdC 500 (some b)).2
theorem readFrom_all {L : RL} (h : EntsB L) : readFrom L.length (some (L.flatMap encE)) = some L := by
  have h2 := steps_all h
  unfold readFrom
  generalize stepsE L.length ⟨[], some (L.flatMap encE), []⟩ = r at h2 ⊢
  subst h2
  show (if (some [] : Rd) = some [] then some L else none) = some L
  rw [if_pos rfl]
theorem read_enc {L : RL} (h : EntsB L) : readT (encL L) = some L := by
  have h1 := rdC_encL h.few
  have e1 : (rdC 500 (some (encL L))).1.toNat = L.length := by rw [h1]; exact Int.toNat_natCast _
  have e2 : (rdC 500 (some (encL L))).2 = some (L.flatMap encE) := by rw [h1]
  unfold readT
  rw [e1, e2]
  exact readFrom_all h
/-- Once a step fails, all do. -/
theorem steps_none {x : LdSt} {k : Nat} (h : stepsE k x = none) : ∀ j, k ≤ j → stepsE j x = none
  | 0, hj => by
    obtain rfl : k = 0 := by omega
    exact h
  | j + 1, hj => by
    by_cases e : k = j + 1
    · rw [← e]; exact h
    · show (stepsE j x).bind stepE = none
      rw [steps_none h j (by omega)]; rfl
end Go.Proofs.YtjapjpigpakejaaGreatDoor

/- Plain laws: is a tree sound? Told by its paths alone. -/
namespace Go.Proofs.YtjapjpigpakejaaGreatDoor
set_option maxRecDepth 100000
open Go.RowKit Av

/-- A path's Parent is there, and is nobody's. -/
def upOk (t : Pt) (q : Bs) : Bool := match parentL q with
  | none => true
  | some up => match mget t ⟨up.toArray⟩ with
    | none => false
    | some n => n.own == 0
/-- A node's names are those of who stands under it. -/
def kidsOk (t : Pt) (L : List Bs) (q : Bs) : Bool := decide ((nodeP t ⟨q.toArray⟩).1.names = (kidsOf L q).mergeSort fun x y => decide (x ≤ y))
def soundB (t : Pt) : Bool := (pathsP t).all (upOk t) && (pathsP t).all (kidsOk t (pathsP t))
theorem sound_yes {room : Int} {t : Pt} {K : Nat} (h : SoundP room t) (hk : PtK K t) (hf : PtN t) : soundB t = true := by
  unfold soundB
  rw [Bool.and_eq_true, List.all_eq_true, List.all_eq_true]
  refine ⟨fun q hq => ?_, fun q hq => ?_⟩
  · obtain ⟨m, hm⟩ := Option.ne_none_iff_exists'.1 (paths_mem.1 hq)
    unfold upOk
    cases hp : parentL q with
    | none => rfl
    | some up =>
      obtain ⟨y, hy, hy0, _⟩ := h.par _ m hm up (by simpa using hp)
      simp only [hy, hy0]
      rfl
  · obtain ⟨m, hm⟩ := Option.ne_none_iff_exists'.1 (paths_mem.1 hq)
    unfold kidsOk
    have h1 := sound_kids h hk hf hm
    have h2 : (⟨q.toArray⟩ : ByteArray).data.toList = q := by simp
    rw [h2] at h1
    unfold nodeP
    rw [hm]
    simp only
    rw [h1]
    simp
end Go.Proofs.YtjapjpigpakejaaGreatDoor
