/- Texts put together: AvSound, AvWTreeL. -/
import Derived.Test.YtdagikbdpeblhaaGreatDoorAvG13
import Derived.Test.YtdagikbdpeblhaaGreatDoorAvHWTreeC

/- Plain laws: what each op keeps of a tree: parents are there, and have their children's names; ephemeral nodes have none. -/
namespace Go.Proofs.YtdagikbdpeblhaaGreatDoor
set_option maxRecDepth 100000
open Go.RowKit Av

/-! Names have no stroke. -/
def PtN (t : Pt) : Prop := ∀ e ∈ t, ∀ x ∈ e.2.names, (47 : UInt8) ∉ x
theorem last_free (p : Bs) : (47 : UInt8) ∉ lastL p := by
  unfold lastL
  by_cases h : partsL p = []
  · rw [h]; simp
  · have e : (partsL p).getLastD [] = (partsL p).getLast h := by rw [List.getLastD_eq_getLast?, List.getLast?_eq_some_getLast h]; rfl
    rw [e]
    exact (parts_name p _ (List.getLast_mem h)).2
theorem PtN.set {t : Pt} (h : PtN t) (p : ByteArray) {n : NodeV} (hn : ∀ x ∈ n.names, (47 : UInt8) ∉ x) : PtN (mset t p n) := fun e he => by
  rcases mem_mset' he with rfl | he
  · exact hn
  · exact h e he
theorem PtN.del {t : Pt} (h : PtN t) (p : ByteArray) : PtN (mdel t p) := fun e he => h e (List.mem_filter.1 he).1
theorem add_free {n : NodeV} (h : ∀ x ∈ n.names, (47 : UInt8) ∉ x) {y : Bs} (hy : (47 : UInt8) ∉ y) : ∀ x ∈ (ndAdd n y).names, (47 : UInt8) ∉ x := by
  unfold ndAdd
  split
  · exact h
  · intro x hx
    rcases insN_mem.1 hx with hx | rfl
    · exact h x hx
    · exact hy
theorem rem_free {n : NodeV} (h : ∀ x ∈ n.names, (47 : UInt8) ∉ x) (y : Bs) : ∀ x ∈ (ndRem n y).names, (47 : UInt8) ∉ x := by
  unfold ndRem
  split
  · exact fun x hx => h x ((delN_sub _ _).subset hx)
  · exact h
theorem PtN.tell {t : Pt} (h : PtN t) {f : NodeV → Bs → NodeV} (hf : ∀ n y, (∀ x ∈ n.names, (47 : UInt8) ∉ x) → (47 : UInt8) ∉ y → ∀ x ∈ (f n y).names, (47 : UInt8) ∉ x) (p : ByteArray) : PtN (tellP f t p) := by
  unfold tellP
  split
  · exact h
  · split
    · exact h
    · rename_i n hn
      exact h.set _ (hf _ _ (h _ (mget_mem hn)) (last_free _))
theorem PtN.create {t : Pt} (h : PtN t) (room : Int) (o : OpV) (sess z : Int) (only : Bool) : PtN (createP room t o sess z only).1 := by
  unfold createP
  simp only
  split
  · exact h
  · split
    · exact h
    · exact (h.set _ (by simp [ndNew])).tell (fun n y hn hy => add_free hn hy) _
theorem PtN.change {t : Pt} (h : PtN t) (o : OpV) (z : Int) (only : Bool) : PtN (changeP t o z only).1 := by
  unfold changeP
  split
  · exact h
  · rename_i n hn
    split
    · exact h
    · split
      · split
        · exact h
        · show PtN (if _ then _ else _)
          split
          · exact h
          · exact (h.del _).tell (fun n y hn _ => rem_free hn y) _
      · split
        · show PtN (if _ then _ else _)
          split
          · exact h
          · exact h.set _ (h _ (mget_mem hn))
        · exact h
theorem PtN.doP {t : Pt} (h : PtN t) (room : Int) (o : OpV) (sess z : Int) (only : Bool) : PtN (doP room t o sess z only).1 := by
  unfold Proofs.YtdagikbdpeblhaaGreatDoor.doP
  split
  · exact h
  · split
    · exact h
    · split
      · exact h.create _ _ _ _ _
      · split
        · exact h.change _ _ _
        · exact h
theorem cut_plain {x : Bs} (h : (47 : UInt8) ∉ x) : cut x = [x] := cut_one (by rw [cut_length, List.count_eq_zero.2 h])
theorem child_of {p up : Bs} (h : parentL p = some up) : up ++ 47 :: lastL p = p := by
  unfold parentL at h
  split at h
  · cases h
  · rename_i h2
    simp only [Option.some.injEq] at h
    subst h
    have hne : partsL p ≠ [] := fun e => h2 (by rw [e]; decide)
    have hg := (good_iff_parts p).2 hne
    have e : (partsL p).getLastD [] = (partsL p).getLast hne := by rw [List.getLastD_eq_getLast?, List.getLast?_eq_some_getLast hne]; rfl
    unfold lastL
    rw [e]
    have h3 : ofL (partsL p).dropLast ++ 47 :: (partsL p).getLast hne = ofL ((partsL p).dropLast ++ [(partsL p).getLast hne]) := by rw [ofL_app]; simp [ofL]
    rw [h3, List.dropLast_concat_getLast, ofL_parts p hg]
theorem child_parent {e x : Bs} (he : goodL e = true) (hx : (47 : UInt8) ∉ x) (hc : goodL (e ++ 47 :: x) = true) : parentL (e ++ 47 :: x) = some e ∧ lastL (e ++ 47 :: x) = x := by
  have hp := deeper_parts he hc
  rw [cut_plain hx] at hp
  have hne : 1 ≤ (partsL e).length := by
    have := (good_iff_parts e).1 he
    cases h : partsL e with
    | nil => exact absurd h this
    | cons a r => simp
  constructor
  · unfold parentL
    rw [hp, if_neg (by simp; omega), List.dropLast_concat, ofL_parts e he]
  · unfold lastL
    rw [hp]
    simp
def childB (p : ByteArray) (x : Bs) : ByteArray := ⟨(p.data.toList ++ 47 :: x).toArray⟩
structure SoundP (room : Int) (t : Pt) : Prop where
  good : ∀ p n, mget t p = some n → goodL p.data.toList = true
  cnt : ∀ p n, mget t p = some n → n.cnt = n.names.length
  eph : ∀ p n, mget t p = some n → n.own ≠ 0 → n.names = []
  kids : ∀ p n, mget t p = some n → ∀ x ∈ n.names, (mget t (childB p x)).isSome = true
  par : ∀ p n, mget t p = some n → ∀ up, parentL p.data.toList = some up → ∃ m, mget t ⟨up.toArray⟩ = some m ∧ m.own = 0 ∧ lastL p.data.toList ∈ m.names
  size : (t.length : Int) ≤ room
theorem SoundP.nil {room : Int} (h : 0 ≤ room) : SoundP room [] := ⟨fun p n e => by (cases e), fun p n e => by (cases e), fun p n e => by (cases e), fun p n e => by (cases e), fun p n e => by (cases e), by simpa using h⟩
theorem childB_of {p : ByteArray} {up : Bs} (h : parentL p.data.toList = some up) : childB ⟨up.toArray⟩ (lastL p.data.toList) = p := by
  unfold childB
  simp only
  rw [child_of h, bytes_self]
theorem fin_ok {room : Int} {t : Pt} {p q : ByteArray} (h : finQ room t p = (q, 0)) : q = p ∧ mget t p = none ∧ (t.length : Int) < room := by
  unfold finQ at h
  split at h
  · simp at h
  · rename_i h1
    split at h
    · simp at h
    · simp only [Prod.mk.injEq, and_true] at h
      refine ⟨h.symm, ?_, by omega⟩
      cases hm : mget t p with
      | none => rfl
      | some n => rw [hm] at h1; exact absurd rfl h1
/-- Where a node is laid. -/
theorem place_ok {room : Int} {t : Pt} {p q : ByteArray} {f : Int} (hg : goodL p.data.toList = true) (h : placeP room t p f = (q, 0)) :
    goodL q.data.toList = true ∧ mget t q = none ∧ (t.length : Int) < room ∧ ∀ up, parentL q.data.toList = some up → ∃ m, mget t ⟨up.toArray⟩ = some m ∧ m.own = 0 := by
  unfold placeP at h
  split at h
  · rename_i hup
    obtain ⟨rfl, h2, h3⟩ := fin_ok h
    exact ⟨hg, h2, h3, fun up hu => by rw [hup] at hu; cases hu⟩
  · rename_i up hup
    split at h
    · simp at h
    · rename_i n hn
      split at h
      · simp at h
      · rename_i h0
        have hown : n.own = 0 := by simpa using h0
        split at h
        · split at h
          · simp at h
          · rename_i q' hq'
            obtain ⟨rfl, h2, h3⟩ := fin_ok h
            obtain ⟨_, _, _, hqe, hqg⟩ := number_some hq'
            have hpp : parentL q' = some up := by rw [hqe, number_parent (fw_free 10 _) hg (by rw [← hqe]; exact hqg), hup]
            refine ⟨by simpa using hqg, h2, h3, fun up' hu => ?_⟩
            simp only at hu
            rw [hpp] at hu
            simp only [Option.some.injEq] at hu
            subst hu
            exact ⟨n, hn, hown⟩
        · obtain ⟨rfl, h2, h3⟩ := fin_ok h
          refine ⟨hg, h2, h3, fun up' hu => ?_⟩
          rw [hup] at hu
          simp only [Option.some.injEq] at hu
          subst hu
          exact ⟨n, hn, hown⟩
theorem add_mem {n : NodeV} {x y : Bs} : y ∈ (ndAdd n x).names ↔ y ∈ n.names ∨ y = x := by
  unfold ndAdd
  split
  · rename_i h
    refine ⟨.inl, fun h2 => ?_⟩
    rcases h2 with h2 | rfl
    · exact h2
    · exact List.mem_of_getElem? h
  · exact insN_mem
theorem add_own (n : NodeV) (x : Bs) : (ndAdd n x).own = n.own := by unfold ndAdd; split <;> rfl
theorem add_cnt {n : NodeV} (h : n.cnt = n.names.length) (x : Bs) : (ndAdd n x).cnt = (ndAdd n x).names.length := by
  unfold ndAdd
  split
  · exact h
  · show ((n.names.length + 1 : Nat) : Int) = ((insN _ _ _).length : Int)
    rw [insN_len _ (lessN_le _ _)]
theorem rem_own (n : NodeV) (x : Bs) : (ndRem n x).own = n.own := by unfold ndRem; split <;> rfl
theorem rem_cnt {n : NodeV} (h : n.cnt = n.names.length) (x : Bs) : (ndRem n x).cnt = (ndRem n x).names.length := by
  unfold ndRem
  split
  · rename_i h2
    show ((n.names.length - 1 : Nat) : Int) = ((delN _ _).length : Int)
    rw [delN_len (List.getElem?_eq_some_iff.1 h2).1]
  · exact h
theorem rem_mem {n : NodeV} (hr : Rising n.names) {x y : Bs} : y ∈ (ndRem n x).names ↔ y ∈ n.names ∧ y ≠ x := by
  unfold ndRem
  split
  · rename_i h2
    obtain ⟨hk, he⟩ := List.getElem?_eq_some_iff.1 h2
    have hsplit : n.names.take (lessN x n.names) ++ x :: n.names.drop (lessN x n.names + 1) = n.names := by
      conv => rhs; rw [← List.take_append_drop (lessN x n.names) n.names, List.drop_eq_getElem_cons hk, he]
    have hp : Rising (n.names.take (lessN x n.names) ++ x :: n.names.drop (lessN x n.names + 1)) := by rw [hsplit]; exact hr
    obtain ⟨_, h4, h5⟩ := List.pairwise_append.1 hp
    have h6 := (List.pairwise_cons.1 h4).1
    show y ∈ delN _ _ ↔ _
    have hm : y ∈ n.names ↔ y ∈ n.names.take (lessN x n.names) ∨ y = x ∨ y ∈ n.names.drop (lessN x n.names + 1) := by
      conv => lhs; rw [← hsplit]
      simp
    unfold delN
    rw [List.mem_append, hm]
    constructor
    · rintro (h | h)
      · exact ⟨.inl h, fun e => List.lt_irrefl x (by have := h5 y h x (by simp); rwa [e] at this)⟩
      · exact ⟨.inr (.inr h), fun e => List.lt_irrefl x (by have := h6 y h; rwa [e] at this)⟩
    · rintro ⟨h | h | h, hne⟩
      · exact .inl h
      · exact absurd h hne
      · exact .inr h
  · rename_i h2
    refine ⟨fun h => ⟨h, fun e => h2 ?_⟩, fun h => h.1⟩
    subst e
    obtain ⟨j, hj, rfl⟩ := List.getElem_of_mem h
    have hl : lessN n.names[j] n.names = j := lessN_at _ _ j hj (fun z hz => by
      obtain ⟨i, hi, rfl⟩ := List.getElem_of_mem hz
      rw [List.getElem_take]
      have hij : i < j := by simp at hi; omega
      exact List.pairwise_iff_getElem.1 hr i j (by omega) hj hij) (List.lt_irrefl _)
    rw [hl, List.getElem?_eq_getElem hj]
theorem SoundP.same {room : Int} {t : Pt} (h : SoundP room t) {p : ByteArray} {n n' : NodeV} (hp : mget t p = some n) (h1 : n'.names = n.names) (h2 : n'.own = n.own) (h3 : n'.cnt = n.cnt) : SoundP room (mset t p n') := by
  have hget : ∀ q, mget (mset t p n') q = if q = p then some n' else mget t q := fun q => mget_mset t p q n'
  have hold : ∀ q m, mget (mset t p n') q = some m → ∃ m0, mget t q = some m0 ∧ m.names = m0.names ∧ m.own = m0.own ∧ m.cnt = m0.cnt := by
    intro q m hm
    rw [hget] at hm
    split at hm
    · rename_i hq
      simp only [Option.some.injEq] at hm
      subst hm
      exact ⟨n, by rw [hq]; exact hp, h1, h2, h3⟩
    · exact ⟨m, hm, rfl, rfl, rfl⟩
  have hnew : ∀ q m0, mget t q = some m0 → ∃ m, mget (mset t p n') q = some m ∧ m.names = m0.names ∧ m.own = m0.own := by
    intro q m0 hm
    rw [hget]
    split
    · rename_i hq
      rw [hq, hp] at hm
      simp only [Option.some.injEq] at hm
      subst hm
      exact ⟨n', rfl, h1, h2⟩
    · exact ⟨m0, hm, rfl, rfl⟩
  refine ⟨fun q m hm => ?_, fun q m hm => ?_, fun q m hm ho => ?_, fun q m hm x hx => ?_, fun q m hm up hu => ?_, ?_⟩
  · obtain ⟨m0, e, _⟩ := hold q m hm
    exact h.good q m0 e
  · obtain ⟨m0, e, e1, _, e3⟩ := hold q m hm
    rw [e3, e1]; exact h.cnt q m0 e
  · obtain ⟨m0, e, e1, e2, _⟩ := hold q m hm
    rw [e1]; exact h.eph q m0 e (by rw [← e2]; exact ho)
  · obtain ⟨m0, e, e1, _⟩ := hold q m hm
    have := h.kids q m0 e x (by rw [← e1]; exact hx)
    cases hc : mget t (childB q x) with
    | none => rw [hc] at this; cases this
    | some y =>
      obtain ⟨y', hy, _⟩ := hnew _ y hc
      rw [hy]; rfl
  · obtain ⟨m0, e, _⟩ := hold q m hm
    obtain ⟨y, hy, hy0, hyl⟩ := h.par q m0 e up hu
    obtain ⟨y', hy', e1, e2⟩ := hnew _ y hy
    exact ⟨y', hy', by rw [e2]; exact hy0, by rw [e1]; exact hyl⟩
  · rw [mset_length, hp]; exact h.size
theorem SoundP.create {room : Int} {t : Pt} (h : SoundP room t) (o : OpV) (hg : goodL o.path.data.toList = true) (sess z : Int) : SoundP room (createP room t o sess z false).1 := by
  unfold createP
  simp only
  split
  · exact h
  · rename_i hq0
    obtain ⟨q, e, hq⟩ : ∃ q e, placeP room t o.path o.flags = (q, e) := ⟨_, _, rfl⟩
    rw [hq] at hq0 ⊢
    obtain rfl : e = 0 := by simpa using hq0
    obtain ⟨g, hnone, hlt, hpar⟩ := place_ok hg hq
    simp only [Bool.false_eq_true, if_false]
    obtain ⟨N, hN, hN1, hN2⟩ : ∃ N : NodeV, ndNew z (ownF o.flags sess) o.data = N ∧ N.names = [] ∧ N.cnt = 0 := ⟨_, rfl, rfl, rfl⟩
    rw [hN]
    unfold tellP
    cases hup : parentL q.data.toList with
    | none =>
      simp only
      have hget : ∀ p, mget (mset t q N) p = if p = q then some N else mget t p := fun p => mget_mset t q p N
      have hkeep : ∀ p n, mget t p = some n → mget (mset t q N) p = some n := fun p n hp => by
        rw [hget, if_neg (fun e => by rw [e, hnone] at hp; cases hp)]; exact hp
      refine ⟨fun p n hp => ?_, fun p n hp => ?_, fun p n hp ho => ?_, fun p n hp x hx => ?_, fun p n hp up hu => ?_, ?_⟩
      · rw [hget] at hp
        split at hp
        · rename_i e; rw [e]; exact g
        · exact h.good p n hp
      · rw [hget] at hp
        split at hp
        · simp only [Option.some.injEq] at hp; subst hp; rw [hN1, hN2]; rfl
        · exact h.cnt p n hp
      · rw [hget] at hp
        split at hp
        · simp only [Option.some.injEq] at hp; subst hp; exact hN1
        · exact h.eph p n hp ho
      · rw [hget] at hp
        split at hp
        · simp only [Option.some.injEq] at hp; subst hp; rw [hN1] at hx; cases hx
        · have := h.kids p n hp x hx
          cases hc : mget t (childB p x) with
          | none => rw [hc] at this; cases this
          | some y => rw [hkeep _ y hc]; rfl
      · rw [hget] at hp
        split at hp
        · rename_i e; rw [e, hup] at hu; cases hu
        · obtain ⟨m, hm, h1, h2⟩ := h.par p n hp up hu
          exact ⟨m, hkeep _ m hm, h1, h2⟩
      · rw [mset_length, hnone]
        simp only [Option.isSome_none, Bool.false_eq_true, if_false]
        omega
    | some up =>
      obtain ⟨m, hm, hm0⟩ := hpar up hup
      have hne : (⟨up.toArray⟩ : ByteArray) ≠ q := fun e => by rw [e, hnone] at hm; cases hm
      simp only [mget_mset]
      rw [if_neg hne, hm]
      simp only
      have hget : ∀ p, mget (mset (mset t q N) ⟨up.toArray⟩ (ndAdd m (lastL q.data.toList))) p = if p = ⟨up.toArray⟩ then some (ndAdd m (lastL q.data.toList)) else if p = q then some N else mget t p := fun p => by rw [mget_mset, mget_mset]
      have hkeep : ∀ p n, mget t p = some n → ∃ n', mget (mset (mset t q N) ⟨up.toArray⟩ (ndAdd m (lastL q.data.toList))) p = some n' ∧ n'.own = n.own ∧ ∀ x ∈ n.names, x ∈ n'.names := fun p n hp => by
        rw [hget]
        split
        · rename_i e
          rw [e, hm] at hp
          simp only [Option.some.injEq] at hp
          subst hp
          exact ⟨_, rfl, add_own _ _, fun x hx => add_mem.2 (.inl hx)⟩
        · rw [if_neg (fun e => by rw [e, hnone] at hp; cases hp)]
          exact ⟨n, hp, rfl, fun x hx => hx⟩
      have hsome : ∀ p, (mget t p).isSome = true → (mget (mset (mset t q N) ⟨up.toArray⟩ (ndAdd m (lastL q.data.toList))) p).isSome = true := fun p hp => by
        cases hc : mget t p with
        | none => rw [hc] at hp; cases hp
        | some y => obtain ⟨y', hy, _⟩ := hkeep p y hc; rw [hy]; rfl
      have hqs : mget (mset (mset t q N) ⟨up.toArray⟩ (ndAdd m (lastL q.data.toList))) q = some N := by rw [hget, if_neg (Ne.symm hne), if_pos rfl]
      refine ⟨fun p n hp => ?_, fun p n hp => ?_, fun p n hp ho => ?_, fun p n hp x hx => ?_, fun p n hp up' hu => ?_, ?_⟩
      · rw [hget] at hp
        split at hp
        · rename_i e; rw [e]; exact h.good _ m hm
        · split at hp
          · rename_i e; rw [e]; exact g
          · exact h.good p n hp
      · rw [hget] at hp
        split at hp
        · simp only [Option.some.injEq] at hp; subst hp; exact add_cnt (h.cnt _ m hm) _
        · split at hp
          · simp only [Option.some.injEq] at hp; subst hp; rw [hN1, hN2]; rfl
          · exact h.cnt p n hp
      · rw [hget] at hp
        split at hp
        · simp only [Option.some.injEq] at hp; subst hp; rw [add_own] at ho; exact absurd hm0 ho
        · split at hp
          · simp only [Option.some.injEq] at hp; subst hp; exact hN1
          · exact h.eph p n hp ho
      · rw [hget] at hp
        split at hp
        · rename_i e
          simp only [Option.some.injEq] at hp
          subst hp
          rcases add_mem.1 hx with hx | rfl
          · rw [e]; exact hsome _ (h.kids _ m hm x hx)
          · rw [e, childB_of hup, hqs]; rfl
        · split at hp
          · simp only [Option.some.injEq] at hp; subst hp; rw [hN1] at hx; cases hx
          · exact hsome _ (h.kids p n hp x hx)
      · have hpq : p = q ∨ ∃ n0, mget t p = some n0 := by
          rw [hget] at hp
          split at hp
          · rename_i e; rw [e]; exact .inr ⟨m, hm⟩
          · split at hp
            · rename_i e; exact .inl e
            · exact .inr ⟨n, hp⟩
        rcases hpq with rfl | ⟨n0, hn0⟩
        · rw [hup] at hu
          simp only [Option.some.injEq] at hu
          subst hu
          exact ⟨_, by rw [hget, if_pos rfl], by rw [add_own]; exact hm0, add_mem.2 (.inr rfl)⟩
        · obtain ⟨y, hy, hy0, hyl⟩ := h.par p n0 hn0 up' hu
          obtain ⟨y', hy', e1, e2⟩ := hkeep _ y hy
          exact ⟨y', hy', by rw [e1]; exact hy0, e2 _ hyl⟩
      · rw [mset_length, mget_mset, if_neg hne, hm, mset_length, hnone]
        simp only [Option.isSome_some, Option.isSome_none, if_true, Bool.false_eq_true, if_false]
        omega
theorem parent_ne {p : ByteArray} {up : Bs} (h : parentL p.data.toList = some up) : (⟨up.toArray⟩ : ByteArray) ≠ p := fun e => by
  obtain ⟨_, _, h3⟩ := top_parent p.data.toList up h
  have h4 : p.data.toList = up := by rw [← e]
  rw [h4] at h3
  omega
/-- A child's parent, its name. -/
theorem child_is {p q : ByteArray} {x : Bs} (hp : goodL p.data.toList = true) (hx : (47 : UInt8) ∉ x) (hq : goodL q.data.toList = true) (h : childB p x = q) : parentL q.data.toList = some p.data.toList ∧ lastL q.data.toList = x := by
  have e : q.data.toList = p.data.toList ++ 47 :: x := by rw [← h]; unfold childB; simp
  rw [e] at hq ⊢
  exact child_parent hp hx hq
theorem SoundP.delete {room : Int} {t : Pt} (h : SoundP room t) (hr : ∀ p n, mget t p = some n → Rising n.names) (hN : ∀ p n, mget t p = some n → ∀ x ∈ n.names, (47 : UInt8) ∉ x) {p : ByteArray} {n : NodeV} (hp : mget t p = some n) (hnm : n.names = []) : SoundP room (tellP ndRem (mdel t p) p) := by
  have hlen : (mdel t p).length ≤ t.length := List.length_filter_le _ _
  have hsz := h.size
  have hpg := h.good p n hp
  have hd : ∀ q, mget (mdel t p) q = if q = p then none else mget t q := fun q => mget_mdel t p q
  unfold tellP
  cases hup : parentL p.data.toList with
  | none =>
    simp only
    refine ⟨fun q m hq => ?_, fun q m hq => ?_, fun q m hq ho => ?_, fun q m hq x hx => ?_, fun q m hq up hu => ?_, by omega⟩
    · rw [hd] at hq
      split at hq
      · cases hq
      · exact h.good q m hq
    · rw [hd] at hq
      split at hq
      · cases hq
      · exact h.cnt q m hq
    · rw [hd] at hq
      split at hq
      · cases hq
      · exact h.eph q m hq ho
    · rw [hd] at hq
      split at hq
      · cases hq
      · rw [hd, if_neg (fun e => ?_)]
        · exact h.kids q m hq x hx
        · have := (child_is (h.good q m hq) (hN q m hq x hx) hpg e).1
          rw [hup] at this
          cases this
    · rw [hd] at hq
      split at hq
      · cases hq
      · obtain ⟨y, hy, hy0, hyl⟩ := h.par q m hq up hu
        refine ⟨y, ?_, hy0, hyl⟩
        rw [hd, if_neg (fun e => ?_)]
        · exact hy
        · rw [e, hp] at hy
          simp only [Option.some.injEq] at hy
          rw [← hy, hnm] at hyl
          cases hyl
  | some up =>
    obtain ⟨m, hm, hm0, hml⟩ := h.par p n hp up hup
    have hne := parent_ne hup
    simp only [hd]
    rw [if_neg hne, hm]
    simp only
    have hget : ∀ q, mget (mset (mdel t p) ⟨up.toArray⟩ (ndRem m (lastL p.data.toList))) q = if q = ⟨up.toArray⟩ then some (ndRem m (lastL p.data.toList)) else if q = p then none else mget t q := fun q => by rw [mget_mset, hd]
    have hback : ∀ q y, mget (mset (mdel t p) ⟨up.toArray⟩ (ndRem m (lastL p.data.toList))) q = some y → q ≠ p ∧ ∃ y0, mget t q = some y0 ∧ y.own = y0.own ∧ (∀ x ∈ y.names, x ∈ y0.names ∧ (q = ⟨up.toArray⟩ → x ≠ lastL p.data.toList)) := by
      intro q y hy
      rw [hget] at hy
      split at hy
      · rename_i e
        simp only [Option.some.injEq] at hy
        subst hy
        refine ⟨by rw [e]; exact hne, m, by rw [e]; exact hm, rem_own _ _, fun x hx => ?_⟩
        have := (rem_mem (hr _ m hm)).1 hx
        exact ⟨this.1, fun _ => this.2⟩
      · rename_i e
        split at hy
        · cases hy
        · rename_i e2
          exact ⟨e2, y, hy, rfl, fun x hx => ⟨hx, fun e3 => absurd e3 e⟩⟩
    have hkeep : ∀ q y0, mget t q = some y0 → q ≠ p → ∃ y, mget (mset (mdel t p) ⟨up.toArray⟩ (ndRem m (lastL p.data.toList))) q = some y ∧ y.own = y0.own ∧ ∀ x ∈ y0.names, (q = ⟨up.toArray⟩ → x ≠ lastL p.data.toList) → x ∈ y.names := by
      intro q y0 hy hq
      rw [hget]
      split
      · rename_i e
        rw [e, hm] at hy
        simp only [Option.some.injEq] at hy
        subst hy
        exact ⟨_, rfl, rem_own _ _, fun x hx hne => (rem_mem (hr _ m hm)).2 ⟨hx, hne e⟩⟩
      · first
          | exact ⟨y0, hy, rfl, fun x hx _ => hx⟩
          | (rw [if_neg hq]; exact ⟨y0, hy, rfl, fun x hx _ => hx⟩)
    refine ⟨fun q y hq => ?_, fun q y hq => ?_, fun q y hq ho => ?_, fun q y hq x hx => ?_, fun q y hq up' hu => ?_, ?_⟩
    · obtain ⟨_, y0, h0, _⟩ := hback q y hq
      exact h.good q y0 h0
    · rw [hget] at hq
      split at hq
      · simp only [Option.some.injEq] at hq; subst hq; exact rem_cnt (h.cnt _ m hm) _
      · split at hq
        · cases hq
        · exact h.cnt q y hq
    · obtain ⟨_, y0, h0, h1, h2⟩ := hback q y hq
      have h3 := h.eph q y0 h0 (by rw [← h1]; exact ho)
      cases hy : y.names with
      | nil => rfl
      | cons a r => have := (h2 a (by rw [hy]; simp)).1; rw [h3] at this; cases this
    · obtain ⟨_, y0, h0, _, h2⟩ := hback q y hq
      obtain ⟨hx0, hxl⟩ := h2 x hx
      have hk := h.kids q y0 h0 x hx0
      have hcp : childB q x ≠ p := fun e => by
        obtain ⟨e1, e2⟩ := child_is (h.good q y0 h0) (hN q y0 h0 x hx0) hpg e
        rw [hup] at e1
        simp only [Option.some.injEq] at e1
        exact hxl (by rw [e1, bytes_self]) e2.symm
      cases hc : mget t (childB q x) with
      | none => rw [hc] at hk; cases hk
      | some c =>
        obtain ⟨c', hc', _⟩ := hkeep _ c hc hcp
        rw [hc']; rfl
    · obtain ⟨hqp, y0, h0, _⟩ := hback q y hq
      obtain ⟨u, hu1, hu2, hu3⟩ := h.par q y0 h0 up' hu
      have hup' : (⟨up'.toArray⟩ : ByteArray) ≠ p := fun e => by
        rw [e, hp] at hu1
        simp only [Option.some.injEq] at hu1
        rw [← hu1, hnm] at hu3
        cases hu3
      obtain ⟨u', h1, h2, h3⟩ := hkeep _ u hu1 hup'
      refine ⟨u', h1, by rw [h2]; exact hu2, h3 _ hu3 (fun e hl => hqp ?_)⟩
      have e' : up' = up := bs_inj e
      rw [e'] at hu
      have h4 := child_of hu
      have h5 := child_of hup
      rw [hl, h5] at h4
      exact bytes_eq h4.symm
    · rw [mset_length, hd, if_neg hne, hm]
      simp only [Option.isSome_some, if_true]
      omega
theorem SoundP.change {room : Int} {t : Pt} (h : SoundP room t) (hr : ∀ p n, mget t p = some n → Rising n.names) (hN : ∀ p n, mget t p = some n → ∀ x ∈ n.names, (47 : UInt8) ∉ x) (o : OpV) (z : Int) : SoundP room (changeP t o z false).1 := by
  unfold changeP
  split
  · exact h
  · rename_i n hn
    split
    · exact h
    · split
      · split
        · exact h
        · rename_i h0
          simp only [Bool.false_eq_true, if_false]
          exact h.delete hr hN hn (List.eq_nil_of_length_eq_zero (by omega))
      · split
        · simp only [Bool.false_eq_true, if_false]
          exact h.same hn rfl rfl rfl
        · exact h
theorem SoundP.doP {K : Nat} {room : Int} {t : Pt} (h : SoundP room t) (hK : PtK K t) (hN : PtN t) (o : OpV) (sess z : Int) : SoundP room (doP room t o sess z false).1 := by
  have hr : ∀ p n, mget t p = some n → Rising n.names := fun p n hp => (hK.2 _ (mget_mem hp)).rise
  have hn : ∀ p n, mget t p = some n → ∀ x ∈ n.names, (47 : UInt8) ∉ x := fun p n hp => hN _ (mget_mem hp)
  unfold Proofs.YtdagikbdpeblhaaGreatDoor.doP
  split
  · exact h
  · rename_i h0
    split
    · exact h
    · split
      · refine h.create o ?_ sess z
        have h1 : goodO o = 0 := by simpa using h0
        unfold goodO at h1
        split at h1
        · rename_i h2
          unfold formedB at h2
          simp only [Bool.and_eq_true] at h2
          exact h2.2.2.1
        · cases h1
      · split
        · exact h.change hr hn o z
        · exact h
end Go.Proofs.YtdagikbdpeblhaaGreatDoor

/- Walks of package tree: named. -/
namespace Go.Proofs.YtdagikbdpeblhaaGreatDoor
set_option maxRecDepth 100000
open Go.RowKit Av

/-- A name at its place. -/
def okAt (l : List Bs) (j : Nat) : Prop := ∃ h : j < l.length, topL (47 :: l[j]) = l[j] ∧ l[j] ≠ [] ∧ ∀ _ : 0 < j, l[j - 1] < l[j]
def NamedLoop (w : World) (l : List Bs) (s7 : Value) (wr : World) : Prop := ∃ k : Nat, k ≤ l.length ∧ s7 = .int .i64 k ∧ (∀ j, j < k → okAt l j) ∧ Ext w wr
def Named (l : List Bs) : Prop := (∀ j, j < l.length → okAt l j) ∧ l.length ≤ 500
def NamedPost (w : World) (l : List Bs) (e : Ending) (w' : World) : Prop := ∃ r : Bool, e = .returned (.bool r) ∧ (r = true ↔ Named l) ∧ Ext w w'
set_option maxHeartbeats 3200000 in
theorem named_any (v : Value) (l : List Bs) (w : World) (hG : GL w) (h : NmS w v l) (hl : l.length ≤ 1000000) (hs : ∀ s ∈ l, s.length ≤ 1000000) :
    Calls Tryz.prog 56 #[v] w fun e w' => NamedPost w l e w' := by
  obtain ⟨a, c, rfl, _, hm, _, hop⟩ := Sl.open h.1
  have hop' : 0 < l.length → ∃ g off, a = some ⟨g, off, none⟩ ∧ ∀ k (hk : k < l.length), w.cell? ⟨g, off + k, none⟩ = some (encStr l[k]) := fun h0 => by
    obtain ⟨g, off, e2, _, hc⟩ := hop h0
    exact ⟨g, off, e2, fun k hk => hc k _ (by rw [List.getElem?_map, List.getElem?_eq_getElem hk]; rfl)⟩
  have HOP := Lib.hid hop'
  have HG := Lib.hid hG
  have HS := Lib.hid hs
  clear hop hop' hG hs h
  go_enter Tryz.func56, Tryz.ntmps56
  go_wp2_with (fail)
  go_loopw [7] (fun s7 wr => NamedLoop w l s7 wr) (fun s7 _ => l.length - (intOf s7).toNat)
  case atStart => exact ⟨0, Nat.zero_le _, rfl, fun j hj => by omega, Kp.refl _ _⟩
  case round =>
    obtain ⟨k, hk, rfl, hok, hxr⟩ := hrel
    have HOK := Lib.hid hok
    have HX := Lib.hid hxr
    clear hok hxr
    by_cases hlt : k < l.length
    · obtain ⟨g, off, rfl, hcl⟩ := HOP.out (by omega)
      have hc := HX.out.cell (hcl k hlt) (fun f => f)
      have hsk := HS.out _ (List.getElem_mem hlt)
      have HOKK : Hid (okAt l k ↔ topL (47 :: l[k]) = l[k] ∧ l[k] ≠ [] ∧ ∀ _ : 0 < k, l[k - 1] < l[k]) := ⟨fun ⟨_, h⟩ => h, fun h => ⟨hlt, h⟩⟩
      have hprev : Hid (0 < k → wr.cell? ⟨g, off + (k - 1), none⟩ = some (encStr (l[k - 1]'(by omega)))) := fun _ => HX.out.cell (hcl (k - 1) (by omega)) (fun f => f)
      obtain ⟨s, hs⟩ : ∃ s, l[k] = s := ⟨_, rfl⟩
      rw [hs] at hc hsk HOKK
      obtain ⟨p, hp⟩ : ∃ p : ByteArray, ⟨s.toArray⟩ = p := ⟨_, rfl⟩
      have hpl : p.toList = s := by rw [← hp, Lib.toList_data]
      have hps : p.size = s.length := by rw [← hp, Lib.size_eq]
      have hadd : ∀ wx, (Op.stringOp .add ⟨#[47]⟩ p).run Tryz.prog wx = .ok (.string ⟨(47 :: s).toArray⟩) wx := fun wx => by
        rw [run_string_add_sum (P := Tryz.prog) wx _ _ (by have : (⟨#[47]⟩ : ByteArray).size = 1 := rfl; omega)]
        conv => lhs; rw [← bytes_self p]
        rw [show (⟨#[47]⟩ : ByteArray) = ⟨[47].toArray⟩ from rfl, bytes_append, ← hp]
        simp
      unfold encStr at hc
      rw [hp] at hc
      have HTOP := Lib.hid (pathTop_any ⟨(47 :: s).toArray⟩ wr (HG.out.ext HX.out) (by rw [Lib.size_eq]; unfold maxLen; simp; omega))
      have htl : (⟨(47 :: s).toArray⟩ : ByteArray).data.toList = 47 :: s := by simp
      rw [htl] at HTOP
      obtain ⟨q, hq⟩ : ∃ q : ByteArray, ⟨(topL (47 :: s)).toArray⟩ = q := ⟨_, rfl⟩
      have hql : q.toList = topL (47 :: s) := by rw [← hq, Lib.toList_data]
      rw [hq] at HTOP
      have HPQ := Lib.hid (And.intro hpl hql)
      clear hq hp hpl hql htl hps hcl
      go_wp2_with (fail)
      refine HTOP.out.mono ?_
      rintro e w2 ⟨rfl, hx2⟩
      have HX2 := Lib.hid (HX.out.trans hx2)
      have HNO : Hid (¬ (topL (47 :: s) = s ∧ s ≠ [] ∧ ∀ _ : 0 < k, l[k - 1] < s) → ¬ Named l) := fun h hn => h (HOKK.out.1 (hn.1 k hlt))
      by_cases h1 : topL (47 :: s) = s
      · have e1 : (q.toList == p.toList) = true := by rw [HPQ.out.1, HPQ.out.2, h1]; simp
        by_cases h2 : s = []
        · have e2 : (p.toList == []) = true := by rw [HPQ.out.1, h2]; rfl
          clear hx2
          go_wp2_with (fail)
          go_ret
          exact ⟨false, rfl, ⟨fun h => (by cases h), fun h => absurd h (HNO.out (fun h => h.2.1 h2))⟩, HX2.out⟩
        · have e2 : (p.toList == []) = false := by rw [HPQ.out.1]; simpa using h2
          by_cases k0 : k = 0
          · subst k0
            clear hx2
            go_wp2_with (fail)
            go_light
            exact ⟨⟨1, by omega, by go_num, fun j hj => by obtain rfl : j = 0 := by omega
                                                           exact HOKK.out.2 ⟨h1, h2, fun h => absurd h (by omega)⟩, HX2.out⟩, by simp [intOf]; omega⟩
          · have hk0 : (0 : Int) < (k : Int) := by omega
            have hpc := (hprev.out (by omega))
            have hpc := Kp.cell hx2 hpc (fun f => f)
            have hkk : ((k : Int) - 1) = ((k - 1 : Nat) : Int) := by omega
            obtain ⟨y, hy⟩ : ∃ y, l[k - 1] = y := ⟨_, rfl⟩
            rw [hy] at hpc
            have HY := Lib.hid hy
            obtain ⟨z, hz⟩ : ∃ z : ByteArray, ⟨y.toArray⟩ = z := ⟨_, rfl⟩
            have hzl : z.toList = y := by rw [← hz, Lib.toList_data]
            unfold encStr at hpc
            rw [hz] at hpc
            by_cases h3 : y < s
            · have l1 : Op.bytesLess z.toList p.toList = true := by rw [HPQ.out.1, hzl, lessB, decide_eq_true_eq]; exact h3
              clear hx2 hy hz hzl
              go_wp2_with (fail)
              go_light
              exact ⟨⟨k + 1, by omega, by go_num, fun j hj => by
                by_cases hjk : j = k
                · subst hjk
                  exact HOKK.out.2 ⟨h1, h2, fun _ => by rw [HY.out]; exact h3⟩
                · exact HOK.out j (by omega), HX2.out⟩, by simp [intOf]; omega⟩
            · have l1 : Op.bytesLess z.toList p.toList = false := by rw [HPQ.out.1, hzl, lessB, decide_eq_false_iff_not]; exact h3
              clear hx2 hy hz hzl
              go_wp2_with (fail)
              go_ret
              exact ⟨false, rfl, ⟨fun h => (by cases h), fun h => absurd h (HNO.out (fun h => h3 (by have := h.2.2 (by omega); rw [HY.out] at this; exact this)))⟩, HX2.out⟩
      · have e1 : (q.toList == p.toList) = false := by rw [HPQ.out.1, HPQ.out.2]; simpa using h1
        clear hx2
        go_wp2_with (fail)
        go_ret
        exact ⟨false, rfl, ⟨fun h => (by cases h), fun h => absurd h (HNO.out (fun h => h1 h.1))⟩, HX2.out⟩
    · have hk2 : k = l.length := by omega
      subst hk2
      by_cases h5 : l.length ≤ 500
      · have h5' : (l.length : Int) ≤ 500 := by omega
        go_wp2_with (fail)
        go_ret
        exact ⟨true, ret_bool (by simp; try omega), ⟨fun _ => ⟨HOK.out, h5⟩, fun _ => rfl⟩, HX.out⟩
      · have h5' : ¬ (l.length : Int) ≤ 500 := by omega
        go_wp2_with (fail)
        go_ret
        exact ⟨false, ret_bool (by simp; try omega), ⟨fun h => (by cases h), fun h => absurd h.2 h5⟩, HX.out⟩
end Go.Proofs.YtdagikbdpeblhaaGreatDoor
