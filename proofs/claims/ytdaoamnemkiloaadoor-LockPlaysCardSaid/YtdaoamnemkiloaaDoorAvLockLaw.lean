/- Laws of chapter 17 over lists of pairs. No program. -/
import Derived.Test.YtdaoamnemkiloaaDoorAvLock
namespace Av
set_option maxRecDepth 100000
/-! Laws of the lists. -/
theorem takeAll_who (who : Int) : ∀ (ps : List ByteArray) (st : List (ByteArray × Int)), (∀ e ∈ st, e.2 = who) → ∀ e ∈ takeAll st who ps, e.2 = who := by
  have hset : ∀ (st : List (ByteArray × Int)) (p : ByteArray), (∀ e ∈ st, e.2 = who) → ∀ e ∈ mset st p who, e.2 = who := by
    intro st p
    induction st with
    | nil => intro _ e he; simp [mset] at he; rw [he]
    | cons a r ih =>
      intro h e he
      unfold mset at he
      split at he
      · rcases List.mem_cons.1 he with rfl | he
        · rfl
        · exact h e (List.mem_cons_of_mem _ he)
      · rcases List.mem_cons.1 he with rfl | he
        · exact h e List.mem_cons_self
        · exact ih (fun e he => h e (List.mem_cons_of_mem _ he)) e he
  intro ps
  induction ps with
  | nil => intro st h; exact h
  | cons p ps ih => intro st h; exact ih _ (hset st p h)
theorem mset_beyond {α : Type} {st r : List (ByteArray × α)} {p : ByteArray} {x : α} (h : p ∉ st.map (·.1)) : mset (st ++ r) p x = st ++ mset r p x := by
  induction st with
  | nil => rfl
  | cons a st ih =>
    simp only [List.map_cons, List.mem_cons, not_or] at h
    simp only [List.cons_append, mset, h.1, if_false, ih h.2]
theorem takeAll_beyond (who : Int) : ∀ (ps : List ByteArray) (st r : List (ByteArray × Int)), (∀ p ∈ ps, p ∉ st.map (·.1)) → takeAll (st ++ r) who ps = st ++ takeAll r who ps := by
  intro ps
  induction ps with
  | nil => intro st r _; rfl
  | cons p ps ih =>
    intro st r h
    show takeAll (mset (st ++ r) p who) who ps = st ++ takeAll (mset r p who) who ps
    rw [mset_beyond (h p List.mem_cons_self)]
    exact ih st _ (fun q hq => h q (List.mem_cons_of_mem _ hq))
theorem takeAll_keys (who : Int) : ∀ (ps : List ByteArray) (st : List (ByteArray × Int)), ∀ x ∈ (takeAll st who ps).map (·.1), x ∈ st.map (·.1) ∨ x ∈ ps := by
  intro ps
  induction ps with
  | nil => intro st x hx; exact .inl hx
  | cons p ps ih =>
    intro st x hx
    rcases ih (mset st p who) x hx with h | h
    · rw [mset_keys] at h
      split at h
      · exact .inl h
      · rcases List.mem_append.1 h with h | h
        · exact .inl h
        · simp at h; subst h; exact .inr List.mem_cons_self
    · exact .inr (List.mem_cons_of_mem _ h)
/-- A path that blocks another one has its first name. -/
theorem blk_top (who : Int) (p : ByteArray) (e : ByteArray × Int) (_hp : goodB p = true) (hq : goodB e.1 = true) (h : blk who p e = true) : topL e.1.data.toList = topL p.data.toList := by
  unfold blk at h
  simp only [Bool.and_eq_true, Bool.or_eq_true, decide_eq_true_eq] at h
  obtain ⟨_, h | h | ⟨h1, h⟩⟩ := h
  · rw [h]
  · cases hu : upB p with
    | none =>
      rw [hu] at h
      rw [h] at hq
      simp [goodB, optS, goodL] at hq
    | some q =>
      rw [hu] at h
      rw [h]
      show topL q = _
      exact (top_parent _ _ hu).1
  · cases hu : upB e.1 with
    | none => rw [hu] at h1; simp at h1
    | some q =>
      rw [hu] at h
      rw [← h]
      show _ = topL q
      exact (top_parent _ _ hu).1.symm
theorem wrong_none {st : List (ByteArray × Int)} {who : Int} {ps : List ByteArray} (h1 : ∀ p ∈ ps, goodB p = true) (h2 : ∀ p ∈ ps, blocksL st who p = false) : wrongL st who ps = none := by
  unfold wrongL
  have e1 : ps.find? (fun p => !goodB p) = none := by rw [List.find?_eq_none]; intro x hx; simp [h1 x hx]
  have e2 : ps.find? (fun p => blocksL st who p) = none := by rw [List.find?_eq_none]; intro x hx; simp [h2 x hx]
  rw [e1, e2]
theorem takeL_who (who : Int) (ps : List ByteArray) : ∀ e ∈ takeL [] who ps, e.2 = who := by
  unfold takeL
  split
  · simp
  · exact takeAll_who who ps [] (by simp)
/-- LockFar, in plain words. -/
theorem far_law (a b : List ByteArray) (h : ∀ x ∈ a, ∀ y ∈ b, goodB x = true ∧ goodB y = true ∧ topL x.data.toList ≠ topL y.data.toList) :
    (a ≠ [] → b ≠ [] → wrongL [] 1 a = none ∧ wrongL (takeL [] 1 a) 2 b = none) ∧ ∃ r, takeL (takeL [] 1 a) 2 b = takeL [] 1 a ++ r ∧ ∀ e ∈ r, e.2 = 2 := by
  by_cases hb : b = []
  · subst hb
    exact ⟨fun _ h => absurd rfl h, [], by simp [takeL, takeAll, wrongL], by simp⟩
  · by_cases ha : a = []
    · subst ha
      have : takeL [] 1 [] = [] := by simp [takeL, takeAll, wrongL]
      rw [this]
      exact ⟨fun h => absurd rfl h, takeL [] 2 b, by simp, takeL_who 2 b⟩
    · obtain ⟨x0, hx0⟩ := List.exists_mem_of_ne_nil _ ha
      obtain ⟨y0, hy0⟩ := List.exists_mem_of_ne_nil _ hb
      have ga : ∀ x ∈ a, goodB x = true := fun x hx => (h x hx y0 hy0).1
      have gb : ∀ y ∈ b, goodB y = true := fun y hy => (h x0 hx0 y hy).2.1
      have w1 : wrongL [] 1 a = none := wrong_none ga (fun p _ => by simp [blocksL])
      have t1 : takeL [] 1 a = takeAll [] 1 a := by simp [takeL, w1]
      have hk : ∀ x ∈ (takeL [] 1 a).map (·.1), x ∈ a := by
        intro x hx
        rw [t1] at hx
        rcases takeAll_keys 1 a [] x hx with h | h
        · simp at h
        · exact h
      have w2 : wrongL (takeL [] 1 a) 2 b = none := by
        refine wrong_none gb (fun p hp => ?_)
        unfold blocksL
        rw [gb p hp, Bool.true_and, List.any_eq_false]
        intro e he hbl
        have hea := hk e.1 (List.mem_map_of_mem he)
        exact (h e.1 hea p hp).2.2 (blk_top 2 p e (gb p hp) (ga _ hea) hbl)
      refine ⟨fun _ _ => ⟨w1, w2⟩, takeAll [] 2 b, ?_, takeAll_who 2 b [] (by simp)⟩
      have t2 : ∀ st, wrongL st 2 b = none → takeL st 2 b = takeAll st 2 b := fun st h => by simp [takeL, h]
      rw [t2 _ w2]
      have := takeAll_beyond 2 b (takeL [] 1 a) [] (fun p hp hin => (h p (hk p hin) p hp).2.2 rfl)
      rwa [List.append_nil] at this
theorem mset_len {α : Type} (st : List (ByteArray × α)) (p : ByteArray) (x : α) : (mset st p x).length ≤ st.length + 1 := by
  induction st with
  | nil => simp [mset]
  | cons e r ih => unfold mset; split <;> simp <;> omega
theorem takeAll_len (who : Int) : ∀ (ps : List ByteArray) (st : List (ByteArray × Int)), (takeAll st who ps).length ≤ st.length + ps.length
  | [], st => by simp [takeAll]
  | p :: ps, st => by
    have h1 := takeAll_len who ps (mset st p who)
    have h2 := mset_len st p who
    unfold takeAll at *
    simp only [List.foldl_cons, List.length_cons]
    omega
theorem takeL_len (st : List (ByteArray × Int)) (who : Int) (ps : List ByteArray) : (takeL st who ps).length ≤ st.length + ps.length := by
  unfold takeL
  split
  · omega
  · exact takeAll_len who ps st
theorem free_all {st : List (ByteArray × Int)} {who : Int} (h : ∀ e ∈ st, e.2 = who) : freeL st who = [] := by
  unfold freeL
  rw [List.filter_eq_nil_iff]
  intro e he
  simp [h e he]
theorem free_none {st : List (ByteArray × Int)} {who : Int} (h : ∀ e ∈ st, e.2 ≠ who) : freeL st who = st := by
  unfold freeL
  rw [List.filter_eq_self]
  intro e he
  simp [h e he]
theorem free_app (a b : List (ByteArray × Int)) (who : Int) : freeL (a ++ b) who = freeL a who ++ freeL b who := by simp [freeL]
end Av
