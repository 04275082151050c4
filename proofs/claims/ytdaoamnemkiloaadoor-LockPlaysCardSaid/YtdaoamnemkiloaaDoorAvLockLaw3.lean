/- The invariant of chapter 17's locks. No program. -/
import Derived.Test.YtdaoamnemkiloaaDoorAvLockLaw2
namespace Av
set_option maxRecDepth 100000
/-- What the locks keep: each path held once, all good, no two of unlike owners in each other's way. -/
structure Apart (st : Lk) : Prop where
  nodup : (st.map (·.1)).Nodup
  good : ∀ e ∈ st, goodB e.1 = true
  free : ∀ e ∈ st, ∀ f ∈ st, blk e.2 e.1 f = false
theorem Apart.nil : Apart [] := ⟨List.nodup_nil, by simp, by simp⟩
theorem good_ne (p : ByteArray) (h : goodB p = true) : p ≠ ⟨#[]⟩ := by
  rintro rfl
  have := good_len _ h
  simp at this
theorem optS_none (o : Option Bs) (p : ByteArray) (hp : goodB p = true) (h : p = optS o) : o.isSome = true := by
  cases o with
  | none => exact absurd h (good_ne p hp)
  | some _ => rfl
/-- What is in nobody's way from one side is so from the other. -/
theorem blk_back {who x : Int} {p q : ByteArray} (hp : goodB p = true) (h : blk who p (q, x) = false) : blk x q (p, who) = false := by
  unfold blk at *
  by_cases e : x = who
  · simp [e]
  · have e' : who ≠ x := fun h => e h.symm
    simp only [ne_eq, e, not_false_eq_true, decide_true, Bool.true_and, Bool.or_eq_false_iff, decide_eq_false_iff_not, Bool.and_eq_false_iff] at h
    simp only [ne_eq, e', not_false_eq_true, decide_true, Bool.true_and, Bool.or_eq_false_iff, decide_eq_false_iff_not, Bool.and_eq_false_iff]
    obtain ⟨h1, h2, h3⟩ := h
    refine ⟨fun e => h1 e.symm, fun e => ?_, ?_⟩
    · have hs := optS_none _ _ hp e
      rcases h3 with h3 | h3
      · rw [hs] at h3; cases h3
      · exact h3 e.symm
    · exact .inr (fun e => h2 e.symm)
theorem takeAll_nodup (who : Int) : ∀ (ps : List ByteArray) (st : Lk), (st.map (·.1)).Nodup → ((takeAll st who ps).map (·.1)).Nodup
  | [], _, h => h
  | p :: ps, st, h => takeAll_nodup who ps (mset st p who) (mset_nodup h p who)
theorem Apart.take {st : Lk} (h : Apart st) (who : Int) (ps : List ByteArray) : Apart (takeL st who ps) := by
  cases hw : wrongL st who ps with
  | some x => have : takeL st who ps = st := by simp [takeL, hw]
              rw [this]; exact h
  | none =>
    have ht : takeL st who ps = takeAll st who ps := by simp [takeL, hw]
    rw [ht]
    obtain ⟨hg, hb⟩ := wrong_good hw
    refine ⟨takeAll_nodup who ps st h.nodup, fun e he => ?_, fun e he f hf => ?_⟩
    · rcases mem_takeAll who ps st e he with h1 | h1
      · exact h.good e h1
      · exact hg _ h1.2
    · obtain ⟨p, x⟩ := e
      obtain ⟨q, y⟩ := f
      rcases mem_takeAll who ps st _ he with h1 | ⟨h1, h1'⟩ <;> rcases mem_takeAll who ps st _ hf with h2 | ⟨h2, h2'⟩
      · exact h.free _ h1 _ h2
      · obtain rfl : y = who := h2
        exact blk_back (hg _ h2') (blk_false (hg _ h2') (hb _ h2') _ h1)
      · obtain rfl : x = who := h1
        exact blk_false (hg _ h1') (hb _ h1') _ h2
      · obtain rfl : x = who := h1
        obtain rfl : y = x := h2
        exact blk_same _ _ _
theorem Apart.leave {st : Lk} (h : Apart st) (who : Int) : Apart (freeL st who) := by
  have hs : ∀ e ∈ freeL st who, e ∈ st := fun e he => (List.mem_filter.1 he).1
  exact ⟨List.Nodup.sublist ((List.filter_sublist).map _) h.nodup, fun e he => h.good e (hs e he), fun e he f hf => h.free e (hs e he) f (hs f hf)⟩
/-- LockApart, in plain words: of a path that is held. -/
theorem apart_law {st : Lk} (h : Apart st) {p : ByteArray} {a : Int} (hp : mget st p = some a) :
    blocksL st a p = false ∧ (∀ x : Int, x ≠ a → blocksL st x p = true) ∧ ∀ b, (upB p).isSome = true → mget st (optS (upB p)) = some b → a = b := by
  have hm := mget_mem hp
  have hg := h.good _ hm
  refine ⟨?_, fun x hx => ?_, fun b hs hb => ?_⟩
  · unfold blocksL
    rw [hg, Bool.true_and, List.any_eq_false]
    intro f hf
    rw [h.free _ hm f hf]; decide
  · unfold blocksL
    rw [hg, Bool.true_and, List.any_eq_true]
    exact ⟨_, hm, by simp [blk]; exact fun e => hx e.symm⟩
  · have hm2 := mget_mem hb
    have := h.free _ hm _ hm2
    unfold blk at this
    by_cases e : a = b
    · exact e
    · have e' : b ≠ a := fun h => e h.symm
      simp [e'] at this
/-- Taking what one holds already changes nothing; what nobody holds comes behind. -/
theorem mset_same {st : Lk} {p : ByteArray} {x : Int} (h : mget st p = some x) : mset st p x = st := by
  induction st with
  | nil => simp [mget] at h
  | cons e r ih =>
    unfold mget at h
    unfold mset
    split
    · rename_i he
      rw [if_pos he] at h
      obtain ⟨q, y⟩ := e
      simp at he h
      rw [he, h]
    · rename_i he
      rw [if_neg he] at h
      rw [ih h]
theorem mset_new {st : Lk} {p : ByteArray} {x : Int} (h : mget st p = none) : mset st p x = st ++ [(p, x)] := by
  induction st with
  | nil => rfl
  | cons e r ih =>
    unfold mget at h
    unfold mset
    split
    · rename_i he; rw [if_pos he] at h; cases h
    · rename_i he; rw [if_neg he] at h; rw [ih h]; rfl
/-- A path that is not blocked is nobody's or one's own. -/
theorem mget_unblocked {st : Lk} {who : Int} {p : ByteArray} (hg : goodB p = true) (h : blocksL st who p = false) {x : Int} (hx : mget st p = some x) : x = who := by
  have := blk_false hg h _ (mget_mem hx)
  unfold blk at this
  by_cases e : x = who
  · exact e
  · simp [e] at this
end Av
