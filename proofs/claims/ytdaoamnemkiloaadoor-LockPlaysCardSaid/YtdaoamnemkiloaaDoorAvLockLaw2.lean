/- More laws of chapter 17 over lists of pairs. No program. -/
import Derived.Test.YtdaoamnemkiloaaDoorAvLockLaw
namespace Av
set_option maxRecDepth 100000
abbrev Lk := List (ByteArray × Int)
theorem mem_mset {st : Lk} {p : ByteArray} {x : Int} : ∀ e ∈ mset st p x, e ∈ st ∨ e = (p, x) := by
  induction st with
  | nil => intro e he; simp [mset] at he; exact .inr he
  | cons a r ih =>
    intro e he
    unfold mset at he
    split at he
    · rcases List.mem_cons.1 he with rfl | he
      · exact .inr rfl
      · exact .inl (List.mem_cons_of_mem _ he)
    · rcases List.mem_cons.1 he with rfl | he
      · exact .inl List.mem_cons_self
      · rcases ih e he with h | h
        · exact .inl (List.mem_cons_of_mem _ h)
        · exact .inr h
theorem mem_takeAll (who : Int) : ∀ (ps : List ByteArray) (st : Lk), ∀ e ∈ takeAll st who ps, e ∈ st ∨ (e.2 = who ∧ e.1 ∈ ps)
  | [], st, e, he => .inl he
  | p :: ps, st, e, he => by
    rcases mem_takeAll who ps (mset st p who) e he with h | h
    · rcases mem_mset e h with h | rfl
      · exact .inl h
      · exact .inr ⟨rfl, List.mem_cons_self⟩
    · exact .inr ⟨h.1, List.mem_cons_of_mem _ h.2⟩
theorem mget_takeAll (who : Int) (p : ByteArray) : ∀ (ps : List ByteArray) (st : Lk), (p ∈ ps ∨ mget st p = some who) → mget (takeAll st who ps) p = some who
  | [], st, h => by
    rcases h with h | h
    · simp at h
    · exact h
  | q :: ps, st, h => by
    refine mget_takeAll who p ps (mset st q who) ?_
    by_cases hm : p ∈ ps
    · exact .inl hm
    · right
      rw [mget_mset]
      by_cases e : p = q
      · rw [if_pos e]
      · rw [if_neg e]
        rcases h with h | h
        · rcases List.mem_cons.1 h with h | h
          · exact absurd h e
          · exact absurd h hm
        · exact h
theorem wrong_good {st : Lk} {who : Int} {ps : List ByteArray} (h : wrongL st who ps = none) : (∀ p ∈ ps, goodB p = true) ∧ ∀ p ∈ ps, blocksL st who p = false := by
  unfold wrongL at h
  cases h1 : ps.find? (fun p => !goodB p) with
  | some q => rw [h1] at h; simp at h
  | none =>
    rw [h1] at h
    simp only at h
    exact ⟨fun p hp => by simpa using List.find?_eq_none.1 h1 p hp, fun p hp => by simpa using List.find?_eq_none.1 h p hp⟩
theorem blk_false {st : Lk} {who : Int} {p : ByteArray} (hg : goodB p = true) (h : blocksL st who p = false) : ∀ e ∈ st, blk who p e = false := by
  intro e he
  unfold blocksL at h
  rw [hg, Bool.true_and, List.any_eq_false] at h
  simpa using h e he
theorem blk_same (who : Int) (p q : ByteArray) : blk who p (q, who) = false := by simp [blk]
/-- LockFrees, in plain words. -/
theorem frees_law (st : Lk) (who : Int) (ps : List ByteArray) (h : wrongL (freeL st who) who ps = none) :
    ∀ p ∈ ps, mget (takeL (freeL st who) who ps) p = some who ∧ blocksL (takeL (freeL st who) who ps) who p = false := by
  intro p hp
  obtain ⟨hg, hb⟩ := wrong_good h
  have ht : takeL (freeL st who) who ps = takeAll (freeL st who) who ps := by simp [takeL, h]
  rw [ht]
  refine ⟨mget_takeAll who p ps _ (.inl hp), ?_⟩
  unfold blocksL
  rw [hg p hp, Bool.true_and, List.any_eq_false]
  intro e he
  rcases mem_takeAll who ps _ e he with h1 | h1
  · rw [blk_false (hg p hp) (hb p hp) e h1]; decide
  · obtain ⟨q, x⟩ := e
    obtain rfl : x = who := h1.1
    rw [blk_same]; decide
theorem free_free (st : Lk) (who : Int) : freeL (freeL st who) who = freeL st who := by
  unfold freeL
  rw [List.filter_filter]
  simp
theorem wrong_ne {st : Lk} {who : Int} {ps : List ByteArray} {x : ByteArray} (h : wrongL st who ps = some x) : ps.length > 0 := by
  cases ps with
  | nil => simp [wrongL] at h
  | cons _ _ => simp
theorem foldl_len {α : Type} (f : Lk → α → Lk) (g : α → Nat) (hf : ∀ s a, (f s a).length ≤ s.length + g a) : ∀ (l : List α) (s : Lk) (k : Nat), (∀ a ∈ l, g a ≤ k) → (l.foldl f s).length ≤ s.length + k * l.length
  | [], s, k, _ => by simp
  | a :: l, s, k, h => by
    have h1 := foldl_len f g hf l (f s a) k (fun b hb => h b (List.mem_cons_of_mem _ hb))
    have h2 := hf s a
    have h3 := h a List.mem_cons_self
    simp only [List.foldl_cons, List.length_cons, Nat.mul_add, Nat.mul_one]
    omega
end Av
