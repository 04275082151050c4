/- Texts put together: AvTopsLaw, AvRows, AvRowB. -/
import Derived.Test.YtjapjpigpakejaaGreatDoorAvG4
import Derived.Lib.SlicesCompact
import Derived.Test.YtjapjpigpakejaaGreatDoorAvG2
import Derived.Laws.IdiomCopy
import Derived.Lib.SliceRun

/- First names, rising, each once: plain laws. No program. -/
namespace Av
set_option maxRecDepth 100000
open Go
/-- Strictly rising. -/
abbrev Rising (l : List Bs) : Prop := l.Pairwise (· < ·)
theorem rising_ext : ∀ {a b : List Bs}, Rising a → Rising b → (∀ x, x ∈ a ↔ x ∈ b) → a = b
  | [], [], _, _, _ => rfl
  | [], y :: b, _, _, h => absurd ((h y).2 (by simp)) (by simp)
  | x :: a, [], _, _, h => absurd ((h x).1 (by simp)) (by simp)
  | x :: a, y :: b, ha, hb, h => by
    obtain ⟨hx, ha'⟩ := List.pairwise_cons.1 ha
    obtain ⟨hy, hb'⟩ := List.pairwise_cons.1 hb
    have hxy : x = y := by
      rcases List.mem_cons.1 ((h x).1 (by simp)) with e | e
      · exact e
      · rcases List.mem_cons.1 ((h y).2 (by simp)) with e2 | e2
        · exact e2.symm
        · exact absurd (List.lt_trans (hx y e2) (hy x e)) (List.lt_irrefl x)
    subst hxy
    rw [rising_ext ha' hb' (fun z => ?_)]
    constructor
    · intro hz
      rcases List.mem_cons.1 ((h z).1 (by simp [hz])) with e | e
      · exact absurd (hx z hz) (by rw [e]; exact List.lt_irrefl x)
      · exact e
    · intro hz
      rcases List.mem_cons.1 ((h z).2 (by simp [hz])) with e | e
      · exact absurd (hy z hz) (by rw [e]; exact List.lt_irrefl x)
      · exact e
/-- How many of a list are less than a name, from its head on. -/
def lessN (s : Bs) : List Bs → Nat
  | [] => 0
  | t :: r => if t < s then lessN s r + 1 else 0
theorem lessN_yes {s t : Bs} {r : List Bs} (h : t < s) : lessN s (t :: r) = lessN s r + 1 := if_pos h
theorem lessN_no {s t : Bs} {r : List Bs} (h : ¬ t < s) : lessN s (t :: r) = 0 := if_neg h
theorem lessN_le (s : Bs) : ∀ (l : List Bs), lessN s l ≤ l.length
  | [] => Nat.le_refl _
  | t :: r => by unfold lessN; split <;> simp [lessN_le s r]
theorem lessN_take (s : Bs) : ∀ (l : List Bs), ∀ x ∈ l.take (lessN s l), x < s
  | [], x, h => by simp at h
  | t :: r, x, h => by
    unfold lessN at h
    split at h
    · rename_i ht
      rw [List.take_succ_cons] at h
      rcases List.mem_cons.1 h with e | e
      · subst e; exact ht
      · exact lessN_take s r x e
    · simp at h
theorem lessN_at (s : Bs) : ∀ (l : List Bs) (k : Nat) (hk : k < l.length), (∀ x ∈ l.take k, x < s) → ¬ l[k] < s → lessN s l = k
  | [], k, hk, _, _ => by simp at hk
  | t :: r, 0, _, _, h => by unfold lessN; rw [if_neg (by simpa using h)]
  | t :: r, k + 1, hk, h1, h2 => by
    unfold lessN
    rw [if_pos (h1 t (by simp)), lessN_at s r k (by simpa using hk) (fun x hx => h1 x (by simp [hx])) (by simpa using h2)]
theorem lessN_all (s : Bs) : ∀ (l : List Bs), (∀ x ∈ l, x < s) → lessN s l = l.length
  | [], _ => rfl
  | t :: r, h => by
    unfold lessN
    rw [if_pos (h t (by simp)), lessN_all s r (fun x hx => h x (by simp [hx]))]; rfl
theorem lessN_get (s : Bs) : ∀ (l : List Bs) (h : lessN s l < l.length), ¬ l[lessN s l] < s
  | [], h => by simp at h
  | t :: r, h => by
    by_cases ht : t < s
    · have e : lessN s (t :: r) = lessN s r + 1 := lessN_yes ht
      have h2 : lessN s r < r.length := by rw [e] at h; simpa using h
      have := lessN_get s r h2
      simpa [e] using this
    · have e : lessN s (t :: r) = 0 := lessN_no ht
      simpa [e] using ht
/-- One name more. -/
def topIns (t : List Bs) (s : Bs) : List Bs := if s = [] then t else if t[lessN s t]? = some s then t else t.take (lessN s t) ++ s :: t.drop (lessN s t)
theorem lt_of_not {a b : Bs} (h : ¬ a < b) (hne : a ≠ b) : b < a := by
  by_cases h2 : b < a
  · exact h2
  · exact absurd (List.le_antisymm (show a ≤ b from h2) (show b ≤ a from h)) hne
theorem topIns_ok {t : List Bs} {s : Bs} (ht : Rising t) : Rising (topIns t s) ∧ ∀ x, x ∈ topIns t s ↔ x ∈ t ∨ (x = s ∧ s ≠ []) := by
  unfold topIns
  split
  · rename_i h; exact ⟨ht, fun x => by simp [h]⟩
  · rename_i h
    split
    · rename_i h2
      refine ⟨ht, fun x => ⟨fun hx => .inl hx, fun hx => ?_⟩⟩
      rcases hx with hx | ⟨rfl, _⟩
      · exact hx
      · exact List.mem_of_getElem? h2
    · rename_i h2
      have hl := lessN_take s t
      have hsplit : t.take (lessN s t) ++ t.drop (lessN s t) = t := List.take_append_drop _ _
      have hr : ∀ x ∈ t.drop (lessN s t), s < x := by
        by_cases hlt : lessN s t < t.length
        · have hg := lessN_get s t hlt
          have hne : t[lessN s t] ≠ s := fun e => h2 (by rw [List.getElem?_eq_getElem hlt, e])
          have h3 := lt_of_not hg hne
          have hd : t.drop (lessN s t) = t[lessN s t] :: t.drop (lessN s t + 1) := List.drop_eq_getElem_cons hlt
          have hp : Rising (t.drop (lessN s t)) := ht.sublist (List.drop_sublist _ _)
          rw [hd] at hp ⊢
          intro x hx
          rcases List.mem_cons.1 hx with e | e
          · rw [e]; exact h3
          · exact List.lt_trans h3 ((List.pairwise_cons.1 hp).1 x e)
        · rw [List.drop_of_length_le (by omega)]; simp
      refine ⟨?_, fun x => ?_⟩
      · have h1 : Rising (t.take (lessN s t)) := ht.sublist (List.take_sublist _ _)
        have h3 : Rising (t.drop (lessN s t)) := ht.sublist (List.drop_sublist _ _)
        refine List.pairwise_append.2 ⟨h1, List.pairwise_cons.2 ⟨hr, h3⟩, fun a ha b hb => ?_⟩
        rcases List.mem_cons.1 hb with e | e
        · rw [e]; exact hl a ha
        · exact List.lt_trans (hl a ha) (hr b e)
      · constructor
        · intro hx
          rcases List.mem_append.1 hx with hx | hx
          · exact .inl (by rw [← hsplit]; exact List.mem_append_left _ hx)
          · rcases List.mem_cons.1 hx with e | e
            · exact .inr ⟨e, h⟩
            · exact .inl (by rw [← hsplit]; exact List.mem_append_right _ e)
        · intro hx
          rcases hx with hx | ⟨rfl, _⟩
          · rw [← hsplit] at hx
            rcases List.mem_append.1 hx with hx | hx
            · exact List.mem_append_left _ hx
            · exact List.mem_append_right _ (List.mem_cons_of_mem _ hx)
          · exact List.mem_append_right _ (by simp)
/-- The names, rising, each once. -/
def topsOf (l : List Bs) : List Bs := l.foldl topIns []
theorem foldl_topIns : ∀ (l t : List Bs), Rising t → Rising (l.foldl topIns t) ∧ ∀ x, x ∈ l.foldl topIns t ↔ x ∈ t ∨ (x ∈ l ∧ x ≠ [])
  | [], t, h => ⟨h, fun x => by simp⟩
  | s :: l, t, h => by
    obtain ⟨h1, h2⟩ := topIns_ok (s := s) h
    obtain ⟨h3, h4⟩ := foldl_topIns l (topIns t s) h1
    refine ⟨h3, fun x => ?_⟩
    rw [List.foldl_cons, h4 x, h2 x]
    constructor
    · rintro ((a | ⟨rfl, b⟩) | ⟨a, b⟩)
      · exact .inl a
      · exact .inr ⟨by simp, b⟩
      · exact .inr ⟨by simp [a], b⟩
    · rintro (a | ⟨a, b⟩)
      · exact .inl (.inl a)
      · rcases List.mem_cons.1 a with e | e
        · subst e; exact .inl (.inr ⟨rfl, b⟩)
        · exact .inr ⟨e, b⟩
theorem topsOf_rising (l : List Bs) : Rising (topsOf l) := (foldl_topIns l [] List.Pairwise.nil).1
theorem topsOf_mem (l : List Bs) (x : Bs) : x ∈ topsOf l ↔ x ∈ l ∧ x ≠ [] := by rw [topsOf, (foldl_topIns l [] List.Pairwise.nil).2 x]; simp
/-! What is sorted, and of neighbours that are alike one. -/
theorem compact_sorted (d : Array Bs) (hs : ∀ i j, i ≤ j → j < d.size → d[i]! ≤ d[j]!) : ∀ m, m ≤ d.size →
    Rising (Lib.compactUpTo d m) ∧ (∀ x ∈ Lib.compactUpTo d m, ∃ i, i < m ∧ x = d[i]!) ∧ ∀ i, i < m → d[i]! ∈ Lib.compactUpTo d m
  | 0, _ => ⟨by simp [Lib.compactUpTo], by simp [Lib.compactUpTo], by simp⟩
  | m + 1, hm => by
    obtain ⟨h1, h2, h3⟩ := compact_sorted d hs m (by omega)
    rw [Lib.compactUpTo_succ]
    by_cases hk : Lib.keeps d m = true
    · rw [if_pos hk]
      refine ⟨List.pairwise_append.2 ⟨h1, by simp, fun a ha b hb => ?_⟩, fun x hx => ?_, fun i hi => ?_⟩
      · simp only [List.mem_singleton] at hb
        subst hb
        obtain ⟨i, hi, rfl⟩ := h2 a ha
        have hm0 : m ≠ 0 := by omega
        have hne : d[m]! ≠ d[m - 1]! := by
          have := hk
          simp only [Lib.keeps, decide_eq_true_eq] at this
          exact this.resolve_left hm0
        have h4 := hs i (m - 1) (by omega) (by omega)
        have h5 := hs (m - 1) m (by omega) (by omega)
        have h6 : d[m - 1]! < d[m]! := lt_of_not h5 hne
        by_cases e : d[i]! = d[m - 1]!
        · rw [e]; exact h6
        · exact List.lt_trans (lt_of_not h4 (fun e2 => e e2.symm)) h6
      · rcases List.mem_append.1 hx with hx | hx
        · obtain ⟨i, hi, e⟩ := h2 x hx; exact ⟨i, by omega, e⟩
        · simp only [List.mem_singleton] at hx; exact ⟨m, by omega, hx⟩
      · by_cases him : i < m
        · exact List.mem_append_left _ (h3 i him)
        · obtain rfl : i = m := by omega
          exact List.mem_append_right _ (by simp)
    · rw [if_neg hk, List.append_nil]
      refine ⟨h1, fun x hx => ?_, fun i hi => ?_⟩
      · obtain ⟨i, hi, e⟩ := h2 x hx; exact ⟨i, by omega, e⟩
      · by_cases him : i < m
        · exact h3 i him
        · obtain rfl : i = m := by omega
          simp only [Lib.keeps, decide_eq_true_eq, not_or, Decidable.not_not] at hk
          rw [hk.2]
          exact h3 (i - 1) (by omega)
theorem compact_tops (l : List Bs) (h : ∀ x ∈ l, x ≠ []) : Lib.compact (l.mergeSort fun x y => decide (x ≤ y)) = topsOf l := by
  have hp := List.pairwise_mergeSort (le := fun x y : Bs => decide (x ≤ y)) (fun a b c h1 h2 => by simp only [decide_eq_true_eq] at *; exact List.le_trans h1 h2) (fun a b => by simp only [Bool.or_eq_true, decide_eq_true_eq]; exact List.le_total a b) l
  have hm : ∀ x, x ∈ l.mergeSort (fun x y => decide (x ≤ y)) ↔ x ∈ l := fun x => (List.mergeSort_perm l _).mem_iff
  generalize l.mergeSort (fun x y => decide (x ≤ y)) = z at hp hm
  have hs : ∀ i j, i ≤ j → j < z.toArray.size → z.toArray[i]! ≤ z.toArray[j]! := by
    intro i j hij hj
    have hj' : j < z.length := by simpa using hj
    rw [getElem!_pos z.toArray i (by simp; omega), getElem!_pos z.toArray j (by simpa using hj')]
    simp only [List.getElem_toArray]
    rcases Nat.lt_or_ge i j with h | h
    · have := List.pairwise_iff_getElem.1 hp i j (by omega) hj' h
      simpa using this
    · obtain rfl : i = j := by omega
      exact List.lt_irrefl _
  obtain ⟨h1, h2, h3⟩ := compact_sorted z.toArray hs z.length (by simp)
  refine rising_ext h1 (topsOf_rising l) (fun x => ?_)
  rw [topsOf_mem]
  constructor
  · intro hx
    obtain ⟨i, hi, rfl⟩ := h2 x hx
    rw [getElem!_pos z.toArray i (by simpa using hi)]
    have : z[i] ∈ l := (hm _).1 (List.getElem_mem hi)
    simp only [List.getElem_toArray]
    exact ⟨this, h _ this⟩
  · rintro ⟨hx, _⟩
    obtain ⟨i, hi, rfl⟩ := List.getElem_of_mem ((hm x).2 hx)
    have := h3 i hi
    rwa [getElem!_pos z.toArray i (by simpa using hi), List.getElem_toArray] at this
theorem rising_len : ∀ {b a : List Bs}, Rising a → Rising b → (∀ x ∈ a, x ∈ b) → a.length ≤ b.length
  | [], a, _, _, h => by
    cases a with
    | nil => simp
    | cons x a => exact absurd (h x (by simp)) (by simp)
  | y :: b, [], _, _, _ => by simp
  | y :: b, x :: a, ha, hb, h => by
    obtain ⟨hx, ha'⟩ := List.pairwise_cons.1 ha
    obtain ⟨hy, hb'⟩ := List.pairwise_cons.1 hb
    by_cases e : x = y
    · subst e
      have := rising_len ha' hb' (fun z hz => by
        rcases List.mem_cons.1 (h z (by simp [hz])) with e | e
        · exact absurd (hx z hz) (by rw [e]; exact List.lt_irrefl x)
        · exact e)
      simpa using this
    · have hxb : x ∈ b := (List.mem_cons.1 (h x (by simp))).resolve_left e
      have hyx := hy x hxb
      have := rising_len (a := x :: a) ha hb' (fun z hz => by
        rcases List.mem_cons.1 (h z hz) with e2 | e2
        · subst e2
          rcases List.mem_cons.1 hz with e3 | e3
          · exact absurd e3.symm e
          · exact absurd (List.lt_trans hyx (hx z e3)) (List.lt_irrefl z)
        · exact e2)
      simp only [List.length_cons] at this ⊢
      omega
theorem topsOf_comm (a b : List Bs) : topsOf (a ++ b) = topsOf (b ++ a) :=
  rising_ext (topsOf_rising _) (topsOf_rising _) (fun x => by rw [topsOf_mem, topsOf_mem, List.mem_append, List.mem_append]; exact ⟨fun h => ⟨h.1.symm, h.2⟩, fun h => ⟨h.1.symm, h.2⟩⟩)
theorem topsOf_more (a b : List Bs) : (topsOf a).length ≤ (topsOf (a ++ b)).length :=
  rising_len (topsOf_rising _) (topsOf_rising _) (fun x hx => by rw [topsOf_mem] at hx ⊢; exact ⟨List.mem_append_left _ hx.1, hx.2⟩)
theorem rising_at {l : List Bs} (h : Rising l) {i : Nat} (hi : i + 1 < l.length) : l[i] < l[i + 1] := List.pairwise_iff_getElem.1 h i (i + 1) (by omega) hi (by omega)
end Av

/- Slices of rows of K cells each. No program. -/
namespace Av
set_option maxRecDepth 100000
open Go Go.RowKit
theorem rowK_cell {α : Type} (f : α → List Value) (K : Nat) (hf : ∀ x, (f x).length = K) : ∀ (xs : List α) (k : Nat) (hk : k < xs.length) (j : Nat), j < K → (xs.flatMap f)[k * K + j]? = (f xs[k])[j]?
  | [], _, hk, _, _ => by simp at hk
  | a :: xs, 0, _, j, hj => by
    simp only [List.flatMap_cons, List.getElem_cons_zero, Nat.zero_mul, Nat.zero_add]
    rw [List.getElem?_append_left (by rw [hf]; exact hj)]
  | a :: xs, k + 1, hk, j, hj => by
    simp only [List.flatMap_cons, List.getElem_cons_succ]
    rw [List.getElem?_append_right (by rw [hf, Nat.succ_mul]; omega), hf]
    rw [show (k + 1) * K + j - K = k * K + j by rw [Nat.succ_mul]; omega]
    exact rowK_cell f K hf xs k (by simpa using hk) j hj
theorem rowK_len {α : Type} (f : α → List Value) (K : Nat) (hf : ∀ x, (f x).length = K) (xs : List α) : (xs.flatMap f).length = xs.length * K := by
  induction xs with
  | nil => simp
  | cons a l ih => rw [List.flatMap_cons, List.length_append, hf, ih, List.length_cons, Nat.succ_mul]; omega
/-- Rows that can be read. -/
theorem Sl.rows {α : Type} {f : α → List Value} {K : Nat} (hf : ∀ x, (f x).length = K) {w : World} {v : Value} {xs : List α} (h : Sl w K v xs.length (xs.flatMap f)) :
    ∃ a c, v = .slice a xs.length c ∧ xs.length ≤ c ∧ xs.length ≤ maxLen ∧ (0 < xs.length → ∃ b off, a = some ⟨b, off, none⟩ ∧ b < w.heap.size ∧ ∀ k (hk : k < xs.length) j x, j < K → (f xs[k])[j]? = some x → w.cell? ⟨b, off + k * K + j, none⟩ = some x) := by
  obtain ⟨a, c, rfl, hcc, h1, _, h3⟩ := Sl.open h
  refine ⟨a, c, rfl, hcc, h1, fun hn => ?_⟩
  obtain ⟨b, off, rfl, hb, hc⟩ := h3 hn
  refine ⟨b, off, rfl, hb, fun k hk j x hj hx => ?_⟩
  rw [Nat.add_assoc]
  exact hc (k * K + j) x (by rw [rowK_cell f K hf xs k hk j hj]; exact hx)
theorem flatMap_snoc {α : Type} (f : α → List Value) (xs : List α) (x : α) : (xs ++ [x]).flatMap f = xs.flatMap f ++ f x := by rw [List.flatMap_append, List.flatMap_singleton]
end Av

/- A block whose head holds a row, written in place. No program. -/
namespace Av
set_option maxRecDepth 100000
open Go Go.RowKit
/-- Block b, of cap elements of k cells, holds xs at its head. -/
def RowB (w : World) (b : Nat) (e : TypeId) (k cap : Nat) (xs : List Value) : Prop :=
  ∃ cur, w.heap[b]? = some (.cells cur e (0, 0)) ∧ cur.size = cap * k ∧ cur.toList.take xs.length = xs
section
variable {w : World} {b : Nat} {e : TypeId} {k cap : Nat} {xs : List Value}
theorem RowB.lt (h : RowB w b e k cap xs) : b < w.heap.size := by obtain ⟨cur, h1, _⟩ := h; exact (Array.getElem?_eq_some_iff.1 h1).1
theorem RowB.len (h : RowB w b e k cap xs) : xs.length ≤ cap * k := by
  obtain ⟨cur, _, h2, h3⟩ := h
  have := congrArg List.length h3
  rw [List.length_take] at this
  simp at this; omega
theorem RowB.cell (h : RowB w b e k cap xs) {i : Nat} {v : Value} (hv : xs[i]? = some v) : w.cell? ⟨b, i, none⟩ = some v := by
  obtain ⟨cur, h1, h2, h3⟩ := h
  obtain ⟨hi, _⟩ := List.getElem?_eq_some_iff.1 hv
  rw [← h3, List.getElem?_take, if_pos hi] at hv
  simp [World.cell?, h1]; simpa using hv
theorem RowB.free (h : RowB w b e k cap xs) (i : Nat) : w.frozen? ⟨b, i, none⟩ = false := by
  obtain ⟨cur, h1, h2, h3⟩ := h
  simp [World.frozen?, h1]
theorem RowB.kp {S : Nat → Prop} {w' : World} (h : RowB w b e k cap xs) (hk : Kp S w w') (hs : ¬ S b) : RowB w' b e k cap xs := by
  obtain ⟨cur, h1, h2, h3⟩ := h
  exact ⟨cur, hk.obj h1 hs, h2, h3⟩
theorem RowB.set (h : RowB w b e k cap xs) (i : Nat) (v : Value) : RowB (w.setCell ⟨b, i, none⟩ v) b e k cap (xs.set i v) := by
  obtain ⟨cur, h1, h2, h3⟩ := h
  refine ⟨cur.setIfInBounds i v, ?_, by simpa using h2, ?_⟩
  · simp [World.setCell, Array.getElem?_modify, h1]
  · rw [Array.toList_setIfInBounds, List.length_set, List.take_set, h3]
theorem setCells_eq (w : World) (b : Nat) (v : Value) (r : List Value) (o : Nat) : w.setCells b o (v :: r) = (w.setCell ⟨b, o, none⟩ v).setCells b (o + 1) r := rfl
def setMs (xs : List Value) : Nat → List Value → List Value
  | _, [] => xs
  | o, v :: r => setMs (xs.set o v) (o + 1) r
theorem RowB.setCells : ∀ (vs : List Value) {w : World} {xs : List Value} (o : Nat), RowB w b e k cap xs → RowB (w.setCells b o vs) b e k cap (setMs xs o vs)
  | [], _, _, _, h => h
  | v :: r, _, _, o, h => RowB.setCells r (o + 1) (h.set o v)
theorem kp_setCells : ∀ (vs : List Value) (w : World) (o : Nat), Kp (fun i => i = b) w (w.setCells b o vs)
  | [], w, _ => Kp.refl _ w
  | v :: r, w, o => (Kp.setCell (S := fun i => i = b) (Kp.refl _ w) ⟨b, o, none⟩ v (fun _ => rfl)).trans (kp_setCells r _ (o + 1))
theorem setMs_len : ∀ (vs xs : List Value) (o : Nat), (setMs xs o vs).length = xs.length
  | [], _, _ => rfl
  | v :: r, xs, o => by unfold setMs; rw [setMs_len, List.length_set]
theorem setMs_take : ∀ (vs xs : List Value) (o m : Nat), m ≤ o → (setMs xs o vs).take m = xs.take m
  | [], _, _, _, _ => rfl
  | v :: r, xs, o, m, h => by
    unfold setMs
    rw [setMs_take r _ _ _ (by omega), List.take_set, List.set_eq_of_length_le (by rw [List.length_take]; omega)]
end
theorem RowB.of_owns {w : World} {base n cap k : Nat} {e : TypeId} {xs : List Value} {ad : Addr} (h : w.ownsRow base e k (.slice (some ad) n cap) n xs) :
    ∃ b, ad = ⟨b, 0, none⟩ ∧ RowB w b e k cap xs ∧ xs.length = n * k ∧ n ≤ cap ∧ cap ≤ maxLen ∧ base ≤ b := by
  obtain ⟨h1, h2 | ⟨g, c, cur, hv, hb, hg, hn, hm, hs, ht⟩⟩ := h
  · simp at h2
  · simp only [Value.slice.injEq, Option.some.injEq, true_and] at hv
    obtain ⟨rfl, rfl⟩ := hv
    exact ⟨g, rfl, ⟨cur, hg, hs, by rw [h1]; exact ht⟩, h1, hn, hm, hb⟩
theorem RowB.owns {w : World} {base b m cap k : Nat} {e : TypeId} {xs : List Value} (h : RowB w b e k cap xs) (hm : m * k ≤ xs.length) (hc : m ≤ cap) (hx : cap ≤ maxLen) (hb : base ≤ b) :
    w.ownsRow base e k (.slice (some ⟨b, 0, none⟩) m cap) m (xs.take (m * k)) := by
  obtain ⟨cur, h1, h2, h3⟩ := h
  refine ⟨by rw [List.length_take]; omega, .inr ⟨b, cap, cur, rfl, hb, h1, hc, hx, h2, ?_⟩⟩
  rw [← h3, List.take_take, Nat.min_eq_left (by omega)]
theorem flat_len {α : Type} (f : α → List Value) (K : Nat) (hf : ∀ x, (f x).length = K) (xs : List α) : (xs.flatMap f).length = xs.length * K := rowK_len f K hf xs
theorem flat_take {α : Type} (f : α → List Value) (K : Nat) (hf : ∀ x, (f x).length = K) : ∀ (xs : List α) (m : Nat), (xs.flatMap f).take (m * K) = (xs.take m).flatMap f
  | [], m => by simp
  | x :: r, 0 => by simp
  | x :: r, m + 1 => by
    rw [List.flatMap_cons, List.take_succ_cons, List.flatMap_cons, List.take_append, hf, Nat.succ_mul, Nat.add_sub_cancel, flat_take f K hf r m, List.take_of_length_le (by rw [hf]; omega)]
theorem flat_set3 {α : Type} (f : α → List Value) (x : α) (a b c : Value) (hx : f x = [a, b, c]) (hf : ∀ x, (f x).length = 3) : ∀ (xs : List α) (i : Nat), (((xs.flatMap f).set (i * 3) a).set (i * 3 + 1) b).set (i * 3 + 2) c = (xs.set i x).flatMap f
  | [], i => by simp
  | y :: r, 0 => by
    have := hf y
    match hy : f y, this with
    | [p, q, s], _ => simp [hy, hx]
  | y :: r, i + 1 => by
    have ih := flat_set3 f x a b c hx hf r i
    rw [List.set_cons_succ, List.flatMap_cons, List.flatMap_cons, ← ih]
    have hl := hf y
    rw [List.set_append_right _ _ (by rw [hl]; omega), List.set_append_right _ _ (by rw [hl]; omega), List.set_append_right _ _ (by rw [hl]; omega), hl]
    rw [show (i + 1) * 3 - 3 = i * 3 by omega, show (i + 1) * 3 + 1 - 3 = i * 3 + 1 by omega, show (i + 1) * 3 + 2 - 3 = i * 3 + 2 by omega]
/-- 'clear(s)' where elements are of K cells: some cells are laid over the whole of it. -/
theorem run_clear_rows {P : Program} (w : World) (t e : TypeId) (z : Value) (K : Nat) (hK : z.cells.size = K) (h0 : 0 < K) (ht : P.underlying t = some (.slice e)) (hv : ∀ w, (zeroValue e).run P w = .ok z w) (h1 : ∀ v ∈ z.cells.toList, v.oneCell' = true) (b o n c : Nat) (hn : 0 < n)
    (hc : ∀ j, j < n * K → (w.cell? ⟨b, o + j, none⟩).isSome = true) (hf : ∀ j, j < n * K → w.frozen? ⟨b, o + j, none⟩ = false) :
    ∃ vs : List Value, vs.length = n * K ∧ ∀ ty, (Builtin.clear_ #[t] ty #[.slice (some ⟨b, o, none⟩) n c]).run P w = .ok (.tuple #[]) (w.setCells b o vs) := by
  refine ⟨(Builtin.zeroCells z.cells n).toList, by simp [Builtin.zeroCells, hK], fun ty => ?_⟩
  have hst := run_storeCells_cells (P := P) b o (Builtin.zeroCells z.cells n).toList 0 w (by simpa [Builtin.zeroCells, hK] using hc) (by simpa [Builtin.zeroCells, hK] using hf) (by
    intro v hv'
    simp only [Builtin.zeroCells, Array.toList_map, List.mem_map] at hv'
    obtain ⟨i, _, rfl⟩ := hv'
    have hlt : i % z.cells.size < z.cells.size := Nat.mod_lt _ (by omega)
    rw [getElem!_pos z.cells _ hlt]
    exact h1 _ (by simp))
  simp only [Nat.add_zero] at hst
  obtain ⟨m, rfl⟩ : ∃ m, n = m + 1 := ⟨n - 1, by omega⟩
  simp [Builtin.clear_, run_underlying ht, hv, hst]
theorem kp_set3 {S : Nat → Prop} {a w : World} (h : Kp S a w) (b o : Nat) (x y z : Value) (hs : S b) : Kp S a (((w.setCell ⟨b, o, none⟩ x).setCell ⟨b, o + 1, none⟩ y).setCell ⟨b, o + 2, none⟩ z) :=
  ((h.set1 b _ _ hs).set1 b _ _ hs).set1 b _ _ hs
end Av
