/- Texts put together: AvOpLaw, AvTopsLaw. -/
import Derived.Test.YtjapjpigpakejaaGreatDoorAvPathLaw
import Derived.Test.YtjapjpigpakejaaGreatDoorAvBase
import Derived.Lib.SlicesCompact

/- Chapter 5 in plain Lean: what may be asked. No program. -/
namespace Av
set_option maxRecDepth 100000
open Go Go.RowKit
/-- What is asked of one path. -/
structure OpV where
  kind : Int
  path : ByteArray
  data : ByteArray
  ver : Int
  flags : Int
deriving DecidableEq
def OpV.cells (o : OpV) : List Value := [.int .i64 o.kind, .string o.path, .string o.data, .int .i64 o.ver, .int .i64 o.flags]
def OpV.val (o : OpV) : Value := .agg #[.int .i64 o.kind, .string o.path, .string o.data, .int .i64 o.ver, .int .i64 o.flags]
def versionedB (k : Int) : Bool := decide (k = 2) || (decide (k = 3) || decide (k = 4))
def readsB (k : Int) : Bool := decide (k = 5) || (decide (k = 6) || decide (k = 7))
def formedB (o : OpV) : Bool := decide (1 ≤ o.kind) && (decide (o.kind ≤ 7) && (goodL o.path.data.toList && (decide (-1 ≤ o.ver) && (decide (0 ≤ o.flags) && decide (o.flags ≤ 3)))))
def ownB (o : OpV) : Bool := (decide (o.data.size = 0) || (decide (o.kind = 1) || decide (o.kind = 3))) && ((decide (o.ver = 0) || versionedB o.kind) && (decide (o.flags = 0) || decide (o.kind = 1)))
def numberedB (o : OpV) : Bool := decide (o.flags < 2) || (decide (1 < (partsL o.path.data.toList).length) && (numberL o.path.data.toList 0).isSome)
/-- What is wrong with an op first. -/
def goodO (o : OpV) : Int := if formedB o then (if 1000 < o.data.size then 2 else if ownB o && numberedB o then 0 else 1) else 1
end Av

/- First names, rising, each once: plain laws. No program. -/
namespace Av
set_option maxRecDepth 100000
open Go
/-- Strictly rising. -/
abbrev Rising (l : List Bs) : Prop := l.Pairwise (· < ·)
theorem rising_ext : ∀ {a b : List Bs}, Rising a → Rising b → (∀ x, x ∈ a ↔ x ∈ b) → a = b
  | [], [], _, _, _ => rfl
  | [], y :: b, _, _, h => absurd ((h y).2 (by simp)) (by simp)
  | x :: a, [], _, _, h => absurd ((h x).1 (by simp)) (by simp)
  | x :: a, y :: b, ha, hb, h => by
    obtain ⟨hx, ha'⟩ := List.pairwise_cons.1 ha
    obtain ⟨hy, hb'⟩ := List.pairwise_cons.1 hb
    have hxy : x = y := by
      rcases List.mem_cons.1 ((h x).1 (by simp)) with e | e
      · exact e
      · rcases List.mem_cons.1 ((h y).2 (by simp)) with e2 | e2
        · exact e2.symm
        · exact absurd (List.lt_trans (hx y e2) (hy x e)) (List.lt_irrefl x)
    subst hxy
    rw [rising_ext ha' hb' (fun z => ?_)]
    constructor
    · intro hz
      rcases List.mem_cons.1 ((h z).1 (by simp [hz])) with e | e
      · exact absurd (hx z hz) (by rw [e]; exact List.lt_irrefl x)
      · exact e
    · intro hz
      rcases List.mem_cons.1 ((h z).2 (by simp [hz])) with e | e
      · exact absurd (hy z hz) (by rw [e]; exact List.lt_irrefl x)
      · exact e
/-- How many of a list are less than a name, from its head on. -/
def lessN (s : Bs) : List Bs → Nat
  | [] => 0
  | t :: r => if t < s then lessN s r + 1 else 0
theorem lessN_yes {s t : Bs} {r : List Bs} (h : t < s) : lessN s (t :: r) = lessN s r + 1 := if_pos h
theorem lessN_no {s t : Bs} {r : List Bs} (h : ¬ t < s) : lessN s (t :: r) = 0 := if_neg h
theorem lessN_le (s : Bs) : ∀ (l : List Bs), lessN s l ≤ l.length
  | [] => Nat.le_refl _
  | t :: r => by unfold lessN; split <;> simp [lessN_le s r]
theorem lessN_take (s : Bs) : ∀ (l : List Bs), ∀ x ∈ l.take (lessN s l), x < s
  | [], x, h => by simp at h
  | t :: r, x, h => by
    unfold lessN at h
    split at h
    · rename_i ht
      rw [List.take_succ_cons] at h
      rcases List.mem_cons.1 h with e | e
      · subst e; exact ht
      · exact lessN_take s r x e
    · simp at h
theorem lessN_at (s : Bs) : ∀ (l : List Bs) (k : Nat) (hk : k < l.length), (∀ x ∈ l.take k, x < s) → ¬ l[k] < s → lessN s l = k
  | [], k, hk, _, _ => by simp at hk
  | t :: r, 0, _, _, h => by unfold lessN; rw [if_neg (by simpa using h)]
  | t :: r, k + 1, hk, h1, h2 => by
    unfold lessN
    rw [if_pos (h1 t (by simp)), lessN_at s r k (by simpa using hk) (fun x hx => h1 x (by simp [hx])) (by simpa using h2)]
theorem lessN_all (s : Bs) : ∀ (l : List Bs), (∀ x ∈ l, x < s) → lessN s l = l.length
  | [], _ => rfl
  | t :: r, h => by
    unfold lessN
    rw [if_pos (h t (by simp)), lessN_all s r (fun x hx => h x (by simp [hx]))]; rfl
theorem lessN_get (s : Bs) : ∀ (l : List Bs) (h : lessN s l < l.length), ¬ l[lessN s l] < s
  | [], h => by simp at h
  | t :: r, h => by
    by_cases ht : t < s
    · have e : lessN s (t :: r) = lessN s r + 1 := lessN_yes ht
      have h2 : lessN s r < r.length := by rw [e] at h; simpa using h
      have := lessN_get s r h2
      simpa [e] using this
    · have e : lessN s (t :: r) = 0 := lessN_no ht
      simpa [e] using ht
/-- One name more. -/
def topIns (t : List Bs) (s : Bs) : List Bs := if s = [] then t else if t[lessN s t]? = some s then t else t.take (lessN s t) ++ s :: t.drop (lessN s t)
theorem lt_of_not {a b : Bs} (h : ¬ a < b) (hne : a ≠ b) : b < a := by
  by_cases h2 : b < a
  · exact h2
  · exact absurd (List.le_antisymm (show a ≤ b from h2) (show b ≤ a from h)) hne
theorem topIns_ok {t : List Bs} {s : Bs} (ht : Rising t) : Rising (topIns t s) ∧ ∀ x, x ∈ topIns t s ↔ x ∈ t ∨ (x = s ∧ s ≠ []) := by
  unfold topIns
  split
  · rename_i h; exact ⟨ht, fun x => by simp [h]⟩
  · rename_i h
    split
    · rename_i h2
      refine ⟨ht, fun x => ⟨fun hx => .inl hx, fun hx => ?_⟩⟩
      rcases hx with hx | ⟨rfl, _⟩
      · exact hx
      · exact List.mem_of_getElem? h2
    · rename_i h2
      have hl := lessN_take s t
      have hsplit : t.take (lessN s t) ++ t.drop (lessN s t) = t := List.take_append_drop _ _
      have hr : ∀ x ∈ t.drop (lessN s t), s < x := by
        by_cases hlt : lessN s t < t.length
        · have hg := lessN_get s t hlt
          have hne : t[lessN s t] ≠ s := fun e => h2 (by rw [List.getElem?_eq_getElem hlt, e])
          have h3 := lt_of_not hg hne
          have hd : t.drop (lessN s t) = t[lessN s t] :: t.drop (lessN s t + 1) := List.drop_eq_getElem_cons hlt
          have hp : Rising (t.drop (lessN s t)) := ht.sublist (List.drop_sublist _ _)
          rw [hd] at hp ⊢
          intro x hx
          rcases List.mem_cons.1 hx with e | e
          · rw [e]; exact h3
          · exact List.lt_trans h3 ((List.pairwise_cons.1 hp).1 x e)
        · rw [List.drop_of_length_le (by omega)]; simp
      refine ⟨?_, fun x => ?_⟩
      · have h1 : Rising (t.take (lessN s t)) := ht.sublist (List.take_sublist _ _)
        have h3 : Rising (t.drop (lessN s t)) := ht.sublist (List.drop_sublist _ _)
        refine List.pairwise_append.2 ⟨h1, List.pairwise_cons.2 ⟨hr, h3⟩, fun a ha b hb => ?_⟩
        rcases List.mem_cons.1 hb with e | e
        · rw [e]; exact hl a ha
        · exact List.lt_trans (hl a ha) (hr b e)
      · constructor
        · intro hx
          rcases List.mem_append.1 hx with hx | hx
          · exact .inl (by rw [← hsplit]; exact List.mem_append_left _ hx)
          · rcases List.mem_cons.1 hx with e | e
            · exact .inr ⟨e, h⟩
            · exact .inl (by rw [← hsplit]; exact List.mem_append_right _ e)
        · intro hx
          rcases hx with hx | ⟨rfl, _⟩
          · rw [← hsplit] at hx
            rcases List.mem_append.1 hx with hx | hx
            · exact List.mem_append_left _ hx
            · exact List.mem_append_right _ (List.mem_cons_of_mem _ hx)
          · exact List.mem_append_right _ (by simp)
/-- The names, rising, each once. -/
def topsOf (l : List Bs) : List Bs := l.foldl topIns []
theorem foldl_topIns : ∀ (l t : List Bs), Rising t → Rising (l.foldl topIns t) ∧ ∀ x, x ∈ l.foldl topIns t ↔ x ∈ t ∨ (x ∈ l ∧ x ≠ [])
  | [], t, h => ⟨h, fun x => by simp⟩
  | s :: l, t, h => by
    obtain ⟨h1, h2⟩ := topIns_ok (s := s) h
    obtain ⟨h3, h4⟩ := foldl_topIns l (topIns t s) h1
    refine ⟨h3, fun x => ?_⟩
    rw [List.foldl_cons, h4 x, h2 x]
    constructor
    · rintro ((a | ⟨rfl, b⟩) | ⟨a, b⟩)
      · exact .inl a
      · exact .inr ⟨by simp, b⟩
      · exact .inr ⟨by simp [a], b⟩
    · rintro (a | ⟨a, b⟩)
      · exact .inl (.inl a)
      · rcases List.mem_cons.1 a with e | e
        · subst e; exact .inl (.inr ⟨rfl, b⟩)
        · exact .inr ⟨e, b⟩
theorem topsOf_rising (l : List Bs) : Rising (topsOf l) := (foldl_topIns l [] List.Pairwise.nil).1
theorem topsOf_mem (l : List Bs) (x : Bs) : x ∈ topsOf l ↔ x ∈ l ∧ x ≠ [] := by rw [topsOf, (foldl_topIns l [] List.Pairwise.nil).2 x]; simp
/-! What is sorted, and of neighbours that are alike one. -/
theorem compact_sorted (d : Array Bs) (hs : ∀ i j, i ≤ j → j < d.size → d[i]! ≤ d[j]!) : ∀ m, m ≤ d.size →
    Rising (Lib.compactUpTo d m) ∧ (∀ x ∈ Lib.compactUpTo d m, ∃ i, i < m ∧ x = d[i]!) ∧ ∀ i, i < m → d[i]! ∈ Lib.compactUpTo d m
  | 0, _ => ⟨by simp [Lib.compactUpTo], by simp [Lib.compactUpTo], by simp⟩
  | m + 1, hm => by
    obtain ⟨h1, h2, h3⟩ := compact_sorted d hs m (by omega)
    rw [Lib.compactUpTo_succ]
    by_cases hk : Lib.keeps d m = true
    · rw [if_pos hk]
      refine ⟨List.pairwise_append.2 ⟨h1, by simp, fun a ha b hb => ?_⟩, fun x hx => ?_, fun i hi => ?_⟩
      · simp only [List.mem_singleton] at hb
        subst hb
        obtain ⟨i, hi, rfl⟩ := h2 a ha
        have hm0 : m ≠ 0 := by omega
        have hne : d[m]! ≠ d[m - 1]! := by
          have := hk
          simp only [Lib.keeps, decide_eq_true_eq] at this
          exact this.resolve_left hm0
        have h4 := hs i (m - 1) (by omega) (by omega)
        have h5 := hs (m - 1) m (by omega) (by omega)
        have h6 : d[m - 1]! < d[m]! := lt_of_not h5 hne
        by_cases e : d[i]! = d[m - 1]!
        · rw [e]; exact h6
        · exact List.lt_trans (lt_of_not h4 (fun e2 => e e2.symm)) h6
      · rcases List.mem_append.1 hx with hx | hx
        · obtain ⟨i, hi, e⟩ := h2 x hx; exact ⟨i, by omega, e⟩
        · simp only [List.mem_singleton] at hx; exact ⟨m, by omega, hx⟩
      · by_cases him : i < m
        · exact List.mem_append_left _ (h3 i him)
        · obtain rfl : i = m := by omega
          exact List.mem_append_right _ (by simp)
    · rw [if_neg hk, List.append_nil]
      refine ⟨h1, fun x hx => ?_, fun i hi => ?_⟩
      · obtain ⟨i, hi, e⟩ := h2 x hx; exact ⟨i, by omega, e⟩
      · by_cases him : i < m
        · exact h3 i him
        · obtain rfl : i = m := by omega
          simp only [Lib.keeps, decide_eq_true_eq, not_or, Decidable.not_not] at hk
          rw [hk.2]
          exact h3 (i - 1) (by omega)
theorem compact_tops (l : List Bs) (h : ∀ x ∈ l, x ≠ []) : Lib.compact (l.mergeSort fun x y => decide (x ≤ y)) = topsOf l := by
  have hp := List.pairwise_mergeSort (le := fun x y : Bs => decide (x ≤ y)) (fun a b c h1 h2 => by simp only [decide_eq_true_eq] at *; exact List.le_trans h1 h2) (fun a b => by simp only [Bool.or_eq_true, decide_eq_true_eq]; exact List.le_total a b) l
  have hm : ∀ x, x ∈ l.mergeSort (fun x y => decide (x ≤ y)) ↔ x ∈ l := fun x => (List.mergeSort_perm l _).mem_iff
  generalize l.mergeSort (fun x y => decide (x ≤ y)) = z at hp hm
  have hs : ∀ i j, i ≤ j → j < z.toArray.size → z.toArray[i]! ≤ z.toArray[j]! := by
    intro i j hij hj
    have hj' : j < z.length := by simpa using hj
    rw [getElem!_pos z.toArray i (by simp; omega), getElem!_pos z.toArray j (by simpa using hj')]
    simp only [List.getElem_toArray]
    rcases Nat.lt_or_ge i j with h | h
    · have := List.pairwise_iff_getElem.1 hp i j (by omega) hj' h
      simpa using this
    · obtain rfl : i = j := by omega
      exact List.lt_irrefl _
  obtain ⟨h1, h2, h3⟩ := compact_sorted z.toArray hs z.length (by simp)
  refine rising_ext h1 (topsOf_rising l) (fun x => ?_)
  rw [topsOf_mem]
  constructor
  · intro hx
    obtain ⟨i, hi, rfl⟩ := h2 x hx
    rw [getElem!_pos z.toArray i (by simpa using hi)]
    have : z[i] ∈ l := (hm _).1 (List.getElem_mem hi)
    simp only [List.getElem_toArray]
    exact ⟨this, h _ this⟩
  · rintro ⟨hx, _⟩
    obtain ⟨i, hi, rfl⟩ := List.getElem_of_mem ((hm x).2 hx)
    have := h3 i hi
    rwa [getElem!_pos z.toArray i (by simpa using hi), List.getElem_toArray] at this
theorem rising_len : ∀ {b a : List Bs}, Rising a → Rising b → (∀ x ∈ a, x ∈ b) → a.length ≤ b.length
  | [], a, _, _, h => by
    cases a with
    | nil => simp
    | cons x a => exact absurd (h x (by simp)) (by simp)
  | y :: b, [], _, _, _ => by simp
  | y :: b, x :: a, ha, hb, h => by
    obtain ⟨hx, ha'⟩ := List.pairwise_cons.1 ha
    obtain ⟨hy, hb'⟩ := List.pairwise_cons.1 hb
    by_cases e : x = y
    · subst e
      have := rising_len ha' hb' (fun z hz => by
        rcases List.mem_cons.1 (h z (by simp [hz])) with e | e
        · exact absurd (hx z hz) (by rw [e]; exact List.lt_irrefl x)
        · exact e)
      simpa using this
    · have hxb : x ∈ b := (List.mem_cons.1 (h x (by simp))).resolve_left e
      have hyx := hy x hxb
      have := rising_len (a := x :: a) ha hb' (fun z hz => by
        rcases List.mem_cons.1 (h z hz) with e2 | e2
        · subst e2
          rcases List.mem_cons.1 hz with e3 | e3
          · exact absurd e3.symm e
          · exact absurd (List.lt_trans hyx (hx z e3)) (List.lt_irrefl z)
        · exact e2)
      simp only [List.length_cons] at this ⊢
      omega
theorem topsOf_comm (a b : List Bs) : topsOf (a ++ b) = topsOf (b ++ a) :=
  rising_ext (topsOf_rising _) (topsOf_rising _) (fun x => by rw [topsOf_mem, topsOf_mem, List.mem_append, List.mem_append]; exact ⟨fun h => ⟨h.1.symm, h.2⟩, fun h => ⟨h.1.symm, h.2⟩⟩)
theorem topsOf_more (a b : List Bs) : (topsOf a).length ≤ (topsOf (a ++ b)).length :=
  rising_len (topsOf_rising _) (topsOf_rising _) (fun x hx => by rw [topsOf_mem] at hx ⊢; exact ⟨List.mem_append_left _ hx.1, hx.2⟩)
theorem rising_at {l : List Bs} (h : Rising l) {i : Nat} (hi : i + 1 < l.length) : l[i] < l[i + 1] := List.pairwise_iff_getElem.1 h i (i + 1) (by omega) hi (by omega)
end Av
