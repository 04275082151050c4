/- Texts put together: AvPath, AvPackLaw, AvApp2. -/
import Derived.Lib.SplitLaws
import Derived.Lib.Strings
import Derived.Lib.Join
import Derived.Test.YtjapjpigpakejaaGreatDoorAvG1
import Derived.Laws.BitsLemmas
import Derived.Laws.Bits64
import Derived.Laws.AppendOwnNone
import Derived.Lib.AppendStr

/- Paths as lists of bytes: what chapter 1 says, in plain Lean. No program. -/
namespace Av
set_option maxRecDepth 100000
abbrev Bs := List UInt8

def sign (c : UInt8) : Bool := decide (33 ≤ c) && decide (c ≤ 126)
/-- May a text without strokes be a name? -/
def nameL (l : Bs) : Bool := l.all sign && decide (1 ≤ l.length) && decide (l.length ≤ 40) && (l != [46]) && (l != [46, 46])
/-- A text cut at each stroke. -/
def cut : Bs → List Bs
  | [] => [[]]
  | c :: t => if c = 47 then [] :: cut t else match cut t with
    | h :: r => (c :: h) :: r
    | [] => [[c]]
theorem cut_ne (l : Bs) : cut l ≠ [] := by
  cases l with
  | nil => simp [cut]
  | cons c t =>
    unfold cut
    split
    · simp
    · split <;> simp
theorem cut_length_pos (l : Bs) : 1 ≤ (cut l).length := by
  have := cut_ne l
  cases h : cut l with
  | nil => exact absurd h this
  | cons a b => simp
/-- One more byte behind. -/
theorem cut_snoc_stroke (l : Bs) : cut (l ++ [47]) = cut l ++ [[]] := by
  induction l with
  | nil => simp [cut]
  | cons c t ih =>
    simp only [List.cons_append, cut, ih]
    by_cases h : c = 47
    · simp [h]
    · simp only [h, if_false]
      cases ht : cut t with
      | nil => exact absurd ht (cut_ne t)
      | cons a b => simp
theorem cut_snoc (l : Bs) (c : UInt8) (h : c ≠ 47) : ∃ i x, cut l = i ++ [x] ∧ cut (l ++ [c]) = i ++ [x ++ [c]] := by
  induction l with
  | nil => exact ⟨[], [], by simp [cut], by simp [cut, h]⟩
  | cons d t ih =>
    obtain ⟨i, x, e1, e2⟩ := ih
    by_cases hd : d = 47
    · exact ⟨[] :: i, x, by simp [cut, hd, e1], by simp [cut, hd, e2]⟩
    · cases i with
      | nil => exact ⟨[], d :: x, by simp [cut, hd, e1], by simp [cut, hd, e2]⟩
      | cons a i => exact ⟨(d :: a) :: i, x, by simp [cut, hd, e1], by simp [cut, hd, e2]⟩
theorem cut_length (l : Bs) : (cut l).length = l.count 47 + 1 := by
  induction l with
  | nil => simp [cut]
  | cons c t ih =>
    unfold cut
    by_cases h : c = 47
    · subst h; simp [ih]
    · simp only [h, if_false]
      cases ht : cut t with
      | nil => exact absurd ht (cut_ne t)
      | cons a b => simp only [ht, List.length_cons] at ih ⊢; rw [List.count_cons_of_ne (by simpa using h)]; exact ih
/-- No piece holds a stroke. -/
theorem cut_free (l : Bs) : ∀ s ∈ cut l, (47 : UInt8) ∉ s := by
  induction l with
  | nil => simp [cut]
  | cons c t ih =>
    unfold cut
    by_cases h : c = 47
    · simp only [h, if_true, List.mem_cons]
      rintro s (rfl | hs)
      · simp
      · exact ih s hs
    · simp only [h, if_false]
      cases ht : cut t with
      | nil => exact absurd ht (cut_ne t)
      | cons a b =>
        intro s hs
        simp only [List.mem_cons] at hs
        rcases hs with rfl | hs
        · have := ih a (by rw [ht]; simp)
          simp only [List.mem_cons, not_or]; exact ⟨fun e => h e.symm, this⟩
        · exact ih s (by rw [ht]; simp [hs])
theorem cut_len_le (l : Bs) : ∀ s ∈ cut l, s.length ≤ l.length := by
  induction l with
  | nil => simp [cut]
  | cons c t ih =>
    unfold cut
    by_cases h : c = 47
    · simp only [h, if_true, List.mem_cons, List.length_cons]
      rintro s (rfl | hs)
      · simp
      · have := ih s hs; omega
    · simp only [h, if_false]
      cases ht : cut t with
      | nil => exact absurd ht (cut_ne t)
      | cons a b =>
        intro s hs
        simp only [List.mem_cons] at hs
        rcases hs with rfl | hs
        · have := ih a (by rw [ht]; simp); simp; omega
        · have := ih s (by rw [ht]; simp [hs]); simp; omega
theorem splitK_cons (k : Nat) (c : UInt8) (t : Bs) (h : c ≠ 47) : ∃ a b, Go.Lib.splitK [47] 0 k t = a :: b ∧ Go.Lib.splitK [47] 0 k (c :: t) = (c :: a) :: b := by
  cases k with
  | zero => exact ⟨t, [], rfl, rfl⟩
  | succ k =>
    have hp : List.isPrefixOf [47] (c :: t) = false := by
      simp only [List.isPrefixOf, Bool.and_true]
      simpa using fun e => h e.symm
    have hi : Go.Lib.index (c :: t) [47] = if Go.Lib.index t [47] == -1 then -1 else Go.Lib.index t [47] + 1 := by
      simp only [Go.Lib.index, hp]; rfl
    have hge := Go.Lib.index_ge t [47]
    unfold Go.Lib.splitK
    by_cases hm : Go.Lib.index t [47] = -1
    · simp [hm, hi]
    · have e1 : (Go.Lib.index t [47] == -1) = false := by simpa using hm
      have e2 : (Go.Lib.index t [47] + 1 == -1) = false := by simp; omega
      have e3 : (Go.Lib.index t [47] + 1).toNat = (Go.Lib.index t [47]).toNat + 1 := by omega
      simp [hi, e1, e2, e3]
theorem splitK_cut : ∀ (s : Bs) (k : Nat), s.count 47 = k → Go.Lib.splitK [47] 0 k s = cut s := by
  intro s
  induction s with
  | nil => intro k h; simp at h; subst h; simp [Go.Lib.splitK, cut]
  | cons c t ih =>
    intro k h
    by_cases hc : c = 47
    · subst hc
      simp at h
      subst h
      have hi : Go.Lib.index (47 :: t) [47] = 0 := by simp [Go.Lib.index, List.isPrefixOf]
      unfold Go.Lib.splitK cut
      simp [hi, ih _ rfl]
    · have hk : t.count 47 = k := by rw [List.count_cons_of_ne (by simpa using hc)] at h; exact h
      obtain ⟨a, b, e1, e2⟩ := splitK_cons k c t hc
      rw [e2]
      have := ih k hk
      rw [e1] at this
      unfold cut
      simp [hc, ← this]

/-- Is a text a path? -/
def goodL (p : Bs) : Bool := match p with
  | [] => false
  | c :: t => (c == 47) && decide (p.length ≤ 200) && (cut t).all nameL && decide ((cut t).length ≤ 8)
def partsL (p : Bs) : List Bs := if goodL p then cut (p.drop 1) else []
def ofL (l : List Bs) : Bs := l.flatMap fun s => 47 :: s
def parentL (p : Bs) : Option Bs := if (partsL p).length < 2 then none else some (ofL (partsL p).dropLast)
def topL (p : Bs) : Bs := (partsL p).headD []
def lastL (p : Bs) : Bs := (partsL p).getLastD []

theorem good_iff_parts (p : Bs) : goodL p = true ↔ partsL p ≠ [] := by
  unfold partsL
  by_cases h : goodL p = true
  · simp [h, cut_ne]
  · simp [h]
theorem good_head (p : Bs) (h : goodL p = true) : ∃ t, p = 47 :: t ∧ t.length < 200 ∧ (cut t).all nameL = true ∧ (cut t).length ≤ 8 ∧ partsL p = cut t := by
  cases p with
  | nil => simp [goodL] at h
  | cons c t =>
    have h' := h
    simp only [goodL, Bool.and_eq_true, decide_eq_true_eq, beq_iff_eq, List.length_cons] at h'
    obtain ⟨⟨⟨rfl, h2⟩, h3⟩, h4⟩ := h'
    exact ⟨t, rfl, by omega, h3, h4, by simp [partsL, h]⟩
theorem parts_len (p : Bs) : (partsL p).length ≤ 8 := by
  by_cases h : goodL p = true
  · obtain ⟨t, rfl, _, _, h4, h5⟩ := good_head p h
    rw [h5]; exact h4
  · simp [partsL, h]
theorem parts_name (p : Bs) : ∀ s ∈ partsL p, nameL s = true ∧ (47 : UInt8) ∉ s := by
  by_cases h : goodL p = true
  · obtain ⟨t, rfl, _, h3, _, h5⟩ := good_head p h
    rw [h5]
    intro s hs
    exact ⟨List.all_eq_true.1 h3 s hs, cut_free t s hs⟩
  · simp [partsL, h]
theorem nameL_len (s : Bs) (h : nameL s = true) : 1 ≤ s.length ∧ s.length ≤ 40 := by
  simp only [nameL, Bool.and_eq_true, decide_eq_true_eq] at h
  exact ⟨h.1.1.1.2, h.1.1.2⟩
theorem join_ofL : ∀ (l : List Bs), l ≠ [] → 47 :: Go.Lib.join l [47] = ofL l
  | [], h => absurd rfl h
  | [x], _ => by simp [Go.Lib.join, List.intercalate, ofL]
  | x :: y :: r, _ => by
    have ih := join_ofL (y :: r) (by simp)
    have e : Go.Lib.join (x :: y :: r) [47] = x ++ 47 :: Go.Lib.join (y :: r) [47] := by simp [Go.Lib.join, List.intercalate]
    rw [e, ih]
    simp [ofL]
theorem ofL_dropLast (l : List Bs) : (ofL l.dropLast).length ≤ (ofL l).length := by
  unfold ofL
  rw [List.length_flatMap, List.length_flatMap]
  cases h : l.getLast? with
  | none => rw [List.getLast?_eq_none_iff.1 h]; simp
  | some x =>
    obtain ⟨i, rfl⟩ := List.getLast?_eq_some_iff.1 h
    simp
theorem ofL_cut (t : Bs) : ofL (cut t) = 47 :: t := by
  induction t with
  | nil => simp [cut, ofL]
  | cons c t ih =>
    unfold cut
    by_cases h : c = 47
    · subst h
      simp only [if_true, ofL, List.flatMap_cons, List.singleton_append] at ih ⊢
      rw [ih]
    · simp only [h, if_false]
      cases ht : cut t with
      | nil => exact absurd ht (cut_ne t)
      | cons a b =>
        rw [ht] at ih
        simp only [ofL, List.flatMap_cons, List.cons_append, List.cons.injEq, true_and] at ih ⊢
        rw [ih]
theorem good_cons' (t : Bs) (h : t.length < 200) : goodL (47 :: t) = ((cut t).all nameL && decide ((cut t).length ≤ 8)) := by
  have : decide ((47 :: t).length ≤ 200) = true := by simp; omega
  simp only [goodL, this, beq_self_eq_true, Bool.true_and]
theorem good_len (p : Bs) (h : goodL p = true) : 2 ≤ p.length ∧ p.length ≤ 200 := by
  obtain ⟨t, rfl, h1, h2, _, _⟩ := good_head p h
  refine ⟨?_, by simp; omega⟩
  cases t with
  | nil => simp [cut, nameL] at h2
  | cons c t => simp
theorem ofL_parts (p : Bs) (h : goodL p = true) : ofL (partsL p) = p := by
  obtain ⟨t, rfl, _, _, _, h5⟩ := good_head p h
  rw [h5, ofL_cut]
theorem parent_len (p : Bs) : (ofL (partsL p).dropLast).length ≤ 200 := by
  by_cases h : goodL p = true
  · have h1 := ofL_dropLast (partsL p)
    rw [ofL_parts p h] at h1
    have := good_len p h
    omega
  · simp [partsL, h, ofL]
theorem ofL_ne (l : List Bs) (h : l ≠ []) : ofL l ≠ [] := by
  cases l with
  | nil => exact absurd rfl h
  | cons a b => simp [ofL]

theorem cut_names : ∀ (l : List Bs), l ≠ [] → (∀ s ∈ l, (47 : UInt8) ∉ s) → cut ((ofL l).drop 1) = l
  | [], h, _ => absurd rfl h
  | [s], hne, h => by
    have hs := h s (by simp)
    simp only [ofL, List.flatMap_cons, List.flatMap_nil, List.append_nil, List.drop_succ_cons, List.drop_zero]
    clear h hne
    induction s with
    | nil => rfl
    | cons c t ih =>
      simp only [List.mem_cons, not_or] at hs
      have hc : ¬ c = 47 := fun e => hs.1 e.symm
      simp [cut, hc, ih hs.2]
  | s :: y :: r, hne, h => by
    have ih := cut_names (y :: r) (by simp) (fun x hx => h x (List.mem_cons_of_mem _ hx))
    have hs := h s (by simp)
    have e : (ofL (s :: y :: r)).drop 1 = s ++ 47 :: (ofL (y :: r)).drop 1 := by simp [ofL]
    rw [e]
    clear h e hne
    generalize (ofL (y :: r)).drop 1 = z at ih ⊢
    induction s with
    | nil => simp [cut, ih]
    | cons c t ih2 =>
      simp only [List.mem_cons, not_or] at hs
      have hc : ¬ c = 47 := fun e => hs.1 e.symm
      simp only [List.cons_append, cut, hc, if_false, ih2 hs.2]
theorem ofL_head (l : List Bs) (h : l ≠ []) : ofL l = 47 :: (ofL l).drop 1 := by
  cases l with
  | nil => exact absurd rfl h
  | cons a b => simp [ofL]
/-- A path of names is a path, and these are its names. -/
theorem parts_of_names (l : List Bs) (h : l ≠ []) (hn : ∀ s ∈ l, nameL s = true) (hf : ∀ s ∈ l, (47 : UInt8) ∉ s) (h8 : l.length ≤ 8) (hl : (ofL l).length ≤ 200) : goodL (ofL l) = true ∧ partsL (ofL l) = l := by
  have hc := cut_names l h hf
  have hg : goodL (ofL l) = true := by
    obtain ⟨t, ht⟩ : ∃ t, ofL l = 47 :: t := ⟨_, ofL_head l h⟩
    rw [ht] at hl hc ⊢
    simp only [List.drop_succ_cons, List.drop_zero] at hc
    simp only [List.length_cons] at hl
    rw [good_cons' _ (by omega), hc]
    simp only [Bool.and_eq_true, decide_eq_true_eq]
    exact ⟨List.all_eq_true.2 hn, h8⟩
  exact ⟨hg, by unfold partsL; rw [hg, if_pos rfl]; exact hc⟩
theorem parent_good (p : Bs) (h2 : 2 ≤ (partsL p).length) : goodL (ofL (partsL p).dropLast) = true ∧ partsL (ofL (partsL p).dropLast) = (partsL p).dropLast := by
  have hne : (partsL p).dropLast ≠ [] := by intro e; have := congrArg List.length e; simp at this; omega
  have hmem : ∀ s ∈ (partsL p).dropLast, s ∈ partsL p := fun s hs => List.dropLast_subset _ hs
  exact parts_of_names _ hne (fun s hs => (parts_name p s (hmem s hs)).1) (fun s hs => (parts_name p s (hmem s hs)).2) (by have := parts_len p; simp; omega) (parent_len p)
theorem top_parent (p q : Bs) (h : parentL p = some q) : topL q = topL p ∧ goodL q = true ∧ (partsL q).length + 1 = (partsL p).length := by
  unfold parentL at h
  split at h
  · cases h
  · rename_i h2
    simp only [Option.some.injEq] at h
    subst h
    obtain ⟨h3, h4⟩ := parent_good p (by omega)
    refine ⟨?_, h3, by rw [h4]; simp; omega⟩
    unfold topL
    rw [h4]
    cases hp : partsL p with
    | nil => simp [hp] at h2
    | cons a b =>
      cases b with
      | nil => simp [hp] at h2
      | cons c d => rfl
theorem good_inj (p q : Bs) (hp : goodL p = true) (hq : goodL q = true) (h : partsL p = partsL q) : p = q := by
  rw [← ofL_parts p hp, ← ofL_parts q hq, h]
end Av

/- Chapter 2 in plain Lean: numbers and texts in bytes, and back. No program. -/
namespace Av
set_option maxRecDepth 100000
open Go Go.RowKit
/-- An int64. -/
def I64 (v : Int) : Prop := -9223372036854775808 ≤ v ∧ v ≤ 9223372036854775807
def byteAt (v : Int) (i : Nat) : UInt8 := UInt8.ofNat ((v / 2 ^ (8 * i)) % 256).toNat
def be8 (v : Int) : Bs := [byteAt v 7, byteAt v 6, byteAt v 5, byteAt v 4, byteAt v 3, byteAt v 2, byteAt v 1, byteAt v 0]
def fold8 (l : Bs) : Nat := l.foldl (fun u b => u * 256 + b.toNat) 0
def un8 (l : Bs) : Int := wrap64 (fold8 l)
theorem byteAt_toNat (v : Int) (i : Nat) : ((byteAt v i).toNat : Int) = (v / 2 ^ (8 * i)) % 256 := by
  unfold byteAt
  have h0 : 0 ≤ (v / 2 ^ (8 * i)) % 256 := Int.emod_nonneg _ (by decide)
  have h1 : (v / 2 ^ (8 * i)) % 256 < 256 := Int.emod_lt_of_pos _ (by decide)
  have : ((v / 2 ^ (8 * i)) % 256).toNat < 256 := by omega
  rw [UInt8.toNat_ofNat', Nat.mod_eq_of_lt this]
  omega
theorem wrap64_eq (n : Int) : wrap64 n = (n + 9223372036854775808) % 18446744073709551616 - 9223372036854775808 := by
  unfold wrap64; first | rfl | simp
/-- u in k bytes. -/
def beN : Nat → Nat → Bs
  | 0, _ => []
  | k + 1, u => beN k (u / 256) ++ [UInt8.ofNat (u % 256)]
theorem fold8_snoc (l : Bs) (b : UInt8) : fold8 (l ++ [b]) = fold8 l * 256 + b.toNat := by unfold fold8; rw [List.foldl_append]; rfl
theorem ofNat_toNat {n : Nat} (h : n < 256) : (UInt8.ofNat n).toNat = n := by rw [UInt8.toNat_ofNat', Nat.mod_eq_of_lt h]
theorem fold8_beN : ∀ (k u : Nat), u < 256 ^ k → fold8 (beN k u) = u
  | 0, u, h => by simp at h; subst h; rfl
  | k + 1, u, h => by
    rw [Nat.pow_succ] at h
    rw [beN, fold8_snoc, fold8_beN k (u / 256) (by omega), ofNat_toNat (by omega)]
    omega
theorem beN_fold8 : ∀ (k : Nat) (l : Bs), l.length = k → beN k (fold8 l) = l ∧ fold8 l < 256 ^ k
  | 0, l, h => by rw [List.length_eq_zero_iff.1 h]; exact ⟨rfl, by decide⟩
  | k + 1, l, h => by
    rcases List.eq_nil_or_concat l with rfl | ⟨i, b, rfl⟩
    · simp at h
    · simp only [List.concat_eq_append, List.length_append, List.length_cons, List.length_nil] at h
      obtain ⟨h1, h2⟩ := beN_fold8 k i (by omega)
      have hb : b.toNat < 256 := b.toNat_lt
      rw [List.concat_eq_append, fold8_snoc, Nat.pow_succ]
      refine ⟨?_, by omega⟩
      rw [beN, show (fold8 i * 256 + b.toNat) / 256 = fold8 i by omega, show (fold8 i * 256 + b.toNat) % 256 = b.toNat by omega, h1]
      congr 2
      exact UInt8.toNat_inj.1 (ofNat_toNat hb)
theorem byteAt_eq (v : Int) (i m n : Nat) (hm : (2 : Int) ^ (8 * i) = m) (h : ((v / (m : Int)) % 256).toNat = n) : byteAt v i = UInt8.ofNat n := by
  unfold byteAt
  rw [hm, h]
theorem be8_beN (v : Int) : be8 v = beN 8 (v % 18446744073709551616).toNat := by
  have hu : ((v % 18446744073709551616).toNat : Int) = v % 18446744073709551616 := Int.toNat_of_nonneg (Int.emod_nonneg _ (by decide))
  generalize (v % 18446744073709551616).toNat = u at hu
  simp only [be8, beN, List.nil_append, List.cons_append, Nat.div_div_eq_div_mul, Nat.reduceMul]
  rw [byteAt_eq v 7 72057594037927936 (u / 72057594037927936 % 256) rfl (by omega), byteAt_eq v 6 281474976710656 (u / 281474976710656 % 256) rfl (by omega),
    byteAt_eq v 5 1099511627776 (u / 1099511627776 % 256) rfl (by omega), byteAt_eq v 4 4294967296 (u / 4294967296 % 256) rfl (by omega),
    byteAt_eq v 3 16777216 (u / 16777216 % 256) rfl (by omega), byteAt_eq v 2 65536 (u / 65536 % 256) rfl (by omega), byteAt_eq v 1 256 (u / 256 % 256) rfl (by omega), byteAt_eq v 0 1 (u % 256) rfl (by omega)]
theorem un8_be8 {v : Int} (h : I64 v) : un8 (be8 v) = v := by
  obtain ⟨h0, h1⟩ := h
  have hu : ((v % 18446744073709551616).toNat : Int) = v % 18446744073709551616 := Int.toNat_of_nonneg (Int.emod_nonneg _ (by decide))
  unfold un8
  rw [be8_beN, fold8_beN 8 _ (by omega), wrap64_eq, hu]
  omega
theorem be8_un8 (l : Bs) (h : l.length = 8) : be8 (un8 l) = l ∧ I64 (un8 l) := by
  obtain ⟨h1, h2⟩ := beN_fold8 8 l h
  unfold un8
  rw [be8_beN, wrap64_eq]
  generalize fold8 l = N at h1 h2
  have e : (((N : Int) + 9223372036854775808) % 18446744073709551616 - 9223372036854775808) % 18446744073709551616 = N := by omega
  refine ⟨by rw [e, Int.toNat_natCast]; exact h1, ?_⟩
  unfold I64
  omega
theorem be8_len (v : Int) : (be8 v).length = 8 := rfl
attribute [local irreducible] be8 un8

/-! A reader: what is left, or that something was not there. -/
abbrev Rd := Option Bs
def rdI : Rd → Int × Rd
  | some l => if 8 ≤ l.length then (un8 (l.take 8), some (l.drop 8)) else (0, none)
  | none => (0, none)
def rdC (most : Int) (s : Rd) : Int × Rd := if (rdI s).1 < 0 ∨ most < (rdI s).1 then (0, none) else rdI s
def rdT (most : Int) (s : Rd) : Bs × Rd := match rdC most s with
  | (n, some l) => if l.length < n.toNat then ([], none) else (l.take n.toNat, some (l.drop n.toNat))
  | (_, none) => ([], none)
def txt (s : Bs) : Bs := be8 s.length ++ s
theorem rdI_none : rdI none = (0, none) := rfl
theorem rdC_none {most : Int} : rdC most none = (0, none) := by unfold rdC; split <;> rfl
theorem rdT_none {most : Int} : rdT most none = ([], none) := by unfold rdT; rw [rdC_none]
theorem rdI_be8 {v : Int} (h : I64 v) (r : Bs) : rdI (some (be8 v ++ r)) = (v, some r) := by
  show (if 8 ≤ (be8 v ++ r).length then (un8 ((be8 v ++ r).take 8), some ((be8 v ++ r).drop 8)) else (0, none)) = _
  rw [if_pos (by simp [be8_len])]
  rw [List.take_append_of_le_length (by simp [be8_len]), List.drop_append_of_le_length (by simp [be8_len])]
  rw [List.take_of_length_le (by simp [be8_len]), List.drop_of_length_le (by simp [be8_len]), un8_be8 h]
  rfl
theorem rdI_some {s : Rd} {v : Int} {r : Bs} (h : rdI s = (v, some r)) : s = some (be8 v ++ r) ∧ I64 v := by
  cases s with
  | none => cases h
  | some l =>
    change (if 8 ≤ l.length then (un8 (l.take 8), some (l.drop 8)) else (0, none)) = _ at h
    split at h
    · rename_i h8
      simp only [Prod.mk.injEq, Option.some.injEq] at h
      obtain ⟨rfl, rfl⟩ := h
      obtain ⟨h1, h2⟩ := be8_un8 (l.take 8) (by simp; omega)
      exact ⟨by rw [h1, List.take_append_drop], h2⟩
    · cases h
theorem rdC_be8 {v most : Int} (h : I64 v) (h0 : 0 ≤ v) (h1 : v ≤ most) (r : Bs) : rdC most (some (be8 v ++ r)) = (v, some r) := by
  unfold rdC
  rw [rdI_be8 h]
  exact if_neg (by simp only [not_or]; omega)
theorem rdC_some {s : Rd} {most v : Int} {r : Bs} (h : rdC most s = (v, some r)) : s = some (be8 v ++ r) ∧ I64 v ∧ 0 ≤ v ∧ v ≤ most := by
  unfold rdC at h
  split at h
  · cases h
  · rename_i hc
    obtain ⟨h1, h2⟩ := rdI_some h
    rw [h] at hc
    simp only [not_or, Int.not_lt] at hc
    exact ⟨h1, h2, hc.1, hc.2⟩
theorem i64_len {n : Nat} (h : n ≤ 1000000) : I64 (n : Int) := ⟨by omega, by omega⟩
theorem rdT_of {most : Int} {s : Rd} {n : Nat} {l : Bs} (h : rdC most s = ((n : Int), some l)) (hl : n ≤ l.length) : rdT most s = (l.take n, some (l.drop n)) := by
  unfold rdT
  rw [h]
  show (if l.length < ((n : Int)).toNat then ([], none) else (l.take ((n : Int)).toNat, some (l.drop ((n : Int)).toNat))) = _
  rw [Int.toNat_natCast]
  exact if_neg (by omega)
theorem rdT_txt {most : Int} (t r : Bs) (h : (t.length : Int) ≤ most) (h2 : t.length ≤ 1000000) : rdT most (some (txt t ++ r)) = (t, some r) := by
  have e : rdC most (some (txt t ++ r)) = ((t.length : Int), some (t ++ r)) := by
    have := rdC_be8 (i64_len h2) (Int.natCast_nonneg _) h (t ++ r)
    unfold txt
    rwa [List.append_assoc]
  rw [rdT_of e (by simp), List.take_left, List.drop_left]
theorem rdT_some {s : Rd} {most : Int} {t r : Bs} (h : rdT most s = (t, some r)) : s = some (txt t ++ r) ∧ (t.length : Int) ≤ most := by
  unfold rdT at h
  split at h
  · rename_i n l hc
    split at h
    · cases h
    · rename_i hl
      simp only [Prod.mk.injEq, Option.some.injEq] at h
      obtain ⟨rfl, rfl⟩ := h
      obtain ⟨h1, h2, h3, h4⟩ := rdC_some hc
      have hlen : (l.take n.toNat).length = n.toNat := by simp; omega
      have hn : ((n.toNat : Nat) : Int) = n := by omega
      refine ⟨?_, by rw [hlen, hn]; exact h4⟩
      unfold txt
      rw [hlen, hn, List.append_assoc, List.take_append_drop]
      exact h1
  · cases h
end Av

/- Appending rows of k cells each, whatever they hold; appending a string's bytes. No program. -/
namespace Av
set_option maxRecDepth 100000
open Go Go.RowKit
/-- nil, or a slice that lies somewhere. -/
def Shp (u : Value) : Prop := u = .slice none 0 0 ∨ ∃ ad l c, u = .slice (some ad) l c
theorem Shp.some {ad : Addr} {l c : Nat} : Shp (.slice (some ad) l c) := .inr ⟨_, _, _, rfl⟩
theorem Shp.none : Shp (.slice none 0 0) := .inl rfl
theorem shp_owns {w : World} {base : Nat} {e : TypeId} {k : Nat} {v : Value} {n : Nat} {xs : List Value} (h : w.ownsRow base e k v n xs) : Shp v := by
  rcases h.2 with ⟨h, _⟩ | ⟨g, cap, cur, h, _⟩
  · exact .inl h
  · exact .inr ⟨_, _, _, h⟩
/-- What the type table says of an element's type. -/
def ElemOk (P : Program) (t e : TypeId) (k : Nat) : Prop := P.underlying t = some (.slice e) ∧ (P.info? e).map (fun i => (i.zero.map fun z => z.cells.size, i.size, decide (i.bytes ≤ 1000))) = some (some k, k, true)
theorem wpList_appK {P : Program} {ops : Array Oper} {rest : List Oper} {o : Oper} {a : Act} {Q : Exit → Act → World → Prop} {w : World} (t e : TypeId) (k : Nat) (hk : 0 < k) (hfacts : ElemOk P t e k)
    (hgd : o.guard = none) (s x : Operand) (ho : o.op = .call { callee := .builtin .append, args := #[s, x], argTypes := #[t, t] })
    (base : Nat) (v : Value) (n : Nat) (xs : List Value) (hs : a.eval s = v) (hown : w.ownsRow base e k v n xs)
    (u : Value) (m : Nat) (ys : List Value) (hx : a.eval x = u) (hu : Sl w k u m ys) (hsh : Shp u) (hone : ∀ y ∈ ys, y.oneCell' = true) (hn : n + m ≤ 100000000000) (hbase : base ≤ w.heap.size)
    (h : ∀ v' w', w'.ownsRow base e k v' (n + m) (xs ++ ys) → Kp (fun k => v.ownBlock = some k) w w' → wpList P ops Q rest (a.put o.dst v') w') : wpList P ops Q (o :: rest) a w := by
  obtain ⟨ht, hi⟩ := hfacts
  cases hie : P.info? e with
  | none => simp [hie] at hi
  | some i =>
    simp only [hie, Option.map_some, Option.some.injEq, Prod.mk.injEq, decide_eq_true_eq] at hi
    obtain ⟨hz, hsz, hby⟩ := hi
    cases hze : i.zero with
    | none => simp [hze] at hz
    | some z =>
      simp only [hze, Option.map_some, Option.some.injEq] at hz
      rcases hsh with hsh | ⟨ad, l, c, hsh⟩
      · obtain ⟨a2, c2, hv, _, _, hyl, _⟩ := Sl.open hu
        have h0 : m = 0 := by rw [hsh] at hv; simp at hv; exact hv.2.1.symm ▸ rfl
        subst h0
        obtain rfl : ys = [] := List.length_eq_zero_iff.1 (by simpa using hyl)
        refine wpList_append_own_none hgd s x t ho base e i k ht hie v n xs hs hown (hx.trans hsh) ?_
        exact h v w (by simpa using hown) (Kp.refl _ w)
      · obtain ⟨a2, c2, hv, _, _, hyl, hcells⟩ := Sl.open hu
        rw [hsh] at hv
        simp at hv
        obtain ⟨h1, h2, h3⟩ := hv
        subst h2 h3
        have hnb : (n + l) * i.bytes ≤ 140737488355328 := by
          have := Nat.mul_le_mul hn hby
          omega
        refine wpList_append_own w hgd s x t ho base e i z k i.bytes ht hie hze hsz rfl hz hk v n xs hs hown ad l _ ys (hx.trans hsh) hyl ?_ hone (by unfold maxLen; omega) hnb hbase ?_
        · intro j u' hj
          have hj' : j < l * k := by have := (List.getElem?_eq_some_iff.1 hj).1; omega
          have hl0 : 0 < l := by
            rcases Nat.eq_zero_or_pos l with h0 | h0
            · subst h0; simp at hj'
            · exact h0
          obtain ⟨b, off, e2, _, hc⟩ := hcells hl0
          rw [← h1] at e2
          obtain rfl : ad = ⟨b, off, none⟩ := by simpa using e2
          rw [show (⟨b, off, none⟩ : Addr).add j = ⟨b, off + j, none⟩ by by_cases h : j = 0 <;> simp [Addr.add, h]]
          exact hc j u' hj
        · intro v' w' h1 h2 _
          exact h v' w' h1 ((Kp.refl _ w).grown h2 (fun k hk _ => hk))

/-! Bytes. -/
def byteV (b : UInt8) : Value := .int .u8 (b.toNat : Int)
/-- A slice of bytes that can be read. -/
def BytesR (w : World) (v : Value) (bs : List UInt8) : Prop := Sl w 1 v bs.length (bs.map byteV) ∧ Shp v
theorem BytesR.ext {w w' : World} {v : Value} {bs : List UInt8} (h : BytesR w v bs) (k : Ext w w') : BytesR w' v bs := ⟨h.1.ext k, h.2⟩
theorem BytesR.kp {S : Nat → Prop} {w w' : World} {v : Value} {bs : List UInt8} (h : BytesR w v bs) (k : Kp S w w') (hs : ∀ b, v.ownBlock = some b → b < w.heap.size → ¬ S b) : BytesR w' v bs := ⟨h.1.kp k hs, h.2⟩
theorem BytesR.nil (w : World) : BytesR w (.slice none 0 0) [] := ⟨Sl.nil w 1, .inl rfl⟩
theorem byteV_one (bs : List UInt8) : ∀ y ∈ bs.map byteV, y.oneCell' = true := by
  intro y hy
  obtain ⟨b, _, rfl⟩ := List.mem_map.1 hy
  rfl
theorem BytesR.open {w : World} {v : Value} {bs : List UInt8} (h : BytesR w v bs) :
    ∃ a c, v = .slice a bs.length c ∧ bs.length ≤ c ∧ bs.length ≤ maxLen ∧ (0 < bs.length → ∃ b off, a = some ⟨b, off, none⟩ ∧ b < w.heap.size ∧ ∀ i (hi : i < bs.length), w.cell? ⟨b, off + i, none⟩ = some (byteV bs[i])) := by
  obtain ⟨a, c, rfl, hcc, h1, h2, h3⟩ := Sl.open h.1
  refine ⟨a, c, rfl, hcc, h1, fun hn => ?_⟩
  obtain ⟨b, off, rfl, hb, hc⟩ := h3 hn
  exact ⟨b, off, rfl, hb, fun i hi => hc i _ (by rw [List.getElem?_map, List.getElem?_eq_getElem hi]; rfl)⟩
theorem strCells_map (s : ByteArray) : Go.Lib.strCells s = s.data.toList.map byteV := by
  unfold Go.Lib.strCells byteV; first | rfl | simp
theorem wpList_appStr {P : Program} {ops : Array Oper} {rest : List Oper} {o : Oper} {a : Act} {Q : Exit → Act → World → Prop} {w : World} (t u e : TypeId)
    (hfacts : (P.underlying t = some (.slice e) ∧ P.underlying u = some .string) ∧ (P.info? e).map (fun i => (i.zero, i.size, i.bytes)) = some (some (.int .u8 0), 1, 1))
    (hgd : o.guard = none) (sl x : Operand) (ho : o.op = .call { callee := .builtin .append, args := #[sl, x], argTypes := #[t, u] })
    (base : Nat) (v : Value) (bs : List UInt8) (hs : a.eval sl = v) (hown : w.ownsRow base e 1 v bs.length (bs.map byteV)) (s : ByteArray) (hx : a.eval x = .string s) (hn : bs.length + s.size ≤ 100000000000) (hbase : base ≤ w.heap.size)
    (h : ∀ v' w', w'.ownsRow base e 1 v' (bs ++ s.data.toList).length ((bs ++ s.data.toList).map byteV) → Kp (fun k => v.ownBlock = some k) w w' → wpList P ops Q rest (a.put o.dst v') w') : wpList P ops Q (o :: rest) a w := by
  obtain ⟨⟨ht, hu⟩, hi⟩ := hfacts
  cases hie : P.info? e with
  | none => simp [hie] at hi
  | some i =>
    simp only [hie, Option.map_some, Option.some.injEq, Prod.mk.injEq] at hi
    obtain ⟨hz, hsz, hby⟩ := hi
    refine Go.Lib.wpList_append_own_string (w := w) hgd sl x t u ho base e i ht hu hie hz hsz hby v _ _ hs hown s hx (by unfold maxLen; omega) (by omega) hbase ?_
    intro v' w' h1 h2 _
    refine h v' w' ?_ ((Kp.refl _ w).grown h2 (fun k hk _ => hk))
    rw [strCells_map, ← List.map_append, Lib.size_eq, ← List.length_append] at h1
    exact h1
def mkS (l : List UInt8) : ByteArray := ⟨l.toArray⟩
theorem mkS_list (l : List UInt8) : (mkS l).data.toList = l := rfl
theorem mkS_of (s : ByteArray) : mkS s.data.toList = s := rfl
theorem mkS_size (l : List UInt8) : (mkS l).size = l.length := rfl
/-- A block known whole. -/
def Blk (w : World) (g : Nat) (cs : Array Value) (T : TypeId) : Prop := w.heap[g]? = some (.cells cs T (0, 0))
theorem Blk.cell {w : World} {g : Nat} {cs : Array Value} {T : TypeId} (h : Blk w g cs T) (i : Nat) (v : Value) (hv : cs[i]? = some v) : w.cell? ⟨g, i, none⟩ = some v := by
  unfold Blk at h
  simp [World.cell?, h, hv]
theorem Blk.free {w : World} {g : Nat} {cs : Array Value} {T : TypeId} (h : Blk w g cs T) (i : Nat) : w.frozen? ⟨g, i, none⟩ = false := by
  unfold Blk at h
  simp [World.frozen?, h]
theorem Blk.set {w : World} {g : Nat} {cs : Array Value} {T : TypeId} (h : Blk w g cs T) (i : Nat) (u : Value) : Blk (w.setCell ⟨g, i, none⟩ u) g (cs.setIfInBounds i u) T := by
  unfold Blk at *
  simp [World.setCell, Array.getElem?_modify, h]
theorem Blk.kp {S : Nat → Prop} {w w' : World} {g : Nat} {cs : Array Value} {T : TypeId} (h : Blk w g cs T) (k : Kp S w w') (hs : ¬ S g) : Blk w' g cs T := k.obj h hs
theorem Blk.lt {w : World} {g : Nat} {cs : Array Value} {T : TypeId} (h : Blk w g cs T) : g < w.heap.size := (Array.getElem?_eq_some_iff.1 h).1

theorem Kp.set1 {S : Nat → Prop} {a w : World} (h : Kp S a w) (g i : Nat) (u : Value) (hs : S g) : Kp S a (w.setCell ⟨g, i, none⟩ u) := h.setCell ⟨g, i, none⟩ u (fun _ => hs)
end Av
