/- Texts put together: AvPath, AvPathLaw, AvBase. -/
import Derived.Lib.SplitLaws
import Derived.Lib.Strings
import Derived.Lib.Join
import Derived.Lib.ItoaNum
import Derived.WalkKit
import Derived.WalkSpells
import Derived.WalkLawsBesides
import Derived.Lib.Hide
import Derived.Deep.Light

/- Paths as lists of bytes: what chapter 1 says, in plain Lean. No program. -/
namespace Av
set_option maxRecDepth 100000
abbrev Bs := List UInt8

def sign (c : UInt8) : Bool := decide (33 ≤ c) && decide (c ≤ 126)
/-- May a text without strokes be a name? -/
def nameL (l : Bs) : Bool := l.all sign && decide (1 ≤ l.length) && decide (l.length ≤ 40) && (l != [46]) && (l != [46, 46])
/-- A text cut at each stroke. -/
def cut : Bs → List Bs
  | [] => [[]]
  | c :: t => if c = 47 then [] :: cut t else match cut t with
    | h :: r => (c :: h) :: r
    | [] => [[c]]
theorem cut_ne (l : Bs) : cut l ≠ [] := by
  cases l with
  | nil => simp [cut]
  | cons c t =>
    unfold cut
    split
    · simp
    · split <;> simp
theorem cut_snoc (l : Bs) (c : UInt8) (h : c ≠ 47) : ∃ i x, cut l = i ++ [x] ∧ cut (l ++ [c]) = i ++ [x ++ [c]] := by
  induction l with
  | nil => exact ⟨[], [], by simp [cut], by simp [cut, h]⟩
  | cons d t ih =>
    obtain ⟨i, x, e1, e2⟩ := ih
    by_cases hd : d = 47
    · exact ⟨[] :: i, x, by simp [cut, hd, e1], by simp [cut, hd, e2]⟩
    · cases i with
      | nil => exact ⟨[], d :: x, by simp [cut, hd, e1], by simp [cut, hd, e2]⟩
      | cons a i => exact ⟨(d :: a) :: i, x, by simp [cut, hd, e1], by simp [cut, hd, e2]⟩
theorem cut_length (l : Bs) : (cut l).length = l.count 47 + 1 := by
  induction l with
  | nil => simp [cut]
  | cons c t ih =>
    unfold cut
    by_cases h : c = 47
    · subst h; simp [ih]
    · simp only [h, if_false]
      cases ht : cut t with
      | nil => exact absurd ht (cut_ne t)
      | cons a b => simp only [ht, List.length_cons] at ih ⊢; rw [List.count_cons_of_ne (by simpa using h)]; exact ih
/-- No piece holds a stroke. -/
theorem cut_free (l : Bs) : ∀ s ∈ cut l, (47 : UInt8) ∉ s := by
  induction l with
  | nil => simp [cut]
  | cons c t ih =>
    unfold cut
    by_cases h : c = 47
    · simp only [h, if_true, List.mem_cons]
      rintro s (rfl | hs)
      · simp
      · exact ih s hs
    · simp only [h, if_false]
      cases ht : cut t with
      | nil => exact absurd ht (cut_ne t)
      | cons a b =>
        intro s hs
        simp only [List.mem_cons] at hs
        rcases hs with rfl | hs
        · have := ih a (by rw [ht]; simp)
          simp only [List.mem_cons, not_or]; exact ⟨fun e => h e.symm, this⟩
        · exact ih s (by rw [ht]; simp [hs])
theorem cut_len_le (l : Bs) : ∀ s ∈ cut l, s.length ≤ l.length := by
  induction l with
  | nil => simp [cut]
  | cons c t ih =>
    unfold cut
    by_cases h : c = 47
    · simp only [h, if_true, List.mem_cons, List.length_cons]
      rintro s (rfl | hs)
      · simp
      · have := ih s hs; omega
    · simp only [h, if_false]
      cases ht : cut t with
      | nil => exact absurd ht (cut_ne t)
      | cons a b =>
        intro s hs
        simp only [List.mem_cons] at hs
        rcases hs with rfl | hs
        · have := ih a (by rw [ht]; simp); simp; omega
        · have := ih s (by rw [ht]; simp [hs]); simp; omega
theorem splitK_cons (k : Nat) (c : UInt8) (t : Bs) (h : c ≠ 47) : ∃ a b, Go.Lib.splitK [47] 0 k t = a :: b ∧ Go.Lib.splitK [47] 0 k (c :: t) = (c :: a) :: b := by
  cases k with
  | zero => exact ⟨t, [], rfl, rfl⟩
  | succ k =>
    have hp : List.isPrefixOf [47] (c :: t) = false := by
      simp only [List.isPrefixOf, Bool.and_true]
      simpa using fun e => h e.symm
    have hi : Go.Lib.index (c :: t) [47] = if Go.Lib.index t [47] == -1 then -1 else Go.Lib.index t [47] + 1 := by
      simp only [Go.Lib.index, hp]; rfl
    have hge := Go.Lib.index_ge t [47]
    unfold Go.Lib.splitK
    by_cases hm : Go.Lib.index t [47] = -1
    · simp [hm, hi]
    · have e1 : (Go.Lib.index t [47] == -1) = false := by simpa using hm
      have e2 : (Go.Lib.index t [47] + 1 == -1) = false := by simp; omega
      have e3 : (Go.Lib.index t [47] + 1).toNat = (Go.Lib.index t [47]).toNat + 1 := by omega
      simp [hi, e1, e2, e3]
theorem splitK_cut : ∀ (s : Bs) (k : Nat), s.count 47 = k → Go.Lib.splitK [47] 0 k s = cut s := by
  intro s
  induction s with
  | nil => intro k h; simp at h; subst h; simp [Go.Lib.splitK, cut]
  | cons c t ih =>
    intro k h
    by_cases hc : c = 47
    · subst hc
      simp at h
      subst h
      have hi : Go.Lib.index (47 :: t) [47] = 0 := by simp [Go.Lib.index, List.isPrefixOf]
      unfold Go.Lib.splitK cut
      simp [hi, ih _ rfl]
    · have hk : t.count 47 = k := by rw [List.count_cons_of_ne (by simpa using hc)] at h; exact h
      obtain ⟨a, b, e1, e2⟩ := splitK_cons k c t hc
      rw [e2]
      have := ih k hk
      rw [e1] at this
      unfold cut
      simp [hc, ← this]

/-- Is a text a path? -/
def goodL (p : Bs) : Bool := match p with
  | [] => false
  | c :: t => (c == 47) && decide (p.length ≤ 200) && (cut t).all nameL && decide ((cut t).length ≤ 8)
def partsL (p : Bs) : List Bs := if goodL p then cut (p.drop 1) else []
def ofL (l : List Bs) : Bs := l.flatMap fun s => 47 :: s
def parentL (p : Bs) : Option Bs := if (partsL p).length < 2 then none else some (ofL (partsL p).dropLast)
def topL (p : Bs) : Bs := (partsL p).headD []
def lastL (p : Bs) : Bs := (partsL p).getLastD []

theorem good_iff_parts (p : Bs) : goodL p = true ↔ partsL p ≠ [] := by
  unfold partsL
  by_cases h : goodL p = true
  · simp [h, cut_ne]
  · simp [h]
theorem good_head (p : Bs) (h : goodL p = true) : ∃ t, p = 47 :: t ∧ t.length < 200 ∧ (cut t).all nameL = true ∧ (cut t).length ≤ 8 ∧ partsL p = cut t := by
  cases p with
  | nil => simp [goodL] at h
  | cons c t =>
    have h' := h
    simp only [goodL, Bool.and_eq_true, decide_eq_true_eq, beq_iff_eq, List.length_cons] at h'
    obtain ⟨⟨⟨rfl, h2⟩, h3⟩, h4⟩ := h'
    exact ⟨t, rfl, by omega, h3, h4, by simp [partsL, h]⟩
theorem parts_len (p : Bs) : (partsL p).length ≤ 8 := by
  by_cases h : goodL p = true
  · obtain ⟨t, rfl, _, _, h4, h5⟩ := good_head p h
    rw [h5]; exact h4
  · simp [partsL, h]
theorem parts_name (p : Bs) : ∀ s ∈ partsL p, nameL s = true ∧ (47 : UInt8) ∉ s := by
  by_cases h : goodL p = true
  · obtain ⟨t, rfl, _, h3, _, h5⟩ := good_head p h
    rw [h5]
    intro s hs
    exact ⟨List.all_eq_true.1 h3 s hs, cut_free t s hs⟩
  · simp [partsL, h]
theorem join_ofL : ∀ (l : List Bs), l ≠ [] → 47 :: Go.Lib.join l [47] = ofL l
  | [], h => absurd rfl h
  | [x], _ => by simp [Go.Lib.join, List.intercalate, ofL]
  | x :: y :: r, _ => by
    have ih := join_ofL (y :: r) (by simp)
    have e : Go.Lib.join (x :: y :: r) [47] = x ++ 47 :: Go.Lib.join (y :: r) [47] := by simp [Go.Lib.join, List.intercalate]
    rw [e, ih]
    simp [ofL]
theorem ofL_dropLast (l : List Bs) : (ofL l.dropLast).length ≤ (ofL l).length := by
  unfold ofL
  rw [List.length_flatMap, List.length_flatMap]
  cases h : l.getLast? with
  | none => rw [List.getLast?_eq_none_iff.1 h]; simp
  | some x =>
    obtain ⟨i, rfl⟩ := List.getLast?_eq_some_iff.1 h
    simp
theorem ofL_cut (t : Bs) : ofL (cut t) = 47 :: t := by
  induction t with
  | nil => simp [cut, ofL]
  | cons c t ih =>
    unfold cut
    by_cases h : c = 47
    · subst h
      simp only [if_true, ofL, List.flatMap_cons, List.singleton_append] at ih ⊢
      rw [ih]
    · simp only [h, if_false]
      cases ht : cut t with
      | nil => exact absurd ht (cut_ne t)
      | cons a b =>
        rw [ht] at ih
        simp only [ofL, List.flatMap_cons, List.cons_append, List.cons.injEq, true_and] at ih ⊢
        rw [ih]
theorem good_cons' (t : Bs) (h : t.length < 200) : goodL (47 :: t) = ((cut t).all nameL && decide ((cut t).length ≤ 8)) := by
  have : decide ((47 :: t).length ≤ 200) = true := by simp; omega
  simp only [goodL, this, beq_self_eq_true, Bool.true_and]
theorem good_len (p : Bs) (h : goodL p = true) : 2 ≤ p.length ∧ p.length ≤ 200 := by
  obtain ⟨t, rfl, h1, h2, _, _⟩ := good_head p h
  refine ⟨?_, by simp; omega⟩
  cases t with
  | nil => simp [cut, nameL] at h2
  | cons c t => simp
theorem ofL_parts (p : Bs) (h : goodL p = true) : ofL (partsL p) = p := by
  obtain ⟨t, rfl, _, _, _, h5⟩ := good_head p h
  rw [h5, ofL_cut]
theorem parent_len (p : Bs) : (ofL (partsL p).dropLast).length ≤ 200 := by
  by_cases h : goodL p = true
  · have h1 := ofL_dropLast (partsL p)
    rw [ofL_parts p h] at h1
    have := good_len p h
    omega
  · simp [partsL, h, ofL]
theorem cut_names : ∀ (l : List Bs), l ≠ [] → (∀ s ∈ l, (47 : UInt8) ∉ s) → cut ((ofL l).drop 1) = l
  | [], h, _ => absurd rfl h
  | [s], hne, h => by
    have hs := h s (by simp)
    simp only [ofL, List.flatMap_cons, List.flatMap_nil, List.append_nil, List.drop_succ_cons, List.drop_zero]
    clear h hne
    induction s with
    | nil => rfl
    | cons c t ih =>
      simp only [List.mem_cons, not_or] at hs
      have hc : ¬ c = 47 := fun e => hs.1 e.symm
      simp [cut, hc, ih hs.2]
  | s :: y :: r, hne, h => by
    have ih := cut_names (y :: r) (by simp) (fun x hx => h x (List.mem_cons_of_mem _ hx))
    have hs := h s (by simp)
    have e : (ofL (s :: y :: r)).drop 1 = s ++ 47 :: (ofL (y :: r)).drop 1 := by simp [ofL]
    rw [e]
    clear h e hne
    generalize (ofL (y :: r)).drop 1 = z at ih ⊢
    induction s with
    | nil => simp [cut, ih]
    | cons c t ih2 =>
      simp only [List.mem_cons, not_or] at hs
      have hc : ¬ c = 47 := fun e => hs.1 e.symm
      simp only [List.cons_append, cut, hc, if_false, ih2 hs.2]
theorem ofL_head (l : List Bs) (h : l ≠ []) : ofL l = 47 :: (ofL l).drop 1 := by
  cases l with
  | nil => exact absurd rfl h
  | cons a b => simp [ofL]
/-- A path of names is a path, and these are its names. -/
theorem parts_of_names (l : List Bs) (h : l ≠ []) (hn : ∀ s ∈ l, nameL s = true) (hf : ∀ s ∈ l, (47 : UInt8) ∉ s) (h8 : l.length ≤ 8) (hl : (ofL l).length ≤ 200) : goodL (ofL l) = true ∧ partsL (ofL l) = l := by
  have hc := cut_names l h hf
  have hg : goodL (ofL l) = true := by
    obtain ⟨t, ht⟩ : ∃ t, ofL l = 47 :: t := ⟨_, ofL_head l h⟩
    rw [ht] at hl hc ⊢
    simp only [List.drop_succ_cons, List.drop_zero] at hc
    simp only [List.length_cons] at hl
    rw [good_cons' _ (by omega), hc]
    simp only [Bool.and_eq_true, decide_eq_true_eq]
    exact ⟨List.all_eq_true.2 hn, h8⟩
  exact ⟨hg, by unfold partsL; rw [hg, if_pos rfl]; exact hc⟩
theorem parent_good (p : Bs) (h2 : 2 ≤ (partsL p).length) : goodL (ofL (partsL p).dropLast) = true ∧ partsL (ofL (partsL p).dropLast) = (partsL p).dropLast := by
  have hne : (partsL p).dropLast ≠ [] := by intro e; have := congrArg List.length e; simp at this; omega
  have hmem : ∀ s ∈ (partsL p).dropLast, s ∈ partsL p := fun s hs => List.dropLast_subset _ hs
  exact parts_of_names _ hne (fun s hs => (parts_name p s (hmem s hs)).1) (fun s hs => (parts_name p s (hmem s hs)).2) (by have := parts_len p; simp; omega) (parent_len p)
theorem top_parent (p q : Bs) (h : parentL p = some q) : topL q = topL p ∧ goodL q = true ∧ (partsL q).length + 1 = (partsL p).length := by
  unfold parentL at h
  split at h
  · cases h
  · rename_i h2
    simp only [Option.some.injEq] at h
    subst h
    obtain ⟨h3, h4⟩ := parent_good p (by omega)
    refine ⟨?_, h3, by rw [h4]; simp; omega⟩
    unfold topL
    rw [h4]
    cases hp : partsL p with
    | nil => simp [hp] at h2
    | cons a b =>
      cases b with
      | nil => simp [hp] at h2
      | cons c d => rfl
end Av

/- More laws of chapter 1: what is within, what is above, numbered paths. No program. -/
namespace Av
set_option maxRecDepth 100000
theorem cut_app (a r : Bs) : cut (a ++ 47 :: r) = cut a ++ cut r := by
  induction a with
  | nil => simp [cut]
  | cons c t ih =>
    by_cases h : c = 47
    · subst h; simp [cut, ih]
    · simp only [List.cons_append, cut, h, if_false, ih]
      cases ht : cut t with
      | nil => exact absurd ht (cut_ne t)
      | cons a b => simp
theorem cut_app_free (d : Bs) : ∀ (t : Bs), (47 : UInt8) ∉ d → ∃ i x, cut t = i ++ [x] ∧ cut (t ++ d) = i ++ [x ++ d] := by
  induction d with
  | nil =>
    intro t _
    rcases List.eq_nil_or_concat (cut t) with h | ⟨i, x, h⟩
    · exact absurd h (cut_ne t)
    · exact ⟨i, x, by simpa using h, by simpa using h⟩
  | cons c d ih =>
    intro t h
    simp only [List.mem_cons, not_or] at h
    obtain ⟨i, x, e1, e2⟩ := cut_snoc t c (fun e => h.1 e.symm)
    obtain ⟨i', x', e3, e4⟩ := ih (t ++ [c]) h.2
    rw [e2] at e3
    obtain ⟨rfl, h3⟩ := List.append_inj' e3 rfl
    simp only [List.cons.injEq, and_true] at h3
    subst h3
    exact ⟨i, x, e1, by rw [show t ++ c :: d = t ++ [c] ++ d by simp, e4]; simp⟩
theorem cut_one {s : Bs} (h : (cut s).length = 1) : cut s = [s] := by
  have h47 : (47 : UInt8) ∉ s := by
    rw [cut_length] at h
    exact List.count_eq_zero.1 (by omega)
  obtain ⟨i, x, e1, e2⟩ := cut_app_free s [] h47
  simp only [cut, List.nil_append] at e1 e2
  cases i with
  | nil => simp at e1; subst e1; simpa using e2
  | cons a b => simp at e1

/-! Within. -/
theorem ofL_app (a b : List Bs) : ofL (a ++ b) = ofL a ++ ofL b := by simp [ofL]
/-! What is above. -/
/-! PathDeeper. -/
theorem deeper_parts {p s : Bs} (hp : goodL p = true) (hq : goodL (p ++ (47 :: s)) = true) : partsL (p ++ (47 :: s)) = partsL p ++ cut s := by
  obtain ⟨t, rfl, _, _, _, h5⟩ := good_head p hp
  obtain ⟨t', ht', _, _, _, h5'⟩ := good_head _ hq
  rw [h5', h5]
  have : t' = t ++ 47 :: s := by simpa using ht'.symm
  rw [this, cut_app]
/-! PathApart. -/
/-! Numbers. -/
def padL (n : Nat) : Bs := List.replicate (10 - (Go.Lib.decDigits n).length) 48 ++ Go.Lib.decDigits n
def numberL (p : Bs) (n : Int) : Option Bs := if (goodL p && (decide (0 ≤ n) && decide (n ≤ 2147483647))) && goodL (p ++ padL n.toNat) then some (p ++ padL n.toNat) else none
/-- u in k digits. -/
def fw : Nat → Nat → Bs
  | 0, _ => []
  | k + 1, u => fw k (u / 10) ++ [UInt8.ofNat (48 + u % 10)]
theorem fw_zero (k : Nat) : fw k 0 = List.replicate k 48 := by
  induction k with
  | zero => rfl
  | succ k ih => simp [fw, ih, List.replicate_succ']
theorem fw_len (k u : Nat) : (fw k u).length = k := by
  induction k generalizing u with
  | zero => rfl
  | succ k ih => simp [fw, ih]
theorem nDigits_le : ∀ (k u : Nat), u < 10 ^ (k + 1) → Go.Lib.nDigits u ≤ k + 1
  | 0, u, h => by rw [Go.Lib.nDigits_small (by simpa using h)]; exact Nat.le_refl _
  | k + 1, u, h => by
    by_cases h10 : u < 10
    · rw [Go.Lib.nDigits_small h10]; omega
    · rw [Go.Lib.nDigits_big h10]
      have := nDigits_le k (u / 10) (by rw [Nat.pow_succ] at h; omega)
      omega
theorem fw_dec : ∀ (k u : Nat), 1 ≤ k → Go.Lib.nDigits u ≤ k → List.replicate (k - Go.Lib.nDigits u) 48 ++ Go.Lib.decDigits u = fw k u
  | 0, _, h, _ => absurd h (by omega)
  | k + 1, u, _, h => by
    by_cases h10 : u < 10
    · rw [Go.Lib.nDigits_small h10, Go.Lib.decDigits, dif_pos h10]
      have e : u / 10 = 0 := by omega
      have e2 : u % 10 = u := by omega
      simp only [fw, e, e2, fw_zero, Nat.add_sub_cancel]
    · rw [Go.Lib.nDigits_big h10] at h ⊢
      rw [Go.Lib.decDigits, dif_neg h10]
      have hk : 1 ≤ k := by have := Go.Lib.nDigits_pos (u / 10); omega
      have := fw_dec k (u / 10) hk (by omega)
      unfold fw
      rw [← this, ← List.append_assoc]
      congr 3
      omega
theorem padL_fw {n : Nat} (h : n ≤ 2147483647) : padL n = fw 10 n := by
  unfold padL
  rw [Go.Lib.decDigits_length]
  exact fw_dec 10 n (by omega) (nDigits_le 9 n (by omega))
theorem padL_len {n : Nat} (h : n ≤ 2147483647) : (padL n).length = 10 := by rw [padL_fw h, fw_len]
theorem dec_len {n : Nat} (h : n ≤ 2147483647) : 1 ≤ (Go.Lib.decDigits n).length ∧ (Go.Lib.decDigits n).length ≤ 10 := by
  rw [Go.Lib.decDigits_length]
  exact ⟨Go.Lib.nDigits_pos n, nDigits_le 9 n (by omega)⟩
theorem fw_free (k u : Nat) : (47 : UInt8) ∉ fw k u := by
  induction k generalizing u with
  | zero => simp [fw]
  | succ k ih =>
    simp only [fw, List.mem_append, List.mem_singleton, not_or]
    refine ⟨ih _, fun e => ?_⟩
    have h1 := congrArg UInt8.toNat e
    have h2 : (47 : UInt8).toNat = 47 := rfl
    have h3 : (UInt8.ofNat (48 + u % 10)).toNat = 48 + u % 10 := by
      have : 48 + u % 10 < 256 := by omega
      simp [UInt8.toNat_ofNat, Nat.mod_eq_of_lt this]
    omega
theorem dig_lt {a b : Nat} (ha : a < 10) (hb : b < 10) : UInt8.ofNat (48 + a) < UInt8.ofNat (48 + b) ↔ a < b := by
  rw [UInt8.lt_iff_toNat_lt]
  have h1 : (UInt8.ofNat (48 + a)).toNat = 48 + a := by
    have : 48 + a < 256 := by omega
    simp [UInt8.toNat_ofNat, Nat.mod_eq_of_lt this]
  have h2 : (UInt8.ofNat (48 + b)).toNat = 48 + b := by
    have : 48 + b < 256 := by omega
    simp [UInt8.toNat_ofNat, Nat.mod_eq_of_lt this]
  rw [h1, h2]; omega
theorem dig_eq {a b : Nat} (ha : a < 10) (hb : b < 10) : UInt8.ofNat (48 + a) = UInt8.ofNat (48 + b) ↔ a = b := by
  constructor
  · intro e
    have h1 : ¬ UInt8.ofNat (48 + a) < UInt8.ofNat (48 + b) := by rw [e]; exact UInt8.lt_irrefl _
    have h2 : ¬ UInt8.ofNat (48 + b) < UInt8.ofNat (48 + a) := by rw [e]; exact UInt8.lt_irrefl _
    rw [dig_lt ha hb] at h1
    rw [dig_lt hb ha] at h2
    omega
  · rintro rfl; rfl
theorem fw_inj : ∀ (k a b : Nat), a < 10 ^ k → b < 10 ^ k → (fw k a = fw k b ↔ a = b)
  | 0, a, b, ha, hb => by simp at ha hb; simp [fw, ha, hb]
  | k + 1, a, b, ha, hb => by
    rw [Nat.pow_succ] at ha hb
    have ih := fw_inj k (a / 10) (b / 10) (by omega) (by omega)
    constructor
    · intro h
      unfold fw at h
      obtain ⟨h1, h2⟩ := List.append_inj' h rfl
      simp only [List.cons.injEq, and_true] at h2
      have h3 := ih.1 h1
      have h4 := (dig_eq (by omega) (by omega)).1 h2
      omega
    · rintro rfl; rfl
theorem lex_snoc : ∀ (x y : Bs) (c d : UInt8), x.length = y.length → (x ++ [c] < y ++ [d] ↔ x < y ∨ (x = y ∧ c < d))
  | [], [], c, d, _ => by simp [List.cons_lt_cons_iff]
  | [], _ :: _, _, _, h => by simp at h
  | _ :: _, [], _, _, h => by simp at h
  | a :: x, b :: y, c, d, h => by
    have ih := lex_snoc x y c d (by simpa using h)
    simp only [List.cons_append, List.cons_lt_cons_iff, ih, List.cons.injEq]
    constructor
    · rintro (h | ⟨h, h1 | h1⟩)
      · exact .inl (.inl h)
      · exact .inl (.inr ⟨h, h1⟩)
      · exact .inr ⟨⟨h, h1.1⟩, h1.2⟩
    · rintro ((h | h) | ⟨⟨h, h1⟩, h2⟩)
      · exact .inl h
      · exact .inr ⟨h.1, .inl h.2⟩
      · exact .inr ⟨h, .inr ⟨h1, h2⟩⟩
theorem fw_lt : ∀ (k a b : Nat), a < 10 ^ k → b < 10 ^ k → (fw k a < fw k b ↔ a < b)
  | 0, a, b, ha, hb => by simp at ha hb; subst ha hb; simp [fw]
  | k + 1, a, b, ha, hb => by
    rw [Nat.pow_succ] at ha hb
    have ih := fw_lt k (a / 10) (b / 10) (by omega) (by omega)
    have ij := fw_inj k (a / 10) (b / 10) (by omega) (by omega)
    unfold fw
    rw [lex_snoc _ _ _ _ (by rw [fw_len, fw_len]), ih, ij, dig_lt (by omega) (by omega)]
    omega
theorem lex_app (p x y : Bs) : p ++ x < p ++ y ↔ x < y := by
  induction p with
  | nil => simp
  | cons c p ih =>
    simp only [List.cons_append, List.cons_lt_cons_iff, ih]
    constructor
    · rintro (h | h)
      · exact absurd h (UInt8.lt_irrefl _)
      · exact h.2
    · intro h; exact .inr ⟨trivial, h⟩
theorem number_some {p : Bs} {n : Int} {s : Bs} (h : numberL p n = some s) : goodL p = true ∧ 0 ≤ n ∧ n ≤ 2147483647 ∧ s = p ++ fw 10 n.toNat ∧ goodL s = true := by
  unfold numberL at h
  split at h
  · rename_i hc
    simp only [Bool.and_eq_true, decide_eq_true_eq] at hc
    obtain ⟨⟨h1, h2, h3⟩, h4⟩ := hc
    simp only [Option.some.injEq] at h
    subst h
    exact ⟨h1, h2, h3, by rw [padL_fw (by omega)], h4⟩
  · cases h
theorem number_parts {p d : Bs} (hd : (47 : UInt8) ∉ d) (hp : goodL p = true) (hq : goodL (p ++ d) = true) : ∃ i x, partsL p = i ++ [x] ∧ partsL (p ++ d) = i ++ [x ++ d] := by
  obtain ⟨t, rfl, _, _, _, h5⟩ := good_head p hp
  obtain ⟨t', ht', _, _, _, h5'⟩ := good_head _ hq
  have e : t' = t ++ d := by simpa using ht'.symm
  rw [h5, h5', e]
  exact cut_app_free d t hd
theorem number_parent {p d : Bs} (hd : (47 : UInt8) ∉ d) (hp : goodL p = true) (hq : goodL (p ++ d) = true) : parentL (p ++ d) = parentL p := by
  obtain ⟨i, x, e1, e2⟩ := number_parts hd hp hq
  unfold parentL
  rw [e1, e2]
  simp
/-- Whether a number may be put behind a path does not hang on the number. -/
theorem number_good {p d e : Bs} (hd : (47 : UInt8) ∉ d) (he : (47 : UInt8) ∉ e) (_hs : d.all sign = true) (ht : e.all sign = true) (hl : d.length = e.length) (h2 : 3 ≤ d.length) (hp : goodL p = true) (hq : goodL (p ++ d) = true) : goodL (p ++ e) = true := by
  obtain ⟨t, rfl, _, hn, h8, h5⟩ := good_head p hp
  obtain ⟨t', ht', hl', hn', h8', _⟩ := good_head _ hq
  have e1 : t' = t ++ d := by simpa using ht'.symm
  subst e1
  obtain ⟨i, x, c1, c2⟩ := cut_app_free d t hd
  obtain ⟨i2, x2, c3, c4⟩ := cut_app_free e t he
  rw [c1] at c3
  obtain ⟨rfl, h3⟩ := List.append_inj' c3 rfl
  simp only [List.cons.injEq, and_true] at h3
  subst h3
  rw [List.cons_append, good_cons' _ (by simp at hl' ⊢; omega), c4]
  rw [c2] at hn' h8'
  rw [c1] at hn
  simp only [List.all_append, List.all_cons, List.all_nil, Bool.and_true, Bool.and_eq_true, decide_eq_true_eq] at hn hn' ⊢
  refine ⟨⟨hn'.1, ?_⟩, by simpa using h8'⟩
  have hx := hn'.2
  have hx0 := hn.2
  unfold nameL at hx hx0 ⊢
  simp only [List.all_append, Bool.and_eq_true, decide_eq_true_eq, List.length_append] at hx hx0 ⊢
  refine ⟨⟨⟨⟨⟨hx0.1.1.1.1, ht⟩, by omega⟩, by omega⟩, ?_⟩, ?_⟩
  · simp only [bne_iff_ne, ne_eq]; intro e; have := congrArg List.length e; simp at this; omega
  · simp only [bne_iff_ne, ne_eq]; intro e; have := congrArg List.length e; simp at this; omega
theorem fw_sign (k u : Nat) : (fw k u).all sign = true := by
  induction k generalizing u with
  | zero => rfl
  | succ k ih =>
    unfold fw
    rw [List.all_append, ih, Bool.true_and]
    simp only [List.all_cons, List.all_nil, Bool.and_true, sign, Bool.and_eq_true, decide_eq_true_eq, UInt8.le_iff_toNat_le]
    have h1 : (UInt8.ofNat (48 + u % 10)).toNat = 48 + u % 10 := by
      have : 48 + u % 10 < 256 := by omega
      simp [UInt8.toNat_ofNat, Nat.mod_eq_of_lt this]
    rw [h1]
    have h33 : (33 : UInt8).toNat = 33 := rfl
    have h126 : (126 : UInt8).toNat = 126 := rfl
    omega
end Av

/- Vocabulary for walks: what stays of memory, slices that are read, and slices that a call owns. Plain; no program. -/
namespace Av
set_option maxRecDepth 100000
open Go Go.RowKit

/-- Of what lay in w nothing has turned in w' but the blocks in S. -/
structure Kp (S : Nat → Prop) (w w' : World) : Prop where
  os : w'.os = w.os
  tape : w'.tape = w.tape
  output : w'.output = w.output
  size : w.heap.size ≤ w'.heap.size
  block : ∀ k, k < w.heap.size → ¬ S k → w'.heap[k]? = w.heap[k]?

/-- Nothing that lay there has turned. -/
abbrev Ext (w w' : World) : Prop := Kp (fun _ => False) w w'

theorem Kp.refl (S : Nat → Prop) (w : World) : Kp S w w := ⟨rfl, rfl, rfl, Nat.le_refl _, fun _ _ _ => rfl⟩
theorem Kp.trans {S : Nat → Prop} {a b c : World} (h : Kp S a b) (k : Kp S b c) : Kp S a c :=
  ⟨k.os.trans h.os, k.tape.trans h.tape, k.output.trans h.output, Nat.le_trans h.size k.size,
   fun i hi hs => (k.block i (Nat.lt_of_lt_of_le hi h.size) hs).trans (h.block i hi hs)⟩
/-- A later step may also turn blocks that were not there at the start. -/
theorem Kp.next {S T : Nat → Prop} {a b c : World} (h : Kp S a b) (k : Kp T b c) (hT : ∀ i, i < a.heap.size → T i → S i) : Kp S a c :=
  ⟨k.os.trans h.os, k.tape.trans h.tape, k.output.trans h.output, Nat.le_trans h.size k.size,
   fun i hi hs => (k.block i (Nat.lt_of_lt_of_le hi h.size) (fun t => hs (hT i hi t))).trans (h.block i hi hs)⟩
theorem Kp.mono {S T : Nat → Prop} {w w' : World} (h : Kp S w w') (hst : ∀ i, i < w.heap.size → S i → T i) : Kp T w w' :=
  ⟨h.os, h.tape, h.output, h.size, fun i hi hs => h.block i hi (fun s => hs (hst i hi s))⟩
theorem Kp.ext {S : Nat → Prop} {a b c : World} (h : Kp S a b) (k : Ext b c) : Kp S a c := h.next k (fun _ _ f => f.elim)
theorem Ext.kp {S : Nat → Prop} {w w' : World} (h : Ext w w') : Kp S w w' := h.mono (fun _ _ f => f.elim)
theorem Kp.drew {S : Nat → Prop} {a w : World} (h : Kp S a w) : Kp S a w.drew := ⟨h.os, h.tape, h.output, h.size, h.block⟩
theorem Kp.drewN {S : Nat → Prop} {a w : World} (h : Kp S a w) (n : Nat) : Kp S a (w.drewN n) := ⟨h.os, h.tape, h.output, h.size, h.block⟩
theorem Kp.alloc {S : Nat → Prop} {a w : World} (h : Kp S a w) (o : Obj) : Kp S a (w.alloc o) :=
  h.next (T := fun _ => False) ⟨rfl, rfl, rfl, by simp, fun k hk _ => Below.heap_alloc _ _ _ hk⟩ (fun _ _ f => f.elim)
theorem Kp.setCell {S : Nat → Prop} {a w : World} (h : Kp S a w) (p : Addr) (u : Value) (hp : p.block < a.heap.size → S p.block) : Kp S a (w.setCell p u) :=
  h.next (T := fun k => k = p.block) ⟨rfl, rfl, rfl, by simp [World.setCell], fun k _ hs => Below.heap_setCell _ _ _ _ hs⟩ (fun i hi e => by subst e; exact hp hi)
theorem Kp.of_below {w w' : World} (h : Below w.heap.size w w') : Ext w w' := ⟨h.os, h.tape, h.output, h.size, fun k hk _ => h.block k hk⟩
theorem Kp.below {w w' : World} (h : Ext w w') : Below w.heap.size w w' := ⟨h.os, h.tape, h.output, h.size, fun k hk => h.block k hk (fun f => f)⟩
theorem Kp.grown {S : Nat → Prop} {a w w' : World} {row : Option Nat} (h : Kp S a w) (hg : w.grownBy w' row) (hr : ∀ k, row = some k → k < a.heap.size → S k) : Kp S a w' :=
  h.next (T := fun k => row = some k) ⟨hg.os, hg.tape, hg.output, hg.size, fun k hk hs => hg.block k hk (fun e => hs e.symm)⟩ (fun i hi e => hr i e hi)
theorem Kp.cell {S : Nat → Prop} {w w' : World} (h : Kp S w w') {p : Addr} {v : Value} (hc : w.cell? p = some v) (hs : ¬ S p.block) : w'.cell? p = some v :=
  (World.cell?_of_block (w := w) (h.block p.block (World.block_lt_of_cell? w p hc) hs)).trans hc
theorem Kp.frozen {S : Nat → Prop} {w w' : World} (h : Kp S w w') {p : Addr} (hb : p.block < w.heap.size) (hs : ¬ S p.block) : w'.frozen? p = w.frozen? p :=
  World.frozen?_of_block (w := w) (h.block p.block hb hs)
theorem Kp.obj {S : Nat → Prop} {w w' : World} (h : Kp S w w') {b : Nat} {o : Obj} (ho : w.heap[b]? = some o) (hs : ¬ S b) : w'.heap[b]? = some o :=
  (h.block b (Array.getElem?_eq_some_iff.1 ho).1 hs).trans ho

/-- A slice of n elements of k cells each that can be read: its cells hold xs. -/
def Sl (w : World) (k : Nat) (v : Value) (n : Nat) (xs : List Value) : Prop :=
  xs.length = n * k ∧ n ≤ maxLen ∧ ∃ a c, v = .slice a n c ∧ n ≤ c ∧ (n = 0 ∨ ∃ b off, a = some ⟨b, off, none⟩ ∧ b < w.heap.size ∧ ∀ i x, xs[i]? = some x → w.cell? ⟨b, off + i, none⟩ = some x)

theorem Sl.kp {S : Nat → Prop} {w w' : World} {k : Nat} {v : Value} {n : Nat} {xs : List Value} (h : Sl w k v n xs) (hk : Kp S w w') (hs : ∀ b, v.ownBlock = some b → b < w.heap.size → ¬ S b) : Sl w' k v n xs := by
  obtain ⟨h1, h2, a, c, rfl, hcc, h3⟩ := h
  refine ⟨h1, h2, a, c, rfl, hcc, ?_⟩
  rcases h3 with h3 | ⟨b, off, rfl, hb, hc⟩
  · exact .inl h3
  · exact .inr ⟨b, off, rfl, Nat.lt_of_lt_of_le hb hk.size, fun i x hx => hk.cell (hc i x hx) (hs b rfl hb)⟩
theorem Sl.ext {w w' : World} {k : Nat} {v : Value} {n : Nat} {xs : List Value} (h : Sl w k v n xs) (hk : Ext w w') : Sl w' k v n xs := h.kp hk (fun _ _ _ f => f)
/-- Open a slice: its value, and each cell under its bound. -/
theorem Sl.open {w : World} {k : Nat} {v : Value} {n : Nat} {xs : List Value} (h : Sl w k v n xs) :
    ∃ a c, v = .slice a n c ∧ n ≤ c ∧ n ≤ maxLen ∧ xs.length = n * k ∧ (0 < n → ∃ b off, a = some ⟨b, off, none⟩ ∧ b < w.heap.size ∧ ∀ i x, xs[i]? = some x → w.cell? ⟨b, off + i, none⟩ = some x) := by
  obtain ⟨h1, h2, a, c, rfl, hcc, h3⟩ := h
  refine ⟨a, c, rfl, hcc, h2, h1, fun hn => ?_⟩
  rcases h3 with h3 | h3
  · omega
  · exact h3
theorem Sl.nil (w : World) (k : Nat) : Sl w k (.slice none 0 0) 0 [] := ⟨by simp, Nat.zero_le _, none, 0, rfl, Nat.le_refl _, .inl rfl⟩
/-- What a call owns can be read. -/
theorem Sl.of_owns {w : World} {base : Nat} {e : TypeId} {k : Nat} {v : Value} {n : Nat} {xs : List Value} (h : w.ownsRow base e k v n xs) : Sl w k v n xs := by
  obtain ⟨h1, h2⟩ := h
  rcases h2 with ⟨rfl, rfl⟩ | ⟨g, cap, cur, rfl, hb, hg, hn, hm, hcs, ht⟩
  · exact ⟨h1, Nat.zero_le _, none, 0, rfl, Nat.le_refl _, .inl rfl⟩
  · refine ⟨h1, Nat.le_trans hn hm, some ⟨g, 0, none⟩, cap, rfl, hn, .inr ⟨g, 0, rfl, (Array.getElem?_eq_some_iff.1 hg).1, fun i x hx => ?_⟩⟩
    rw [← ht, List.getElem?_take] at hx
    split at hx
    · simp [World.cell?, hg]; simpa using hx
    · simp at hx
/-- A block just laid, as a slice of its own. -/
theorem Sl.of_block {w : World} {b : Nat} {k n c : Nat} {xs : List Value} {e : TypeId} {fr : Nat × Nat} (h : w.heap[b]? = some (.cells xs.toArray e fr)) (hl : xs.length = n * k) (hm : n ≤ maxLen) (hcc : n ≤ c) :
    Sl w k (.slice (some ⟨b, 0, none⟩) n c) n xs :=
  ⟨hl, hm, _, _, rfl, hcc, .inr ⟨b, 0, rfl, (Array.getElem?_eq_some_iff.1 h).1, fun i x hx => by simp [World.cell?, h]; simpa using hx⟩⟩

theorem ownsRow.kp {S : Nat → Prop} {w w' : World} {base : Nat} {e : TypeId} {k : Nat} {v : Value} {n : Nat} {xs : List Value} (h : w.ownsRow base e k v n xs) (hk : Kp S w w') (hs : ∀ b, v.ownBlock = some b → ¬ S b) : w'.ownsRow base e k v n xs := by
  obtain ⟨h1, h2⟩ := h
  refine ⟨h1, ?_⟩
  rcases h2 with h2 | ⟨g, cap, cur, rfl, hb, hg, r⟩
  · exact .inl h2
  · exact .inr ⟨g, cap, cur, rfl, hb, hk.obj hg (hs g rfl), r⟩
theorem ownsRow.ext {w w' : World} {base : Nat} {e : TypeId} {k : Nat} {v : Value} {n : Nat} {xs : List Value} (h : w.ownsRow base e k v n xs) (hk : Ext w w') : w'.ownsRow base e k v n xs := ownsRow.kp h hk (fun _ _ f => f)
theorem ownsRow.base_mono {w : World} {base base' : Nat} {e : TypeId} {k : Nat} {v : Value} {n : Nat} {xs : List Value} (h : w.ownsRow base e k v n xs) (hb : base' ≤ base) : w.ownsRow base' e k v n xs := by
  obtain ⟨h1, h2⟩ := h
  refine ⟨h1, ?_⟩
  rcases h2 with h2 | ⟨g, cap, cur, rfl, hbg, r⟩
  · exact .inl h2
  · exact .inr ⟨g, cap, cur, rfl, Nat.le_trans hb hbg, r⟩


/-- A slice of strings that can be read. -/
def Strs (w : World) (v : Value) (xs : List ByteArray) : Prop := Sl w 1 v xs.length (xs.map Value.string)
theorem Strs.kp {S : Nat → Prop} {w w' : World} {v : Value} {xs : List ByteArray} (h : Strs w v xs) (hk : Kp S w w') (hs : ∀ b, v.ownBlock = some b → b < w.heap.size → ¬ S b) : Strs w' v xs := Sl.kp h hk hs
theorem Strs.ext {w w' : World} {v : Value} {xs : List ByteArray} (h : Strs w v xs) (hk : Ext w w') : Strs w' v xs := Sl.ext h hk
theorem Strs.nil (w : World) : Strs w (.slice none 0 0) [] := Sl.nil w 1
/-- Open it: one way for none, one for some. -/
theorem Strs.open {w : World} {v : Value} {xs : List ByteArray} (h : Strs w v xs) :
    ∃ a c, v = .slice a xs.length c ∧ xs.length ≤ c ∧ xs.length ≤ maxLen ∧ (0 < xs.length → ∃ b off, a = some ⟨b, off, none⟩ ∧ b < w.heap.size ∧ ∀ i (hi : i < xs.length), w.cell? ⟨b, off + i, none⟩ = some (.string xs[i])) := by
  obtain ⟨a, c, rfl, hcc, h1, h2, h3⟩ := Sl.open h
  refine ⟨a, c, rfl, hcc, h1, fun hn => ?_⟩
  obtain ⟨b, off, rfl, hb, hc⟩ := h3 hn
  exact ⟨b, off, rfl, hb, fun i hi => hc i _ (by rw [List.getElem?_map, List.getElem?_eq_getElem hi]; rfl)⟩
theorem Strs.of_cells {w : World} {b off c : Nat} {xs : List ByteArray} (hm : xs.length ≤ maxLen) (hcc : xs.length ≤ c) (hb : b < w.heap.size) (h : ∀ i (hi : i < xs.length), w.cell? ⟨b, off + i, none⟩ = some (.string xs[i])) :
    Strs w (.slice (some ⟨b, off, none⟩) xs.length c) xs :=
  ⟨by simp, hm, _, _, rfl, hcc, .inr ⟨b, off, rfl, hb, fun i x hx => by
    rw [List.getElem?_map, Option.map_eq_some_iff] at hx
    obtain ⟨y, hy, rfl⟩ := hx
    obtain ⟨hi, rfl⟩ := List.getElem?_eq_some_iff.1 hy
    exact h i hi⟩⟩
theorem Strs.of_block {w : World} {b c : Nat} {xs : List ByteArray} {e : TypeId} {fr : Nat × Nat} (h : w.heap[b]? = some (.cells (xs.map Value.string).toArray e fr)) (hm : xs.length ≤ maxLen) (hcc : xs.length ≤ c) :
    Strs w (.slice (some ⟨b, 0, none⟩) xs.length c) xs := Sl.of_block h (by simp) hm hcc
theorem Strs.of_owns {w : World} {base : Nat} {e : TypeId} {v : Value} {n : Nat} {xs : List ByteArray} (h : w.ownsRow base e 1 v n (xs.map Value.string)) : Strs w v xs := by
  have hn : n = xs.length := by have := h.1; simp at this; exact this.symm
  subst hn
  exact Sl.of_owns h


theorem bytes_append (a b : List UInt8) : (⟨a.toArray⟩ ++ ⟨b.toArray⟩ : ByteArray) = ⟨(a ++ b).toArray⟩ := by
  apply ByteArray.ext; simp
theorem bytes_eq {a b : ByteArray} (h : a.data.toList = b.data.toList) : a = b := by
  apply ByteArray.ext; exact Array.toList_inj.1 h
theorem bytes_self (a : ByteArray) : (⟨a.data.toList.toArray⟩ : ByteArray) = a := bytes_eq (by simp)
theorem ret_val {a b : Value} (h : a = b) : Ending.returned a = .returned b := by rw [h]
end Av
