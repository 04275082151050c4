/- Texts put together: AvPathLaw, AvOpLaw. -/
import Derived.Test.YtjapjpigpakejaaGreatDoorAvG2
import Derived.Lib.ItoaNum
import Derived.Test.YtjapjpigpakejaaGreatDoorAvG1

/- More laws of chapter 1: what is within, what is above, numbered paths. No program. -/
namespace Av
set_option maxRecDepth 100000
theorem cut_app (a r : Bs) : cut (a ++ 47 :: r) = cut a ++ cut r := by
  induction a with
  | nil => simp [cut]
  | cons c t ih =>
    by_cases h : c = 47
    · subst h; simp [cut, ih]
    · simp only [List.cons_append, cut, h, if_false, ih]
      cases ht : cut t with
      | nil => exact absurd ht (cut_ne t)
      | cons a b => simp
theorem cut_app_free (d : Bs) : ∀ (t : Bs), (47 : UInt8) ∉ d → ∃ i x, cut t = i ++ [x] ∧ cut (t ++ d) = i ++ [x ++ d] := by
  induction d with
  | nil =>
    intro t _
    rcases List.eq_nil_or_concat (cut t) with h | ⟨i, x, h⟩
    · exact absurd h (cut_ne t)
    · exact ⟨i, x, by simpa using h, by simpa using h⟩
  | cons c d ih =>
    intro t h
    simp only [List.mem_cons, not_or] at h
    obtain ⟨i, x, e1, e2⟩ := cut_snoc t c (fun e => h.1 e.symm)
    obtain ⟨i', x', e3, e4⟩ := ih (t ++ [c]) h.2
    rw [e2] at e3
    obtain ⟨rfl, h3⟩ := List.append_inj' e3 rfl
    simp only [List.cons.injEq, and_true] at h3
    subst h3
    exact ⟨i, x, e1, by rw [show t ++ c :: d = t ++ [c] ++ d by simp, e4]; simp⟩
theorem cut_one {s : Bs} (h : (cut s).length = 1) : cut s = [s] := by
  have h47 : (47 : UInt8) ∉ s := by
    rw [cut_length] at h
    exact List.count_eq_zero.1 (by omega)
  obtain ⟨i, x, e1, e2⟩ := cut_app_free s [] h47
  simp only [cut, List.nil_append] at e1 e2
  cases i with
  | nil => simp at e1; subst e1; simpa using e2
  | cons a b => simp at e1

/-! Within. -/
def withinL (p q : Bs) : Bool := goodL p && (goodL q && ((p == q) || (q ++ [47]).isPrefixOf p))
def withinR (a b : List Bs) : Bool := (decide (a.length ≠ 0) && (decide (b.length ≠ 0) && decide (b.length ≤ a.length))) && decide (a.take b.length = b)
theorem ofL_app (a b : List Bs) : ofL (a ++ b) = ofL a ++ ofL b := by simp [ofL]
theorem within_iff {p q : Bs} (hp : goodL p = true) (hq : goodL q = true) : (p = q ∨ (q ++ [47]) <+: p) ↔ partsL q <+: partsL p := by
  constructor
  · rintro (rfl | ⟨r, hr⟩)
    · exact List.prefix_refl _
    · obtain ⟨t, rfl, _, _, _, h5⟩ := good_head q hq
      obtain ⟨t', rfl, _, _, _, h5'⟩ := good_head p hp
      rw [h5, h5']
      have : t' = t ++ 47 :: r := by simpa using hr.symm
      rw [this, cut_app]
      exact List.prefix_append _ _
  · rintro ⟨c, hc⟩
    have hp' := ofL_parts p hp
    have hq' := ofL_parts q hq
    rw [← hc, ofL_app, hq'] at hp'
    cases c with
    | nil => left; rw [← hp']; simp [ofL]
    | cons x c => right; exact ⟨x ++ ofL c, by rw [← hp']; simp [ofL]⟩
theorem withinR_iff (a b : List Bs) : withinR a b = true ↔ a ≠ [] ∧ b ≠ [] ∧ b <+: a := by
  unfold withinR
  simp only [Bool.and_eq_true, decide_eq_true_eq]
  constructor
  · rintro ⟨⟨h1, h2, h3⟩, h4⟩
    exact ⟨fun e => h1 (by simp [e]), fun e => h2 (by simp [e]), by rw [← h4]; exact List.take_prefix _ _⟩
  · rintro ⟨h1, h2, h3⟩
    exact ⟨⟨fun e => h1 (List.length_eq_zero_iff.1 e), fun e => h2 (List.length_eq_zero_iff.1 e), h3.length_le⟩, (List.prefix_iff_eq_take.1 h3).symm⟩
theorem within_law (p q : Bs) : withinL p q = withinR (partsL p) (partsL q) := by
  rw [Bool.eq_iff_iff, withinR_iff]
  unfold withinL
  simp only [Bool.and_eq_true, Bool.or_eq_true, beq_iff_eq, List.isPrefixOf_iff_prefix]
  constructor
  · rintro ⟨hp, hq, h⟩
    exact ⟨(good_iff_parts p).1 hp, (good_iff_parts q).1 hq, (within_iff hp hq).1 h⟩
  · rintro ⟨hp, hq, h⟩
    have hp' := (good_iff_parts p).2 hp
    have hq' := (good_iff_parts q).2 hq
    exact ⟨hp', hq', (within_iff hp' hq').2 h⟩
theorem within_top {p q : Bs} (h : withinL p q = true) : topL p = topL q := by
  rw [within_law, withinR_iff] at h
  obtain ⟨_, h2, c, hc⟩ := h
  unfold topL
  rw [← hc]
  cases hq : partsL q with
  | nil => exact absurd hq h2
  | cons a b => rfl

/-! What is above. -/
theorem ofL_take_le' (l : List Bs) (k : Nat) : (ofL (l.take k)).length ≤ (ofL l).length := by
  conv => rhs; rw [← List.take_append_drop k l]
  rw [ofL_app, List.length_append]
  omega
/-- The path of the first j names. -/
def anc (p : Bs) (j : Nat) : Bs := ofL ((partsL p).take j)
theorem anc_all {p : Bs} (h : goodL p = true) : anc p (partsL p).length = p := by
  unfold anc
  rw [List.take_length, ofL_parts p h]
theorem anc_good {p : Bs} (h : goodL p = true) {j : Nat} (h1 : 1 ≤ j) (h2 : j ≤ (partsL p).length) : goodL (anc p j) = true ∧ partsL (anc p j) = (partsL p).take j := by
  refine parts_of_names _ ?_ ?_ ?_ ?_ ?_
  · intro e; have := congrArg List.length e; rw [List.length_take, List.length_nil] at this; omega
  · exact fun s hs => (parts_name p s (List.mem_of_mem_take hs)).1
  · exact fun s hs => (parts_name p s (List.mem_of_mem_take hs)).2
  · have := parts_len p; simp; omega
  · have h3 := ofL_take_le' (partsL p) j
    rw [ofL_parts p h] at h3
    have := good_len p h
    omega
theorem anc_parent {p : Bs} (h : goodL p = true) {j : Nat} (h1 : 1 ≤ j) (h2 : j ≤ (partsL p).length) : parentL (anc p j) = if j < 2 then none else some (anc p (j - 1)) := by
  unfold parentL
  rw [(anc_good h h1 h2).2, List.length_take, Nat.min_eq_left h2]
  split
  · rfl
  · congr 1
    unfold anc
    rw [List.dropLast_eq_take, List.length_take, Nat.min_eq_left h2, List.take_take, Nat.min_eq_left (by omega)]
theorem anc_within {p : Bs} (h : goodL p = true) {j : Nat} (h1 : 1 ≤ j) (h2 : j ≤ (partsL p).length) : withinL p (anc p j) = true := by
  rw [within_law, withinR_iff, (anc_good h h1 h2).2]
  refine ⟨(good_iff_parts p).1 h, ?_, List.take_prefix _ _⟩
  intro e; have := congrArg List.length e; rw [List.length_take, List.length_nil] at this; omega
theorem anc_not {p : Bs} (h : goodL p = true) {j : Nat} (h1 : 1 ≤ j) (h2 : j < (partsL p).length) : withinL (anc p j) p = false := by
  rw [within_law]
  cases hw : withinR (partsL (anc p j)) (partsL p) with
  | false => rfl
  | true =>
    rw [withinR_iff, (anc_good h h1 (by omega)).2] at hw
    have := hw.2.2.length_le
    simp at this
    omega
theorem anc_top {p : Bs} (h : goodL p = true) {j : Nat} (h1 : 1 ≤ j) (h2 : j ≤ (partsL p).length) : topL (anc p j) = topL p := (within_top (anc_within h h1 h2)).symm
theorem anc_one {p : Bs} (h : goodL p = true) : anc p 1 = 47 :: topL p := by
  have := (good_iff_parts p).1 h
  unfold anc topL
  cases hp : partsL p with
  | nil => exact absurd hp this
  | cons a b => simp [ofL]
theorem within_both {p q : Bs} (hp : goodL p = true) (hq : goodL q = true) : (withinL p q && withinL q p) = decide (p = q) := by
  rw [Bool.eq_iff_iff, Bool.and_eq_true, decide_eq_true_eq, within_law, within_law, withinR_iff, withinR_iff]
  constructor
  · rintro ⟨⟨_, _, h1⟩, _, _, h2⟩
    exact good_inj p q hp hq (h2.eq_of_length_le h1.length_le)
  · rintro rfl
    have := (good_iff_parts p).1 hp
    exact ⟨⟨this, this, List.prefix_refl _⟩, this, this, List.prefix_refl _⟩

/-! PathDeeper. -/
theorem deeper_parts {p s : Bs} (hp : goodL p = true) (hq : goodL (p ++ (47 :: s)) = true) : partsL (p ++ (47 :: s)) = partsL p ++ cut s := by
  obtain ⟨t, rfl, _, _, _, h5⟩ := good_head p hp
  obtain ⟨t', ht', _, _, _, h5'⟩ := good_head _ hq
  rw [h5', h5]
  have : t' = t ++ 47 :: s := by simpa using ht'.symm
  rw [this, cut_app]
theorem deeper_law {p s : Bs} (hp : goodL p = true) (hq : goodL (p ++ (47 :: s)) = true) :
    (partsL p).length + 1 ≤ (partsL (p ++ (47 :: s))).length ∧ withinL (p ++ (47 :: s)) p = true ∧ withinL p (p ++ (47 :: s)) = false ∧
    ((partsL (p ++ (47 :: s))).length = (partsL p).length + 1 → parentL (p ++ (47 :: s)) = some p ∧ lastL (p ++ (47 :: s)) = s) := by
  have e := deeper_parts hp hq
  have hc := cut_length_pos s
  have hne := (good_iff_parts p).1 hp
  have h0 : 0 < (partsL p).length := List.length_pos_iff.2 hne
  refine ⟨by rw [e]; simp; omega, ?_, ?_, fun h => ?_⟩
  · rw [within_law, withinR_iff, e]
    exact ⟨by simp [hne], hne, List.prefix_append _ _⟩
  · rw [within_law]
    cases hw : withinR (partsL p) (partsL (p ++ (47 :: s))) with
    | false => rfl
    | true =>
      rw [withinR_iff, e] at hw
      have := hw.2.2.length_le
      simp at this
      omega
  · rw [e, List.length_append] at h
    have h1 := cut_one (s := s) (by omega)
    constructor
    · unfold parentL
      rw [e, h1, if_neg (by simp; omega)]
      simp [ofL_parts p hp]
    · unfold lastL
      rw [e, h1, List.getLastD_eq_getLast?]
      simp

/-! PathApart. -/
theorem apart_tops {p q : Bs} (_hp : goodL p = true) (_hq : goodL q = true) (h : topL p ≠ topL q) :
    withinL p q = false ∧ withinL q p = false ∧ (∀ a, parentL p = some a → a ≠ q) ∧ (∀ b, parentL q = some b → b ≠ p) ∧ p ≠ q := by
  refine ⟨?_, ?_, fun a ha e => ?_, fun b hb e => ?_, fun e => h (by rw [e])⟩
  · cases hw : withinL p q with
    | false => rfl
    | true => exact absurd (within_top hw) h
  · cases hw : withinL q p with
    | false => rfl
    | true => exact absurd (within_top hw).symm h
  · subst e; exact h (top_parent _ _ ha).1.symm
  · subst e; exact h (top_parent _ _ hb).1

/-! Numbers. -/
def padL (n : Nat) : Bs := List.replicate (10 - (Go.Lib.decDigits n).length) 48 ++ Go.Lib.decDigits n
def numberL (p : Bs) (n : Int) : Option Bs := if (goodL p && (decide (0 ≤ n) && decide (n ≤ 2147483647))) && goodL (p ++ padL n.toNat) then some (p ++ padL n.toNat) else none
/-- u in k digits. -/
def fw : Nat → Nat → Bs
  | 0, _ => []
  | k + 1, u => fw k (u / 10) ++ [UInt8.ofNat (48 + u % 10)]
theorem fw_zero (k : Nat) : fw k 0 = List.replicate k 48 := by
  induction k with
  | zero => rfl
  | succ k ih => simp [fw, ih, List.replicate_succ']
theorem fw_len (k u : Nat) : (fw k u).length = k := by
  induction k generalizing u with
  | zero => rfl
  | succ k ih => simp [fw, ih]
theorem nDigits_le : ∀ (k u : Nat), u < 10 ^ (k + 1) → Go.Lib.nDigits u ≤ k + 1
  | 0, u, h => by rw [Go.Lib.nDigits_small (by simpa using h)]; exact Nat.le_refl _
  | k + 1, u, h => by
    by_cases h10 : u < 10
    · rw [Go.Lib.nDigits_small h10]; omega
    · rw [Go.Lib.nDigits_big h10]
      have := nDigits_le k (u / 10) (by rw [Nat.pow_succ] at h; omega)
      omega
theorem fw_dec : ∀ (k u : Nat), 1 ≤ k → Go.Lib.nDigits u ≤ k → List.replicate (k - Go.Lib.nDigits u) 48 ++ Go.Lib.decDigits u = fw k u
  | 0, _, h, _ => absurd h (by omega)
  | k + 1, u, _, h => by
    by_cases h10 : u < 10
    · rw [Go.Lib.nDigits_small h10, Go.Lib.decDigits, dif_pos h10]
      have e : u / 10 = 0 := by omega
      have e2 : u % 10 = u := by omega
      simp only [fw, e, e2, fw_zero, Nat.add_sub_cancel]
    · rw [Go.Lib.nDigits_big h10] at h ⊢
      rw [Go.Lib.decDigits, dif_neg h10]
      have hk : 1 ≤ k := by have := Go.Lib.nDigits_pos (u / 10); omega
      have := fw_dec k (u / 10) hk (by omega)
      unfold fw
      rw [← this, ← List.append_assoc]
      congr 3
      omega
theorem padL_fw {n : Nat} (h : n ≤ 2147483647) : padL n = fw 10 n := by
  unfold padL
  rw [Go.Lib.decDigits_length]
  exact fw_dec 10 n (by omega) (nDigits_le 9 n (by omega))
theorem padL_len {n : Nat} (h : n ≤ 2147483647) : (padL n).length = 10 := by rw [padL_fw h, fw_len]
theorem dec_len {n : Nat} (h : n ≤ 2147483647) : 1 ≤ (Go.Lib.decDigits n).length ∧ (Go.Lib.decDigits n).length ≤ 10 := by
  rw [Go.Lib.decDigits_length]
  exact ⟨Go.Lib.nDigits_pos n, nDigits_le 9 n (by omega)⟩
theorem fw_free (k u : Nat) : (47 : UInt8) ∉ fw k u := by
  induction k generalizing u with
  | zero => simp [fw]
  | succ k ih =>
    simp only [fw, List.mem_append, List.mem_singleton, not_or]
    refine ⟨ih _, fun e => ?_⟩
    have h1 := congrArg UInt8.toNat e
    have h2 : (47 : UInt8).toNat = 47 := rfl
    have h3 : (UInt8.ofNat (48 + u % 10)).toNat = 48 + u % 10 := by
      have : 48 + u % 10 < 256 := by omega
      simp [UInt8.toNat_ofNat, Nat.mod_eq_of_lt this]
    omega
theorem dig_lt {a b : Nat} (ha : a < 10) (hb : b < 10) : UInt8.ofNat (48 + a) < UInt8.ofNat (48 + b) ↔ a < b := by
  rw [UInt8.lt_iff_toNat_lt]
  have h1 : (UInt8.ofNat (48 + a)).toNat = 48 + a := by
    have : 48 + a < 256 := by omega
    simp [UInt8.toNat_ofNat, Nat.mod_eq_of_lt this]
  have h2 : (UInt8.ofNat (48 + b)).toNat = 48 + b := by
    have : 48 + b < 256 := by omega
    simp [UInt8.toNat_ofNat, Nat.mod_eq_of_lt this]
  rw [h1, h2]; omega
theorem dig_eq {a b : Nat} (ha : a < 10) (hb : b < 10) : UInt8.ofNat (48 + a) = UInt8.ofNat (48 + b) ↔ a = b := by
  constructor
  · intro e
    have h1 : ¬ UInt8.ofNat (48 + a) < UInt8.ofNat (48 + b) := by rw [e]; exact UInt8.lt_irrefl _
    have h2 : ¬ UInt8.ofNat (48 + b) < UInt8.ofNat (48 + a) := by rw [e]; exact UInt8.lt_irrefl _
    rw [dig_lt ha hb] at h1
    rw [dig_lt hb ha] at h2
    omega
  · rintro rfl; rfl
theorem fw_inj : ∀ (k a b : Nat), a < 10 ^ k → b < 10 ^ k → (fw k a = fw k b ↔ a = b)
  | 0, a, b, ha, hb => by simp at ha hb; simp [fw, ha, hb]
  | k + 1, a, b, ha, hb => by
    rw [Nat.pow_succ] at ha hb
    have ih := fw_inj k (a / 10) (b / 10) (by omega) (by omega)
    constructor
    · intro h
      unfold fw at h
      obtain ⟨h1, h2⟩ := List.append_inj' h rfl
      simp only [List.cons.injEq, and_true] at h2
      have h3 := ih.1 h1
      have h4 := (dig_eq (by omega) (by omega)).1 h2
      omega
    · rintro rfl; rfl
theorem lex_snoc : ∀ (x y : Bs) (c d : UInt8), x.length = y.length → (x ++ [c] < y ++ [d] ↔ x < y ∨ (x = y ∧ c < d))
  | [], [], c, d, _ => by simp [List.cons_lt_cons_iff]
  | [], _ :: _, _, _, h => by simp at h
  | _ :: _, [], _, _, h => by simp at h
  | a :: x, b :: y, c, d, h => by
    have ih := lex_snoc x y c d (by simpa using h)
    simp only [List.cons_append, List.cons_lt_cons_iff, ih, List.cons.injEq]
    constructor
    · rintro (h | ⟨h, h1 | h1⟩)
      · exact .inl (.inl h)
      · exact .inl (.inr ⟨h, h1⟩)
      · exact .inr ⟨⟨h, h1.1⟩, h1.2⟩
    · rintro ((h | h) | ⟨⟨h, h1⟩, h2⟩)
      · exact .inl h
      · exact .inr ⟨h.1, .inl h.2⟩
      · exact .inr ⟨h, .inr ⟨h1, h2⟩⟩
theorem fw_lt : ∀ (k a b : Nat), a < 10 ^ k → b < 10 ^ k → (fw k a < fw k b ↔ a < b)
  | 0, a, b, ha, hb => by simp at ha hb; subst ha hb; simp [fw]
  | k + 1, a, b, ha, hb => by
    rw [Nat.pow_succ] at ha hb
    have ih := fw_lt k (a / 10) (b / 10) (by omega) (by omega)
    have ij := fw_inj k (a / 10) (b / 10) (by omega) (by omega)
    unfold fw
    rw [lex_snoc _ _ _ _ (by rw [fw_len, fw_len]), ih, ij, dig_lt (by omega) (by omega)]
    omega
theorem lex_app (p x y : Bs) : p ++ x < p ++ y ↔ x < y := by
  induction p with
  | nil => simp
  | cons c p ih =>
    simp only [List.cons_append, List.cons_lt_cons_iff, ih]
    constructor
    · rintro (h | h)
      · exact absurd h (UInt8.lt_irrefl _)
      · exact h.2
    · intro h; exact .inr ⟨trivial, h⟩
theorem number_some {p : Bs} {n : Int} {s : Bs} (h : numberL p n = some s) : goodL p = true ∧ 0 ≤ n ∧ n ≤ 2147483647 ∧ s = p ++ fw 10 n.toNat ∧ goodL s = true := by
  unfold numberL at h
  split at h
  · rename_i hc
    simp only [Bool.and_eq_true, decide_eq_true_eq] at hc
    obtain ⟨⟨h1, h2, h3⟩, h4⟩ := hc
    simp only [Option.some.injEq] at h
    subst h
    exact ⟨h1, h2, h3, by rw [padL_fw (by omega)], h4⟩
  · cases h
theorem number_parts {p d : Bs} (hd : (47 : UInt8) ∉ d) (hp : goodL p = true) (hq : goodL (p ++ d) = true) : ∃ i x, partsL p = i ++ [x] ∧ partsL (p ++ d) = i ++ [x ++ d] := by
  obtain ⟨t, rfl, _, _, _, h5⟩ := good_head p hp
  obtain ⟨t', ht', _, _, _, h5'⟩ := good_head _ hq
  have e : t' = t ++ d := by simpa using ht'.symm
  rw [h5, h5', e]
  exact cut_app_free d t hd
theorem number_parent {p d : Bs} (hd : (47 : UInt8) ∉ d) (hp : goodL p = true) (hq : goodL (p ++ d) = true) : parentL (p ++ d) = parentL p := by
  obtain ⟨i, x, e1, e2⟩ := number_parts hd hp hq
  unfold parentL
  rw [e1, e2]
  simp
/-- Whether a number may be put behind a path does not hang on the number. -/
theorem number_good {p d e : Bs} (hd : (47 : UInt8) ∉ d) (he : (47 : UInt8) ∉ e) (_hs : d.all sign = true) (ht : e.all sign = true) (hl : d.length = e.length) (h2 : 3 ≤ d.length) (hp : goodL p = true) (hq : goodL (p ++ d) = true) : goodL (p ++ e) = true := by
  obtain ⟨t, rfl, _, hn, h8, h5⟩ := good_head p hp
  obtain ⟨t', ht', hl', hn', h8', _⟩ := good_head _ hq
  have e1 : t' = t ++ d := by simpa using ht'.symm
  subst e1
  obtain ⟨i, x, c1, c2⟩ := cut_app_free d t hd
  obtain ⟨i2, x2, c3, c4⟩ := cut_app_free e t he
  rw [c1] at c3
  obtain ⟨rfl, h3⟩ := List.append_inj' c3 rfl
  simp only [List.cons.injEq, and_true] at h3
  subst h3
  rw [List.cons_append, good_cons' _ (by simp at hl' ⊢; omega), c4]
  rw [c2] at hn' h8'
  rw [c1] at hn
  simp only [List.all_append, List.all_cons, List.all_nil, Bool.and_true, Bool.and_eq_true, decide_eq_true_eq] at hn hn' ⊢
  refine ⟨⟨hn'.1, ?_⟩, by simpa using h8'⟩
  have hx := hn'.2
  have hx0 := hn.2
  unfold nameL at hx hx0 ⊢
  simp only [List.all_append, Bool.and_eq_true, decide_eq_true_eq, List.length_append] at hx hx0 ⊢
  refine ⟨⟨⟨⟨⟨hx0.1.1.1.1, ht⟩, by omega⟩, by omega⟩, ?_⟩, ?_⟩
  · simp only [bne_iff_ne, ne_eq]; intro e; have := congrArg List.length e; simp at this; omega
  · simp only [bne_iff_ne, ne_eq]; intro e; have := congrArg List.length e; simp at this; omega
theorem fw_sign (k u : Nat) : (fw k u).all sign = true := by
  induction k generalizing u with
  | zero => rfl
  | succ k ih =>
    unfold fw
    rw [List.all_append, ih, Bool.true_and]
    simp only [List.all_cons, List.all_nil, Bool.and_true, sign, Bool.and_eq_true, decide_eq_true_eq, UInt8.le_iff_toNat_le]
    have h1 : (UInt8.ofNat (48 + u % 10)).toNat = 48 + u % 10 := by
      have : 48 + u % 10 < 256 := by omega
      simp [UInt8.toNat_ofNat, Nat.mod_eq_of_lt this]
    rw [h1]
    have h33 : (33 : UInt8).toNat = 33 := rfl
    have h126 : (126 : UInt8).toNat = 126 := rfl
    omega
/-- PathNumbers: both, or neither. -/
theorem number_both {p : Bs} {a b : Int} (ha : 0 ≤ a ∧ a ≤ 2147483647) (hb : 0 ≤ b ∧ b ≤ 2147483647) : (numberL p a).isSome = (numberL p b).isSome := by
  have key : ∀ {a b : Int}, 0 ≤ a ∧ a ≤ 2147483647 → 0 ≤ b ∧ b ≤ 2147483647 → (numberL p a).isSome = true → (numberL p b).isSome = true := by
    intro a b ha hb h
    obtain ⟨s, hs⟩ := Option.isSome_iff_exists.1 h
    obtain ⟨h1, _, _, rfl, h5⟩ := number_some hs
    unfold numberL
    rw [padL_fw (by omega : b.toNat ≤ 2147483647), h1, number_good (fw_free _ _) (fw_free 10 b.toNat) (fw_sign _ _) (fw_sign _ _) (by rw [fw_len, fw_len]) (by rw [fw_len]; omega) h1 h5]
    simp [hb.1, hb.2]
  rw [Bool.eq_iff_iff]
  exact ⟨key ha hb, key hb ha⟩
theorem numbers_law {p s t : Bs} {a b : Int} (hs : numberL p a = some s) (ht : numberL p b = some t) :
    (s < t ↔ a < b) ∧ (s = t ↔ a = b) ∧ parentL s = parentL p ∧ s.length = p.length + 10 := by
  obtain ⟨h1, ha1, ha2, rfl, h5⟩ := number_some hs
  obtain ⟨_, hb1, hb2, rfl, h6⟩ := number_some ht
  refine ⟨?_, ?_, number_parent (fw_free _ _) h1 h5, by simp [fw_len]⟩
  · rw [lex_app, fw_lt 10 _ _ (by omega) (by omega)]; omega
  · rw [List.append_right_inj, fw_inj 10 _ _ (by omega) (by omega)]; omega
end Av

/- Chapter 5 in plain Lean: what may be asked. No program. -/
namespace Av
set_option maxRecDepth 100000
open Go Go.RowKit
/-- What is asked of one path. -/
structure OpV where
  kind : Int
  path : ByteArray
  data : ByteArray
  ver : Int
  flags : Int
deriving DecidableEq
def OpV.cells (o : OpV) : List Value := [.int .i64 o.kind, .string o.path, .string o.data, .int .i64 o.ver, .int .i64 o.flags]
def OpV.val (o : OpV) : Value := .agg #[.int .i64 o.kind, .string o.path, .string o.data, .int .i64 o.ver, .int .i64 o.flags]
def versionedB (k : Int) : Bool := decide (k = 2) || (decide (k = 3) || decide (k = 4))
def readsB (k : Int) : Bool := decide (k = 5) || (decide (k = 6) || decide (k = 7))
def formedB (o : OpV) : Bool := decide (1 ≤ o.kind) && (decide (o.kind ≤ 7) && (goodL o.path.data.toList && (decide (-1 ≤ o.ver) && (decide (0 ≤ o.flags) && decide (o.flags ≤ 3)))))
def ownB (o : OpV) : Bool := (decide (o.data.size = 0) || (decide (o.kind = 1) || decide (o.kind = 3))) && ((decide (o.ver = 0) || versionedB o.kind) && (decide (o.flags = 0) || decide (o.kind = 1)))
def numberedB (o : OpV) : Bool := decide (o.flags < 2) || (decide (1 < (partsL o.path.data.toList).length) && (numberL o.path.data.toList 0).isSome)
/-- What is wrong with an op first. -/
def goodO (o : OpV) : Int := if formedB o then (if 1000 < o.data.size then 2 else if ownB o && numberedB o then 0 else 1) else 1
end Av
