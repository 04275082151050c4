/- Texts put together: AvPathLaw, AvOpLaw, AvTopsLaw, AvApp2, AvRows, AvRowB. -/
import Derived.Test.YtdagikbdpeblhaaGreatDoorAvG1
import Derived.Lib.ItoaNum
import Derived.Lib.SlicesCompact
import Derived.Laws.AppendOwnNone
import Derived.Lib.AppendStr
import Derived.Laws.IdiomCopy
import Derived.Lib.SliceRun

/- More laws of chapter 1: what is within, what is above, numbered paths. No program. -/
namespace Av
set_option maxRecDepth 100000
theorem cut_app (a r : Bs) : cut (a ++ 47 :: r) = cut a ++ cut r := by
  induction a with
  | nil => simp [cut]
  | cons c t ih =>
    by_cases h : c = 47
    · subst h; simp [cut, ih]
    · simp only [List.cons_append, cut, h, if_false, ih]
      cases ht : cut t with
      | nil => exact absurd ht (cut_ne t)
      | cons a b => simp
theorem cut_app_free (d : Bs) : ∀ (t : Bs), (47 : UInt8) ∉ d → ∃ i x, cut t = i ++ [x] ∧ cut (t ++ d) = i ++ [x ++ d] := by
  induction d with
  | nil =>
    intro t _
    rcases List.eq_nil_or_concat (cut t) with h | ⟨i, x, h⟩
    · exact absurd h (cut_ne t)
    · exact ⟨i, x, by simpa using h, by simpa using h⟩
  | cons c d ih =>
    intro t h
    simp only [List.mem_cons, not_or] at h
    obtain ⟨i, x, e1, e2⟩ := cut_snoc t c (fun e => h.1 e.symm)
    obtain ⟨i', x', e3, e4⟩ := ih (t ++ [c]) h.2
    rw [e2] at e3
    obtain ⟨rfl, h3⟩ := List.append_inj' e3 rfl
    simp only [List.cons.injEq, and_true] at h3
    subst h3
    exact ⟨i, x, e1, by rw [show t ++ c :: d = t ++ [c] ++ d by simp, e4]; simp⟩
theorem cut_one {s : Bs} (h : (cut s).length = 1) : cut s = [s] := by
  have h47 : (47 : UInt8) ∉ s := by
    rw [cut_length] at h
    exact List.count_eq_zero.1 (by omega)
  obtain ⟨i, x, e1, e2⟩ := cut_app_free s [] h47
  simp only [cut, List.nil_append] at e1 e2
  cases i with
  | nil => simp at e1; subst e1; simpa using e2
  | cons a b => simp at e1

/-! Within. -/
theorem ofL_app (a b : List Bs) : ofL (a ++ b) = ofL a ++ ofL b := by simp [ofL]
/-! What is above. -/
/-! PathDeeper. -/
theorem deeper_parts {p s : Bs} (hp : goodL p = true) (hq : goodL (p ++ (47 :: s)) = true) : partsL (p ++ (47 :: s)) = partsL p ++ cut s := by
  obtain ⟨t, rfl, _, _, _, h5⟩ := good_head p hp
  obtain ⟨t', ht', _, _, _, h5'⟩ := good_head _ hq
  rw [h5', h5]
  have : t' = t ++ 47 :: s := by simpa using ht'.symm
  rw [this, cut_app]
/-! PathApart. -/
/-! Numbers. -/
def padL (n : Nat) : Bs := List.replicate (10 - (Go.Lib.decDigits n).length) 48 ++ Go.Lib.decDigits n
def numberL (p : Bs) (n : Int) : Option Bs := if (goodL p && (decide (0 ≤ n) && decide (n ≤ 2147483647))) && goodL (p ++ padL n.toNat) then some (p ++ padL n.toNat) else none
/-- u in k digits. -/
def fw : Nat → Nat → Bs
  | 0, _ => []
  | k + 1, u => fw k (u / 10) ++ [UInt8.ofNat (48 + u % 10)]
theorem fw_zero (k : Nat) : fw k 0 = List.replicate k 48 := by
  induction k with
  | zero => rfl
  | succ k ih => simp [fw, ih, List.replicate_succ']
theorem fw_len (k u : Nat) : (fw k u).length = k := by
  induction k generalizing u with
  | zero => rfl
  | succ k ih => simp [fw, ih]
theorem nDigits_le : ∀ (k u : Nat), u < 10 ^ (k + 1) → Go.Lib.nDigits u ≤ k + 1
  | 0, u, h => by rw [Go.Lib.nDigits_small (by simpa using h)]; exact Nat.le_refl _
  | k + 1, u, h => by
    by_cases h10 : u < 10
    · rw [Go.Lib.nDigits_small h10]; omega
    · rw [Go.Lib.nDigits_big h10]
      have := nDigits_le k (u / 10) (by rw [Nat.pow_succ] at h; omega)
      omega
theorem fw_dec : ∀ (k u : Nat), 1 ≤ k → Go.Lib.nDigits u ≤ k → List.replicate (k - Go.Lib.nDigits u) 48 ++ Go.Lib.decDigits u = fw k u
  | 0, _, h, _ => absurd h (by omega)
  | k + 1, u, _, h => by
    by_cases h10 : u < 10
    · rw [Go.Lib.nDigits_small h10, Go.Lib.decDigits, dif_pos h10]
      have e : u / 10 = 0 := by omega
      have e2 : u % 10 = u := by omega
      simp only [fw, e, e2, fw_zero, Nat.add_sub_cancel]
    · rw [Go.Lib.nDigits_big h10] at h ⊢
      rw [Go.Lib.decDigits, dif_neg h10]
      have hk : 1 ≤ k := by have := Go.Lib.nDigits_pos (u / 10); omega
      have := fw_dec k (u / 10) hk (by omega)
      unfold fw
      rw [← this, ← List.append_assoc]
      congr 3
      omega
theorem padL_fw {n : Nat} (h : n ≤ 2147483647) : padL n = fw 10 n := by
  unfold padL
  rw [Go.Lib.decDigits_length]
  exact fw_dec 10 n (by omega) (nDigits_le 9 n (by omega))
theorem padL_len {n : Nat} (h : n ≤ 2147483647) : (padL n).length = 10 := by rw [padL_fw h, fw_len]
theorem dec_len {n : Nat} (h : n ≤ 2147483647) : 1 ≤ (Go.Lib.decDigits n).length ∧ (Go.Lib.decDigits n).length ≤ 10 := by
  rw [Go.Lib.decDigits_length]
  exact ⟨Go.Lib.nDigits_pos n, nDigits_le 9 n (by omega)⟩
theorem fw_free (k u : Nat) : (47 : UInt8) ∉ fw k u := by
  induction k generalizing u with
  | zero => simp [fw]
  | succ k ih =>
    simp only [fw, List.mem_append, List.mem_singleton, not_or]
    refine ⟨ih _, fun e => ?_⟩
    have h1 := congrArg UInt8.toNat e
    have h2 : (47 : UInt8).toNat = 47 := rfl
    have h3 : (UInt8.ofNat (48 + u % 10)).toNat = 48 + u % 10 := by
      have : 48 + u % 10 < 256 := by omega
      simp [UInt8.toNat_ofNat, Nat.mod_eq_of_lt this]
    omega
theorem dig_lt {a b : Nat} (ha : a < 10) (hb : b < 10) : UInt8.ofNat (48 + a) < UInt8.ofNat (48 + b) ↔ a < b := by
  rw [UInt8.lt_iff_toNat_lt]
  have h1 : (UInt8.ofNat (48 + a)).toNat = 48 + a := by
    have : 48 + a < 256 := by omega
    simp [UInt8.toNat_ofNat, Nat.mod_eq_of_lt this]
  have h2 : (UInt8.ofNat (48 + b)).toNat = 48 + b := by
    have : 48 + b < 256 := by omega
    simp [UInt8.toNat_ofNat, Nat.mod_eq_of_lt this]
  rw [h1, h2]; omega
theorem dig_eq {a b : Nat} (ha : a < 10) (hb : b < 10) : UInt8.ofNat (48 + a) = UInt8.ofNat (48 + b) ↔ a = b := by
  constructor
  · intro e
    have h1 : ¬ UInt8.ofNat (48 + a) < UInt8.ofNat (48 + b) := by rw [e]; exact UInt8.lt_irrefl _
    have h2 : ¬ UInt8.ofNat (48 + b) < UInt8.ofNat (48 + a) := by rw [e]; exact UInt8.lt_irrefl _
    rw [dig_lt ha hb] at h1
    rw [dig_lt hb ha] at h2
    omega
  · rintro rfl; rfl
theorem fw_inj : ∀ (k a b : Nat), a < 10 ^ k → b < 10 ^ k → (fw k a = fw k b ↔ a = b)
  | 0, a, b, ha, hb => by simp at ha hb; simp [fw, ha, hb]
  | k + 1, a, b, ha, hb => by
    rw [Nat.pow_succ] at ha hb
    have ih := fw_inj k (a / 10) (b / 10) (by omega) (by omega)
    constructor
    · intro h
      unfold fw at h
      obtain ⟨h1, h2⟩ := List.append_inj' h rfl
      simp only [List.cons.injEq, and_true] at h2
      have h3 := ih.1 h1
      have h4 := (dig_eq (by omega) (by omega)).1 h2
      omega
    · rintro rfl; rfl
theorem lex_snoc : ∀ (x y : Bs) (c d : UInt8), x.length = y.length → (x ++ [c] < y ++ [d] ↔ x < y ∨ (x = y ∧ c < d))
  | [], [], c, d, _ => by simp [List.cons_lt_cons_iff]
  | [], _ :: _, _, _, h => by simp at h
  | _ :: _, [], _, _, h => by simp at h
  | a :: x, b :: y, c, d, h => by
    have ih := lex_snoc x y c d (by simpa using h)
    simp only [List.cons_append, List.cons_lt_cons_iff, ih, List.cons.injEq]
    constructor
    · rintro (h | ⟨h, h1 | h1⟩)
      · exact .inl (.inl h)
      · exact .inl (.inr ⟨h, h1⟩)
      · exact .inr ⟨⟨h, h1.1⟩, h1.2⟩
    · rintro ((h | h) | ⟨⟨h, h1⟩, h2⟩)
      · exact .inl h
      · exact .inr ⟨h.1, .inl h.2⟩
      · exact .inr ⟨h, .inr ⟨h1, h2⟩⟩
theorem fw_lt : ∀ (k a b : Nat), a < 10 ^ k → b < 10 ^ k → (fw k a < fw k b ↔ a < b)
  | 0, a, b, ha, hb => by simp at ha hb; subst ha hb; simp [fw]
  | k + 1, a, b, ha, hb => by
    rw [Nat.pow_succ] at ha hb
    have ih := fw_lt k (a / 10) (b / 10) (by omega) (by omega)
    have ij := fw_inj k (a / 10) (b / 10) (by omega) (by omega)
    unfold fw
    rw [lex_snoc _ _ _ _ (by rw [fw_len, fw_len]), ih, ij, dig_lt (by omega) (by omega)]
    omega
theorem lex_app (p x y : Bs) : p ++ x < p ++ y ↔ x < y := by
  induction p with
  | nil => simp
  | cons c p ih =>
    simp only [List.cons_append, List.cons_lt_cons_iff, ih]
    constructor
    · rintro (h | h)
      · exact absurd h (UInt8.lt_irrefl _)
      · exact h.2
    · intro h; exact .inr ⟨trivial, h⟩
theorem number_some {p : Bs} {n : Int} {s : Bs} (h : numberL p n = some s) : goodL p = true ∧ 0 ≤ n ∧ n ≤ 2147483647 ∧ s = p ++ fw 10 n.toNat ∧ goodL s = true := by
  unfold numberL at h
  split at h
  · rename_i hc
    simp only [Bool.and_eq_true, decide_eq_true_eq] at hc
    obtain ⟨⟨h1, h2, h3⟩, h4⟩ := hc
    simp only [Option.some.injEq] at h
    subst h
    exact ⟨h1, h2, h3, by rw [padL_fw (by omega)], h4⟩
  · cases h
theorem number_parts {p d : Bs} (hd : (47 : UInt8) ∉ d) (hp : goodL p = true) (hq : goodL (p ++ d) = true) : ∃ i x, partsL p = i ++ [x] ∧ partsL (p ++ d) = i ++ [x ++ d] := by
  obtain ⟨t, rfl, _, _, _, h5⟩ := good_head p hp
  obtain ⟨t', ht', _, _, _, h5'⟩ := good_head _ hq
  have e : t' = t ++ d := by simpa using ht'.symm
  rw [h5, h5', e]
  exact cut_app_free d t hd
theorem number_parent {p d : Bs} (hd : (47 : UInt8) ∉ d) (hp : goodL p = true) (hq : goodL (p ++ d) = true) : parentL (p ++ d) = parentL p := by
  obtain ⟨i, x, e1, e2⟩ := number_parts hd hp hq
  unfold parentL
  rw [e1, e2]
  simp
/-- Whether a number may be put behind a path does not hang on the number. -/
theorem number_good {p d e : Bs} (hd : (47 : UInt8) ∉ d) (he : (47 : UInt8) ∉ e) (_hs : d.all sign = true) (ht : e.all sign = true) (hl : d.length = e.length) (h2 : 3 ≤ d.length) (hp : goodL p = true) (hq : goodL (p ++ d) = true) : goodL (p ++ e) = true := by
  obtain ⟨t, rfl, _, hn, h8, h5⟩ := good_head p hp
  obtain ⟨t', ht', hl', hn', h8', _⟩ := good_head _ hq
  have e1 : t' = t ++ d := by simpa using ht'.symm
  subst e1
  obtain ⟨i, x, c1, c2⟩ := cut_app_free d t hd
  obtain ⟨i2, x2, c3, c4⟩ := cut_app_free e t he
  rw [c1] at c3
  obtain ⟨rfl, h3⟩ := List.append_inj' c3 rfl
  simp only [List.cons.injEq, and_true] at h3
  subst h3
  rw [List.cons_append, good_cons' _ (by simp at hl' ⊢; omega), c4]
  rw [c2] at hn' h8'
  rw [c1] at hn
  simp only [List.all_append, List.all_cons, List.all_nil, Bool.and_true, Bool.and_eq_true, decide_eq_true_eq] at hn hn' ⊢
  refine ⟨⟨hn'.1, ?_⟩, by simpa using h8'⟩
  have hx := hn'.2
  have hx0 := hn.2
  unfold nameL at hx hx0 ⊢
  simp only [List.all_append, Bool.and_eq_true, decide_eq_true_eq, List.length_append] at hx hx0 ⊢
  refine ⟨⟨⟨⟨⟨hx0.1.1.1.1, ht⟩, by omega⟩, by omega⟩, ?_⟩, ?_⟩
  · simp only [bne_iff_ne, ne_eq]; intro e; have := congrArg List.length e; simp at this; omega
  · simp only [bne_iff_ne, ne_eq]; intro e; have := congrArg List.length e; simp at this; omega
theorem fw_sign (k u : Nat) : (fw k u).all sign = true := by
  induction k generalizing u with
  | zero => rfl
  | succ k ih =>
    unfold fw
    rw [List.all_append, ih, Bool.true_and]
    simp only [List.all_cons, List.all_nil, Bool.and_true, sign, Bool.and_eq_true, decide_eq_true_eq, UInt8.le_iff_toNat_le]
    have h1 : (UInt8.ofNat (48 + u % 10)).toNat = 48 + u % 10 := by
      have : 48 + u % 10 < 256 := by omega
      simp [UInt8.toNat_ofNat, Nat.mod_eq_of_lt this]
    rw [h1]
    have h33 : (33 : UInt8).toNat = 33 := rfl
    have h126 : (126 : UInt8).toNat = 126 := rfl
    omega
end Av

/- Chapter 5 in plain Lean: what may be asked. No program. -/
namespace Av
set_option maxRecDepth 100000
open Go Go.RowKit
/-- What is asked of one path. -/
structure OpV where
  kind : Int
  path : ByteArray
  data : ByteArray
  ver : Int
  flags : Int
deriving DecidableEq
def OpV.cells (o : OpV) : List Value := [.int .i64 o.kind, .string o.path, .string o.data, .int .i64 o.ver, .int .i64 o.flags]
def OpV.val (o : OpV) : Value := .agg #[.int .i64 o.kind, .string o.path, .string o.data, .int .i64 o.ver, .int .i64 o.flags]
def versionedB (k : Int) : Bool := decide (k = 2) || (decide (k = 3) || decide (k = 4))
def formedB (o : OpV) : Bool := decide (1 ≤ o.kind) && (decide (o.kind ≤ 7) && (goodL o.path.data.toList && (decide (-1 ≤ o.ver) && (decide (0 ≤ o.flags) && decide (o.flags ≤ 3)))))
def ownB (o : OpV) : Bool := (decide (o.data.size = 0) || (decide (o.kind = 1) || decide (o.kind = 3))) && ((decide (o.ver = 0) || versionedB o.kind) && (decide (o.flags = 0) || decide (o.kind = 1)))
def numberedB (o : OpV) : Bool := decide (o.flags < 2) || (decide (1 < (partsL o.path.data.toList).length) && (numberL o.path.data.toList 0).isSome)
/-- What is wrong with an op first. -/
def goodO (o : OpV) : Int := if formedB o then (if 1000 < o.data.size then 2 else if ownB o && numberedB o then 0 else 1) else 1
end Av

/- First names, rising, each once: plain laws. No program. -/
namespace Av
set_option maxRecDepth 100000
open Go
/-- Strictly rising. -/
abbrev Rising (l : List Bs) : Prop := l.Pairwise (· < ·)
theorem rising_ext : ∀ {a b : List Bs}, Rising a → Rising b → (∀ x, x ∈ a ↔ x ∈ b) → a = b
  | [], [], _, _, _ => rfl
  | [], y :: b, _, _, h => absurd ((h y).2 (by simp)) (by simp)
  | x :: a, [], _, _, h => absurd ((h x).1 (by simp)) (by simp)
  | x :: a, y :: b, ha, hb, h => by
    obtain ⟨hx, ha'⟩ := List.pairwise_cons.1 ha
    obtain ⟨hy, hb'⟩ := List.pairwise_cons.1 hb
    have hxy : x = y := by
      rcases List.mem_cons.1 ((h x).1 (by simp)) with e | e
      · exact e
      · rcases List.mem_cons.1 ((h y).2 (by simp)) with e2 | e2
        · exact e2.symm
        · exact absurd (List.lt_trans (hx y e2) (hy x e)) (List.lt_irrefl x)
    subst hxy
    rw [rising_ext ha' hb' (fun z => ?_)]
    constructor
    · intro hz
      rcases List.mem_cons.1 ((h z).1 (by simp [hz])) with e | e
      · exact absurd (hx z hz) (by rw [e]; exact List.lt_irrefl x)
      · exact e
    · intro hz
      rcases List.mem_cons.1 ((h z).2 (by simp [hz])) with e | e
      · exact absurd (hy z hz) (by rw [e]; exact List.lt_irrefl x)
      · exact e
/-- How many of a list are less than a name, from its head on. -/
def lessN (s : Bs) : List Bs → Nat
  | [] => 0
  | t :: r => if t < s then lessN s r + 1 else 0
theorem lessN_yes {s t : Bs} {r : List Bs} (h : t < s) : lessN s (t :: r) = lessN s r + 1 := if_pos h
theorem lessN_no {s t : Bs} {r : List Bs} (h : ¬ t < s) : lessN s (t :: r) = 0 := if_neg h
theorem lessN_le (s : Bs) : ∀ (l : List Bs), lessN s l ≤ l.length
  | [] => Nat.le_refl _
  | t :: r => by unfold lessN; split <;> simp [lessN_le s r]
theorem lessN_take (s : Bs) : ∀ (l : List Bs), ∀ x ∈ l.take (lessN s l), x < s
  | [], x, h => by simp at h
  | t :: r, x, h => by
    unfold lessN at h
    split at h
    · rename_i ht
      rw [List.take_succ_cons] at h
      rcases List.mem_cons.1 h with e | e
      · subst e; exact ht
      · exact lessN_take s r x e
    · simp at h
theorem lessN_at (s : Bs) : ∀ (l : List Bs) (k : Nat) (hk : k < l.length), (∀ x ∈ l.take k, x < s) → ¬ l[k] < s → lessN s l = k
  | [], k, hk, _, _ => by simp at hk
  | t :: r, 0, _, _, h => by unfold lessN; rw [if_neg (by simpa using h)]
  | t :: r, k + 1, hk, h1, h2 => by
    unfold lessN
    rw [if_pos (h1 t (by simp)), lessN_at s r k (by simpa using hk) (fun x hx => h1 x (by simp [hx])) (by simpa using h2)]
theorem lessN_all (s : Bs) : ∀ (l : List Bs), (∀ x ∈ l, x < s) → lessN s l = l.length
  | [], _ => rfl
  | t :: r, h => by
    unfold lessN
    rw [if_pos (h t (by simp)), lessN_all s r (fun x hx => h x (by simp [hx]))]; rfl
theorem lessN_get (s : Bs) : ∀ (l : List Bs) (h : lessN s l < l.length), ¬ l[lessN s l] < s
  | [], h => by simp at h
  | t :: r, h => by
    by_cases ht : t < s
    · have e : lessN s (t :: r) = lessN s r + 1 := lessN_yes ht
      have h2 : lessN s r < r.length := by rw [e] at h; simpa using h
      have := lessN_get s r h2
      simpa [e] using this
    · have e : lessN s (t :: r) = 0 := lessN_no ht
      simpa [e] using ht
theorem lt_of_not {a b : Bs} (h : ¬ a < b) (hne : a ≠ b) : b < a := by
  by_cases h2 : b < a
  · exact h2
  · exact absurd (List.le_antisymm (show a ≤ b from h2) (show b ≤ a from h)) hne
/-! What is sorted, and of neighbours that are alike one. -/
end Av

/- Appending rows of k cells each, whatever they hold; appending a string's bytes. No program. -/
namespace Av
set_option maxRecDepth 100000
open Go Go.RowKit
/-- nil, or a slice that lies somewhere. -/
def Shp (u : Value) : Prop := u = .slice none 0 0 ∨ ∃ ad l c, u = .slice (some ad) l c
theorem Shp.some {ad : Addr} {l c : Nat} : Shp (.slice (some ad) l c) := .inr ⟨_, _, _, rfl⟩
theorem Shp.none : Shp (.slice none 0 0) := .inl rfl
theorem shp_owns {w : World} {base : Nat} {e : TypeId} {k : Nat} {v : Value} {n : Nat} {xs : List Value} (h : w.ownsRow base e k v n xs) : Shp v := by
  rcases h.2 with ⟨h, _⟩ | ⟨g, cap, cur, h, _⟩
  · exact .inl h
  · exact .inr ⟨_, _, _, h⟩
/-- What the type table says of an element's type. -/
def ElemOk (P : Program) (t e : TypeId) (k : Nat) : Prop := P.underlying t = some (.slice e) ∧ (P.info? e).map (fun i => (i.zero.map fun z => z.cells.size, i.size, decide (i.bytes ≤ 1000))) = some (some k, k, true)
theorem wpList_appK {P : Program} {ops : Array Oper} {rest : List Oper} {o : Oper} {a : Act} {Q : Exit → Act → World → Prop} {w : World} (t e : TypeId) (k : Nat) (hk : 0 < k) (hfacts : ElemOk P t e k)
    (hgd : o.guard = none) (s x : Operand) (ho : o.op = .call { callee := .builtin .append, args := #[s, x], argTypes := #[t, t] })
    (base : Nat) (v : Value) (n : Nat) (xs : List Value) (hs : a.eval s = v) (hown : w.ownsRow base e k v n xs)
    (u : Value) (m : Nat) (ys : List Value) (hx : a.eval x = u) (hu : Sl w k u m ys) (hsh : Shp u) (hone : ∀ y ∈ ys, y.oneCell' = true) (hn : n + m ≤ 100000000000) (hbase : base ≤ w.heap.size)
    (h : ∀ v' w', w'.ownsRow base e k v' (n + m) (xs ++ ys) → Kp (fun k => v.ownBlock = some k) w w' → wpList P ops Q rest (a.put o.dst v') w') : wpList P ops Q (o :: rest) a w := by
  obtain ⟨ht, hi⟩ := hfacts
  cases hie : P.info? e with
  | none => simp [hie] at hi
  | some i =>
    simp only [hie, Option.map_some, Option.some.injEq, Prod.mk.injEq, decide_eq_true_eq] at hi
    obtain ⟨hz, hsz, hby⟩ := hi
    cases hze : i.zero with
    | none => simp [hze] at hz
    | some z =>
      simp only [hze, Option.map_some, Option.some.injEq] at hz
      rcases hsh with hsh | ⟨ad, l, c, hsh⟩
      · obtain ⟨a2, c2, hv, _, _, hyl, _⟩ := Sl.open hu
        have h0 : m = 0 := by rw [hsh] at hv; simp at hv; exact hv.2.1.symm ▸ rfl
        subst h0
        obtain rfl : ys = [] := List.length_eq_zero_iff.1 (by simpa using hyl)
        refine wpList_append_own_none hgd s x t ho base e i k ht hie v n xs hs hown (hx.trans hsh) ?_
        exact h v w (by simpa using hown) (Kp.refl _ w)
      · obtain ⟨a2, c2, hv, _, _, hyl, hcells⟩ := Sl.open hu
        rw [hsh] at hv
        simp at hv
        obtain ⟨h1, h2, h3⟩ := hv
        subst h2 h3
        have hnb : (n + l) * i.bytes ≤ 140737488355328 := by
          have := Nat.mul_le_mul hn hby
          omega
        refine wpList_append_own w hgd s x t ho base e i z k i.bytes ht hie hze hsz rfl hz hk v n xs hs hown ad l _ ys (hx.trans hsh) hyl ?_ hone (by unfold maxLen; omega) hnb hbase ?_
        · intro j u' hj
          have hj' : j < l * k := by have := (List.getElem?_eq_some_iff.1 hj).1; omega
          have hl0 : 0 < l := by
            rcases Nat.eq_zero_or_pos l with h0 | h0
            · subst h0; simp at hj'
            · exact h0
          obtain ⟨b, off, e2, _, hc⟩ := hcells hl0
          rw [← h1] at e2
          obtain rfl : ad = ⟨b, off, none⟩ := by simpa using e2
          rw [show (⟨b, off, none⟩ : Addr).add j = ⟨b, off + j, none⟩ by by_cases h : j = 0 <;> simp [Addr.add, h]]
          exact hc j u' hj
        · intro v' w' h1 h2 _
          exact h v' w' h1 ((Kp.refl _ w).grown h2 (fun k hk _ => hk))

/-! Bytes. -/
def byteV (b : UInt8) : Value := .int .u8 (b.toNat : Int)
/-- A slice of bytes that can be read. -/
def BytesR (w : World) (v : Value) (bs : List UInt8) : Prop := Sl w 1 v bs.length (bs.map byteV) ∧ Shp v
theorem BytesR.ext {w w' : World} {v : Value} {bs : List UInt8} (h : BytesR w v bs) (k : Ext w w') : BytesR w' v bs := ⟨h.1.ext k, h.2⟩
theorem BytesR.kp {S : Nat → Prop} {w w' : World} {v : Value} {bs : List UInt8} (h : BytesR w v bs) (k : Kp S w w') (hs : ∀ b, v.ownBlock = some b → b < w.heap.size → ¬ S b) : BytesR w' v bs := ⟨h.1.kp k hs, h.2⟩
theorem BytesR.nil (w : World) : BytesR w (.slice none 0 0) [] := ⟨Sl.nil w 1, .inl rfl⟩
theorem BytesR.open {w : World} {v : Value} {bs : List UInt8} (h : BytesR w v bs) :
    ∃ a c, v = .slice a bs.length c ∧ bs.length ≤ c ∧ bs.length ≤ maxLen ∧ (0 < bs.length → ∃ b off, a = some ⟨b, off, none⟩ ∧ b < w.heap.size ∧ ∀ i (hi : i < bs.length), w.cell? ⟨b, off + i, none⟩ = some (byteV bs[i])) := by
  obtain ⟨a, c, rfl, hcc, h1, h2, h3⟩ := Sl.open h.1
  refine ⟨a, c, rfl, hcc, h1, fun hn => ?_⟩
  obtain ⟨b, off, rfl, hb, hc⟩ := h3 hn
  exact ⟨b, off, rfl, hb, fun i hi => hc i _ (by rw [List.getElem?_map, List.getElem?_eq_getElem hi]; rfl)⟩
/-- A block known whole. -/
def Blk (w : World) (g : Nat) (cs : Array Value) (T : TypeId) : Prop := w.heap[g]? = some (.cells cs T (0, 0))
theorem Blk.cell {w : World} {g : Nat} {cs : Array Value} {T : TypeId} (h : Blk w g cs T) (i : Nat) (v : Value) (hv : cs[i]? = some v) : w.cell? ⟨g, i, none⟩ = some v := by
  unfold Blk at h
  simp [World.cell?, h, hv]
theorem Blk.free {w : World} {g : Nat} {cs : Array Value} {T : TypeId} (h : Blk w g cs T) (i : Nat) : w.frozen? ⟨g, i, none⟩ = false := by
  unfold Blk at h
  simp [World.frozen?, h]
theorem Blk.set {w : World} {g : Nat} {cs : Array Value} {T : TypeId} (h : Blk w g cs T) (i : Nat) (u : Value) : Blk (w.setCell ⟨g, i, none⟩ u) g (cs.setIfInBounds i u) T := by
  unfold Blk at *
  simp [World.setCell, Array.getElem?_modify, h]
theorem Blk.kp {S : Nat → Prop} {w w' : World} {g : Nat} {cs : Array Value} {T : TypeId} (h : Blk w g cs T) (k : Kp S w w') (hs : ¬ S g) : Blk w' g cs T := k.obj h hs
theorem Blk.lt {w : World} {g : Nat} {cs : Array Value} {T : TypeId} (h : Blk w g cs T) : g < w.heap.size := (Array.getElem?_eq_some_iff.1 h).1

theorem Kp.set1 {S : Nat → Prop} {a w : World} (h : Kp S a w) (g i : Nat) (u : Value) (hs : S g) : Kp S a (w.setCell ⟨g, i, none⟩ u) := h.setCell ⟨g, i, none⟩ u (fun _ => hs)
end Av

/- Slices of rows of K cells each. No program. -/
namespace Av
set_option maxRecDepth 100000
open Go Go.RowKit
theorem rowK_cell {α : Type} (f : α → List Value) (K : Nat) (hf : ∀ x, (f x).length = K) : ∀ (xs : List α) (k : Nat) (hk : k < xs.length) (j : Nat), j < K → (xs.flatMap f)[k * K + j]? = (f xs[k])[j]?
  | [], _, hk, _, _ => by simp at hk
  | a :: xs, 0, _, j, hj => by
    simp only [List.flatMap_cons, List.getElem_cons_zero, Nat.zero_mul, Nat.zero_add]
    rw [List.getElem?_append_left (by rw [hf]; exact hj)]
  | a :: xs, k + 1, hk, j, hj => by
    simp only [List.flatMap_cons, List.getElem_cons_succ]
    rw [List.getElem?_append_right (by rw [hf, Nat.succ_mul]; omega), hf]
    rw [show (k + 1) * K + j - K = k * K + j by rw [Nat.succ_mul]; omega]
    exact rowK_cell f K hf xs k (by simpa using hk) j hj
theorem rowK_len {α : Type} (f : α → List Value) (K : Nat) (hf : ∀ x, (f x).length = K) (xs : List α) : (xs.flatMap f).length = xs.length * K := by
  induction xs with
  | nil => simp
  | cons a l ih => rw [List.flatMap_cons, List.length_append, hf, ih, List.length_cons, Nat.succ_mul]; omega
/-- Rows that can be read. -/
theorem Sl.rows {α : Type} {f : α → List Value} {K : Nat} (hf : ∀ x, (f x).length = K) {w : World} {v : Value} {xs : List α} (h : Sl w K v xs.length (xs.flatMap f)) :
    ∃ a c, v = .slice a xs.length c ∧ xs.length ≤ c ∧ xs.length ≤ maxLen ∧ (0 < xs.length → ∃ b off, a = some ⟨b, off, none⟩ ∧ b < w.heap.size ∧ ∀ k (hk : k < xs.length) j x, j < K → (f xs[k])[j]? = some x → w.cell? ⟨b, off + k * K + j, none⟩ = some x) := by
  obtain ⟨a, c, rfl, hcc, h1, _, h3⟩ := Sl.open h
  refine ⟨a, c, rfl, hcc, h1, fun hn => ?_⟩
  obtain ⟨b, off, rfl, hb, hc⟩ := h3 hn
  refine ⟨b, off, rfl, hb, fun k hk j x hj hx => ?_⟩
  rw [Nat.add_assoc]
  exact hc (k * K + j) x (by rw [rowK_cell f K hf xs k hk j hj]; exact hx)
end Av

/- A block whose head holds a row, written in place. No program. -/
namespace Av
set_option maxRecDepth 100000
open Go Go.RowKit
/-- Block b, of cap elements of k cells, holds xs at its head. -/
def RowB (w : World) (b : Nat) (e : TypeId) (k cap : Nat) (xs : List Value) : Prop :=
  ∃ cur, w.heap[b]? = some (.cells cur e (0, 0)) ∧ cur.size = cap * k ∧ cur.toList.take xs.length = xs
section
variable {w : World} {b : Nat} {e : TypeId} {k cap : Nat} {xs : List Value}
theorem RowB.lt (h : RowB w b e k cap xs) : b < w.heap.size := by obtain ⟨cur, h1, _⟩ := h; exact (Array.getElem?_eq_some_iff.1 h1).1
theorem RowB.len (h : RowB w b e k cap xs) : xs.length ≤ cap * k := by
  obtain ⟨cur, _, h2, h3⟩ := h
  have := congrArg List.length h3
  rw [List.length_take] at this
  simp at this; omega
theorem RowB.cell (h : RowB w b e k cap xs) {i : Nat} {v : Value} (hv : xs[i]? = some v) : w.cell? ⟨b, i, none⟩ = some v := by
  obtain ⟨cur, h1, h2, h3⟩ := h
  obtain ⟨hi, _⟩ := List.getElem?_eq_some_iff.1 hv
  rw [← h3, List.getElem?_take, if_pos hi] at hv
  simp [World.cell?, h1]; simpa using hv
theorem RowB.free (h : RowB w b e k cap xs) (i : Nat) : w.frozen? ⟨b, i, none⟩ = false := by
  obtain ⟨cur, h1, h2, h3⟩ := h
  simp [World.frozen?, h1]
theorem RowB.kp {S : Nat → Prop} {w' : World} (h : RowB w b e k cap xs) (hk : Kp S w w') (hs : ¬ S b) : RowB w' b e k cap xs := by
  obtain ⟨cur, h1, h2, h3⟩ := h
  exact ⟨cur, hk.obj h1 hs, h2, h3⟩
theorem RowB.set (h : RowB w b e k cap xs) (i : Nat) (v : Value) : RowB (w.setCell ⟨b, i, none⟩ v) b e k cap (xs.set i v) := by
  obtain ⟨cur, h1, h2, h3⟩ := h
  refine ⟨cur.setIfInBounds i v, ?_, by simpa using h2, ?_⟩
  · simp [World.setCell, Array.getElem?_modify, h1]
  · rw [Array.toList_setIfInBounds, List.length_set, List.take_set, h3]
def setMs (xs : List Value) : Nat → List Value → List Value
  | _, [] => xs
  | o, v :: r => setMs (xs.set o v) (o + 1) r
theorem RowB.setCells : ∀ (vs : List Value) {w : World} {xs : List Value} (o : Nat), RowB w b e k cap xs → RowB (w.setCells b o vs) b e k cap (setMs xs o vs)
  | [], _, _, _, h => h
  | v :: r, _, _, o, h => RowB.setCells r (o + 1) (h.set o v)
theorem kp_setCells : ∀ (vs : List Value) (w : World) (o : Nat), Kp (fun i => i = b) w (w.setCells b o vs)
  | [], w, _ => Kp.refl _ w
  | v :: r, w, o => (Kp.setCell (S := fun i => i = b) (Kp.refl _ w) ⟨b, o, none⟩ v (fun _ => rfl)).trans (kp_setCells r _ (o + 1))
end
theorem RowB.of_owns {w : World} {base n cap k : Nat} {e : TypeId} {xs : List Value} {ad : Addr} (h : w.ownsRow base e k (.slice (some ad) n cap) n xs) :
    ∃ b, ad = ⟨b, 0, none⟩ ∧ RowB w b e k cap xs ∧ xs.length = n * k ∧ n ≤ cap ∧ cap ≤ maxLen ∧ base ≤ b := by
  obtain ⟨h1, h2 | ⟨g, c, cur, hv, hb, hg, hn, hm, hs, ht⟩⟩ := h
  · simp at h2
  · simp only [Value.slice.injEq, Option.some.injEq, true_and] at hv
    obtain ⟨rfl, rfl⟩ := hv
    exact ⟨g, rfl, ⟨cur, hg, hs, by rw [h1]; exact ht⟩, h1, hn, hm, hb⟩
theorem RowB.owns {w : World} {base b m cap k : Nat} {e : TypeId} {xs : List Value} (h : RowB w b e k cap xs) (hm : m * k ≤ xs.length) (hc : m ≤ cap) (hx : cap ≤ maxLen) (hb : base ≤ b) :
    w.ownsRow base e k (.slice (some ⟨b, 0, none⟩) m cap) m (xs.take (m * k)) := by
  obtain ⟨cur, h1, h2, h3⟩ := h
  refine ⟨by rw [List.length_take]; omega, .inr ⟨b, cap, cur, rfl, hb, h1, hc, hx, h2, ?_⟩⟩
  rw [← h3, List.take_take, Nat.min_eq_left (by omega)]
end Av
