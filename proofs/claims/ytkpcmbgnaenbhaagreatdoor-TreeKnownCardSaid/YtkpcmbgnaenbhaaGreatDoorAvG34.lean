/- Texts put together: AvOps, AvPackLaw. -/
import Derived.Test.YtkpcmbgnaenbhaaGreatDoorAvG5
import Derived.Test.YtkpcmbgnaenbhaaGreatDoorAvG6
import Derived.Test.YtkpcmbgnaenbhaaGreatDoorAvPath
import Derived.Test.YtkpcmbgnaenbhaaGreatDoorAvBase
import Derived.Laws.BitsLemmas
import Derived.Laws.Bits64

/- Slices of ops in memory; what a request may be. No program. -/
namespace Av
set_option maxRecDepth 100000
open Go Go.RowKit
theorem rows_cell {α : Type} (f : α → List Value) (K : Nat) (hf : ∀ x, (f x).length = K) : ∀ (xs : List α) (k : Nat) (hk : k < xs.length) (j : Nat), j < K → (xs.flatMap f)[k * K + j]? = (f xs[k])[j]?
  | [], _, hk, _, _ => by simp at hk
  | a :: xs, 0, _, j, hj => by
    simp only [List.flatMap_cons, List.getElem_cons_zero, Nat.zero_mul, Nat.zero_add]
    rw [List.getElem?_append_left (by rw [hf]; exact hj)]
  | a :: xs, k + 1, hk, j, hj => by
    simp only [List.flatMap_cons, List.getElem_cons_succ]
    rw [List.getElem?_append_right (by rw [hf, Nat.succ_mul]; omega)]
    have := rows_cell f K hf xs k (by simpa using hk) j hj
    rw [← this, hf]
    congr 1
    rw [Nat.succ_mul]
    omega
theorem rows_len {α : Type} (f : α → List Value) (K : Nat) (hf : ∀ x, (f x).length = K) (xs : List α) : (xs.flatMap f).length = xs.length * K := by
  induction xs with
  | nil => simp
  | cons a l ih => rw [List.flatMap_cons, List.length_append, hf, ih, List.length_cons, Nat.succ_mul]; omega
/-- A slice of ops. -/
def OpsAt (w : World) (v : Value) (xs : List OpV) : Prop := Sl w 5 v xs.length (xs.flatMap OpV.cells) ∧ Shp v
theorem OpsAt.ext {w w' : World} {v : Value} {xs : List OpV} (h : OpsAt w v xs) (k : Ext w w') : OpsAt w' v xs := ⟨h.1.ext k, h.2⟩
theorem OpsAt.kp {S : Nat → Prop} {w w' : World} {v : Value} {xs : List OpV} (h : OpsAt w v xs) (k : Kp S w w') (hs : ∀ b, v.ownBlock = some b → b < w.heap.size → ¬ S b) : OpsAt w' v xs := ⟨h.1.kp k hs, h.2⟩
theorem OpsAt.nil (w : World) : OpsAt w (.slice none 0 0) [] := ⟨Sl.nil w 5, .inl rfl⟩
theorem op_one (xs : List OpV) : ∀ y ∈ xs.flatMap OpV.cells, y.oneCell' = true := by
  intro y hy
  obtain ⟨o, _, h⟩ := List.mem_flatMap.1 hy
  simp only [OpV.cells, List.mem_cons, List.not_mem_nil, or_false] at h
  rcases h with rfl | rfl | rfl | rfl | rfl <;> rfl
theorem OpsAt.open {w : World} {v : Value} {xs : List OpV} (h : OpsAt w v xs) :
    ∃ a c, v = .slice a xs.length c ∧ xs.length ≤ c ∧ xs.length ≤ maxLen ∧ (0 < xs.length → ∃ b off, a = some ⟨b, off, none⟩ ∧ b < w.heap.size ∧ ∀ k (hk : k < xs.length),
      w.cell? ⟨b, off + k * 5, none⟩ = some (.int .i64 xs[k].kind) ∧ w.cell? ⟨b, off + k * 5 + 1, none⟩ = some (.string xs[k].path) ∧ w.cell? ⟨b, off + k * 5 + 2, none⟩ = some (.string xs[k].data) ∧
      w.cell? ⟨b, off + k * 5 + 3, none⟩ = some (.int .i64 xs[k].ver) ∧ w.cell? ⟨b, off + k * 5 + 4, none⟩ = some (.int .i64 xs[k].flags)) := by
  obtain ⟨a, c, rfl, hcc, h1, _, h3⟩ := Sl.open h.1
  refine ⟨a, c, rfl, hcc, h1, fun hn => ?_⟩
  obtain ⟨b, off, rfl, hb, hc⟩ := h3 hn
  have key : ∀ k (hk : k < xs.length) j x, j < 5 → (xs[k].cells)[j]? = some x → w.cell? ⟨b, off + (k * 5 + j), none⟩ = some x := fun k hk j x hj hx =>
    hc (k * 5 + j) x (by rw [rows_cell OpV.cells 5 (fun _ => rfl) xs k hk j hj]; exact hx)
  refine ⟨b, off, rfl, hb, fun k hk => ⟨?_, ?_, ?_, ?_, ?_⟩⟩
  · have := key k hk 0 _ (by omega) rfl; rwa [Nat.add_zero] at this
  · have := key k hk 1 _ (by omega) rfl; rwa [← Nat.add_assoc] at this
  · have := key k hk 2 _ (by omega) rfl; rwa [← Nat.add_assoc] at this
  · have := key k hk 3 _ (by omega) rfl; rwa [← Nat.add_assoc] at this
  · have := key k hk 4 _ (by omega) rfl; rwa [← Nat.add_assoc] at this

/-- Each op's texts can be. -/
def OpsSz (xs : List OpV) : Prop := ∀ o ∈ xs, o.path.size ≤ maxLen ∧ o.data.size ≤ maxLen
/-- What is wrong with a request first. -/
def mayR (sess num : Int) (xs : List OpV) : Int :=
  if sess < 1 ∨ num < 1 ∨ xs.length = 0 then 1 else if 16 < xs.length then 2 else
    match xs.find? fun o => decide (goodO o ≠ 0) with
    | some o => goodO o
    | none => if 1 < xs.length ∧ xs.any (fun o => readsB o.kind) = true then 1 else 0
/-- Where the first one is, or -1. -/
def idxI (p : OpV → Bool) (xs : List OpV) : Int := match xs.findIdx? p with
  | some i => i
  | none => -1
theorem idxI_at {p : OpV → Bool} {xs : List OpV} {k : Nat} (hk : k < xs.length) (h : ∀ x ∈ xs.take k, p x = false) (hp : p xs[k] = true) : idxI p xs = k := by
  unfold idxI
  have : xs.findIdx? p = some k := by
    rw [List.findIdx?_eq_some_iff_getElem]
    refine ⟨hk, hp, fun j hj => ?_⟩
    have := h (xs[j]) (by rw [List.mem_take_iff_getElem]; exact ⟨j, by omega, rfl⟩)
    simp [this]
  rw [this]
theorem idxI_none {p : OpV → Bool} {xs : List OpV} (h : ∀ x ∈ xs, p x = false) : idxI p xs = -1 := by
  unfold idxI
  have : xs.findIdx? p = none := by rw [List.findIdx?_eq_none_iff]; exact h
  rw [this]
theorem idxI_any (p : OpV → Bool) (xs : List OpV) : decide (0 ≤ idxI p xs) = xs.any p := by
  unfold idxI
  cases h : xs.findIdx? p with
  | none =>
    have : xs.any p = false := by rw [List.any_eq_false]; intro x hx; simp [List.findIdx?_eq_none_iff.1 h x hx]
    rw [this]
    rfl
  | some i =>
    obtain ⟨hi, hp, _⟩ := List.findIdx?_eq_some_iff_getElem.1 h
    have : xs.any p = true := List.any_eq_true.2 ⟨_, List.getElem_mem hi, hp⟩
    rw [this]
    simp
theorem take_allP {α : Type} {p : α → Prop} {l : List α} {k : Nat} (hk : k < l.length) (h : ∀ x ∈ l.take k, p x) (hp : p l[k]) : ∀ x ∈ l.take (k + 1), p x := by
  intro x hx
  rw [List.take_succ_eq_append_getElem hk] at hx
  rcases List.mem_append.1 hx with hx | hx
  · exact h x hx
  · simp at hx; subst hx; exact hp
theorem find_atP {α : Type} (f : α → Bool) (l : List α) (k : Nat) (hk : k < l.length) (h : ∀ x ∈ l.take k, f x = false) (hf : f l[k] = true) : l.find? f = some l[k] := by
  rw [List.find?_eq_some_iff_getElem]
  refine ⟨hf, k, hk, rfl, fun j hj => ?_⟩
  have := h (l[j]) (by rw [List.mem_take_iff_getElem]; exact ⟨j, by omega, rfl⟩)
  simp [this]
theorem mayR_few {sess num : Int} {xs : List OpV} (h : sess < 1 ∨ num < 1 ∨ xs.length = 0) : mayR sess num xs = 1 := by unfold mayR; rw [if_pos h]
theorem mayR_many {sess num : Int} {xs : List OpV} (h : ¬ (sess < 1 ∨ num < 1 ∨ xs.length = 0)) (h2 : 16 < xs.length) : mayR sess num xs = 2 := by unfold mayR; rw [if_neg h, if_pos h2]
theorem mayR_bad {sess num : Int} {xs : List OpV} (h : ¬ (sess < 1 ∨ num < 1 ∨ xs.length = 0)) (h2 : ¬ 16 < xs.length) {k : Nat} (hk : k < xs.length) (h3 : ∀ x ∈ xs.take k, goodO x = 0) (h4 : goodO xs[k] ≠ 0) : mayR sess num xs = goodO xs[k] := by
  unfold mayR
  rw [if_neg h, if_neg h2, find_atP _ xs k hk (fun x hx => by simp [h3 x hx]) (by simpa using h4)]
theorem mayR_all {sess num : Int} {xs : List OpV} (h : ¬ (sess < 1 ∨ num < 1 ∨ xs.length = 0)) (h2 : ¬ 16 < xs.length) (h3 : ∀ x ∈ xs, goodO x = 0) : mayR sess num xs = if 1 < xs.length ∧ xs.any (fun o => readsB o.kind) = true then 1 else 0 := by
  unfold mayR
  have : xs.find? (fun o => decide (goodO o ≠ 0)) = none := by rw [List.find?_eq_none]; intro x hx; simp [h3 x hx]
  rw [if_neg h, if_neg h2, this]
theorem good_kind {o : OpV} (h : goodO o = 0) : 1 ≤ o.kind ∧ o.kind ≤ 7 ∧ goodL o.path.data.toList = true ∧ -1 ≤ o.ver ∧ 0 ≤ o.flags ∧ o.flags ≤ 3 ∧ o.data.size ≤ 1000 := by
  unfold goodO at h
  split at h
  · rename_i hf
    simp only [formedB, Bool.and_eq_true, decide_eq_true_eq] at hf
    split at h
    · cases h
    · exact ⟨hf.1, hf.2.1, hf.2.2.1, hf.2.2.2.1, hf.2.2.2.2.1, hf.2.2.2.2.2, by omega⟩
  · cases h
theorem mayR_ok {sess num : Int} {xs : List OpV} (h : mayR sess num xs = 0) : 1 ≤ sess ∧ 1 ≤ num ∧ 1 ≤ xs.length ∧ xs.length ≤ 16 ∧ (∀ o ∈ xs, goodO o = 0) ∧ (xs.length = 1 ∨ ∀ o ∈ xs, readsB o.kind = false) := by
  by_cases h1 : sess < 1 ∨ num < 1 ∨ xs.length = 0
  · rw [mayR_few h1] at h; cases h
  · by_cases h2 : 16 < xs.length
    · rw [mayR_many h1 h2] at h; cases h
    · by_cases h3 : ∀ o ∈ xs, goodO o = 0
      · rw [mayR_all h1 h2 h3] at h
        simp only [not_or, Int.not_lt] at h1
        refine ⟨h1.1, h1.2.1, by omega, by omega, h3, ?_⟩
        split at h
        · cases h
        · rename_i h4
          by_cases h5 : xs.length = 1
          · exact .inl h5
          · right
            intro o ho
            cases hr : readsB o.kind with
            | false => rfl
            | true => exact absurd ⟨by omega, List.any_eq_true.2 ⟨o, ho, hr⟩⟩ h4
      · unfold mayR at h
        rw [if_neg h1, if_neg h2] at h
        cases hf : xs.find? (fun o => decide (goodO o ≠ 0)) with
        | none =>
          rw [List.find?_eq_none] at hf
          exact absurd (fun o ho => by simpa using hf o ho) h3
        | some o =>
          rw [hf] at h
          have := List.find?_some hf
          simp at this
          exact absurd h this
end Av

/- Chapter 2 in plain Lean: numbers and texts in bytes, and back. No program. -/
namespace Av
set_option maxRecDepth 100000
open Go Go.RowKit
/-- An int64. -/
def I64 (v : Int) : Prop := -9223372036854775808 ≤ v ∧ v ≤ 9223372036854775807
def byteAt (v : Int) (i : Nat) : UInt8 := UInt8.ofNat ((v / 2 ^ (8 * i)) % 256).toNat
def be8 (v : Int) : Bs := [byteAt v 7, byteAt v 6, byteAt v 5, byteAt v 4, byteAt v 3, byteAt v 2, byteAt v 1, byteAt v 0]
def fold8 (l : Bs) : Nat := l.foldl (fun u b => u * 256 + b.toNat) 0
def un8 (l : Bs) : Int := wrap64 (fold8 l)
theorem byteAt_toNat (v : Int) (i : Nat) : ((byteAt v i).toNat : Int) = (v / 2 ^ (8 * i)) % 256 := by
  unfold byteAt
  have h0 : 0 ≤ (v / 2 ^ (8 * i)) % 256 := Int.emod_nonneg _ (by decide)
  have h1 : (v / 2 ^ (8 * i)) % 256 < 256 := Int.emod_lt_of_pos _ (by decide)
  have : ((v / 2 ^ (8 * i)) % 256).toNat < 256 := by omega
  rw [UInt8.toNat_ofNat', Nat.mod_eq_of_lt this]
  omega
theorem wrap64_eq (n : Int) : wrap64 n = (n + 9223372036854775808) % 18446744073709551616 - 9223372036854775808 := by
  unfold wrap64; first | rfl | simp
/-- u in k bytes. -/
def beN : Nat → Nat → Bs
  | 0, _ => []
  | k + 1, u => beN k (u / 256) ++ [UInt8.ofNat (u % 256)]
theorem fold8_snoc (l : Bs) (b : UInt8) : fold8 (l ++ [b]) = fold8 l * 256 + b.toNat := by unfold fold8; rw [List.foldl_append]; rfl
theorem ofNat_toNat {n : Nat} (h : n < 256) : (UInt8.ofNat n).toNat = n := by rw [UInt8.toNat_ofNat', Nat.mod_eq_of_lt h]
theorem fold8_beN : ∀ (k u : Nat), u < 256 ^ k → fold8 (beN k u) = u
  | 0, u, h => by simp at h; subst h; rfl
  | k + 1, u, h => by
    rw [Nat.pow_succ] at h
    rw [beN, fold8_snoc, fold8_beN k (u / 256) (by omega), ofNat_toNat (by omega)]
    omega
theorem beN_fold8 : ∀ (k : Nat) (l : Bs), l.length = k → beN k (fold8 l) = l ∧ fold8 l < 256 ^ k
  | 0, l, h => by rw [List.length_eq_zero_iff.1 h]; exact ⟨rfl, by decide⟩
  | k + 1, l, h => by
    rcases List.eq_nil_or_concat l with rfl | ⟨i, b, rfl⟩
    · simp at h
    · simp only [List.concat_eq_append, List.length_append, List.length_cons, List.length_nil] at h
      obtain ⟨h1, h2⟩ := beN_fold8 k i (by omega)
      have hb : b.toNat < 256 := b.toNat_lt
      rw [List.concat_eq_append, fold8_snoc, Nat.pow_succ]
      refine ⟨?_, by omega⟩
      rw [beN, show (fold8 i * 256 + b.toNat) / 256 = fold8 i by omega, show (fold8 i * 256 + b.toNat) % 256 = b.toNat by omega, h1]
      congr 2
      exact UInt8.toNat_inj.1 (ofNat_toNat hb)
theorem byteAt_eq (v : Int) (i m n : Nat) (hm : (2 : Int) ^ (8 * i) = m) (h : ((v / (m : Int)) % 256).toNat = n) : byteAt v i = UInt8.ofNat n := by
  unfold byteAt
  rw [hm, h]
theorem be8_beN (v : Int) : be8 v = beN 8 (v % 18446744073709551616).toNat := by
  have hu : ((v % 18446744073709551616).toNat : Int) = v % 18446744073709551616 := Int.toNat_of_nonneg (Int.emod_nonneg _ (by decide))
  generalize (v % 18446744073709551616).toNat = u at hu
  simp only [be8, beN, List.nil_append, List.cons_append, Nat.div_div_eq_div_mul, Nat.reduceMul]
  rw [byteAt_eq v 7 72057594037927936 (u / 72057594037927936 % 256) rfl (by omega), byteAt_eq v 6 281474976710656 (u / 281474976710656 % 256) rfl (by omega),
    byteAt_eq v 5 1099511627776 (u / 1099511627776 % 256) rfl (by omega), byteAt_eq v 4 4294967296 (u / 4294967296 % 256) rfl (by omega),
    byteAt_eq v 3 16777216 (u / 16777216 % 256) rfl (by omega), byteAt_eq v 2 65536 (u / 65536 % 256) rfl (by omega), byteAt_eq v 1 256 (u / 256 % 256) rfl (by omega), byteAt_eq v 0 1 (u % 256) rfl (by omega)]
theorem un8_be8 {v : Int} (h : I64 v) : un8 (be8 v) = v := by
  obtain ⟨h0, h1⟩ := h
  have hu : ((v % 18446744073709551616).toNat : Int) = v % 18446744073709551616 := Int.toNat_of_nonneg (Int.emod_nonneg _ (by decide))
  unfold un8
  rw [be8_beN, fold8_beN 8 _ (by omega), wrap64_eq, hu]
  omega
theorem be8_un8 (l : Bs) (h : l.length = 8) : be8 (un8 l) = l ∧ I64 (un8 l) := by
  obtain ⟨h1, h2⟩ := beN_fold8 8 l h
  unfold un8
  rw [be8_beN, wrap64_eq]
  generalize fold8 l = N at h1 h2
  have e : (((N : Int) + 9223372036854775808) % 18446744073709551616 - 9223372036854775808) % 18446744073709551616 = N := by omega
  refine ⟨by rw [e, Int.toNat_natCast]; exact h1, ?_⟩
  unfold I64
  omega
theorem be8_len (v : Int) : (be8 v).length = 8 := rfl
attribute [local irreducible] be8 un8

/-! A reader: what is left, or that something was not there. -/
abbrev Rd := Option Bs
def rdI : Rd → Int × Rd
  | some l => if 8 ≤ l.length then (un8 (l.take 8), some (l.drop 8)) else (0, none)
  | none => (0, none)
def rdC (most : Int) (s : Rd) : Int × Rd := if (rdI s).1 < 0 ∨ most < (rdI s).1 then (0, none) else rdI s
def rdT (most : Int) (s : Rd) : Bs × Rd := match rdC most s with
  | (n, some l) => if l.length < n.toNat then ([], none) else (l.take n.toNat, some (l.drop n.toNat))
  | (_, none) => ([], none)
def txt (s : Bs) : Bs := be8 s.length ++ s
theorem rdI_none : rdI none = (0, none) := rfl
theorem rdC_none {most : Int} : rdC most none = (0, none) := by unfold rdC; split <;> rfl
theorem rdT_none {most : Int} : rdT most none = ([], none) := by unfold rdT; rw [rdC_none]
theorem rdI_be8 {v : Int} (h : I64 v) (r : Bs) : rdI (some (be8 v ++ r)) = (v, some r) := by
  show (if 8 ≤ (be8 v ++ r).length then (un8 ((be8 v ++ r).take 8), some ((be8 v ++ r).drop 8)) else (0, none)) = _
  rw [if_pos (by simp [be8_len])]
  rw [List.take_append_of_le_length (by simp [be8_len]), List.drop_append_of_le_length (by simp [be8_len])]
  rw [List.take_of_length_le (by simp [be8_len]), List.drop_of_length_le (by simp [be8_len]), un8_be8 h]
  rfl
theorem rdI_some {s : Rd} {v : Int} {r : Bs} (h : rdI s = (v, some r)) : s = some (be8 v ++ r) ∧ I64 v := by
  cases s with
  | none => cases h
  | some l =>
    change (if 8 ≤ l.length then (un8 (l.take 8), some (l.drop 8)) else (0, none)) = _ at h
    split at h
    · rename_i h8
      simp only [Prod.mk.injEq, Option.some.injEq] at h
      obtain ⟨rfl, rfl⟩ := h
      obtain ⟨h1, h2⟩ := be8_un8 (l.take 8) (by simp; omega)
      exact ⟨by rw [h1, List.take_append_drop], h2⟩
    · cases h
theorem rdC_be8 {v most : Int} (h : I64 v) (h0 : 0 ≤ v) (h1 : v ≤ most) (r : Bs) : rdC most (some (be8 v ++ r)) = (v, some r) := by
  unfold rdC
  rw [rdI_be8 h]
  exact if_neg (by simp only [not_or]; omega)
theorem rdC_some {s : Rd} {most v : Int} {r : Bs} (h : rdC most s = (v, some r)) : s = some (be8 v ++ r) ∧ I64 v ∧ 0 ≤ v ∧ v ≤ most := by
  unfold rdC at h
  split at h
  · cases h
  · rename_i hc
    obtain ⟨h1, h2⟩ := rdI_some h
    rw [h] at hc
    simp only [not_or, Int.not_lt] at hc
    exact ⟨h1, h2, hc.1, hc.2⟩
theorem i64_len {n : Nat} (h : n ≤ 1000000) : I64 (n : Int) := ⟨by omega, by omega⟩
theorem rdT_of {most : Int} {s : Rd} {n : Nat} {l : Bs} (h : rdC most s = ((n : Int), some l)) (hl : n ≤ l.length) : rdT most s = (l.take n, some (l.drop n)) := by
  unfold rdT
  rw [h]
  show (if l.length < ((n : Int)).toNat then ([], none) else (l.take ((n : Int)).toNat, some (l.drop ((n : Int)).toNat))) = _
  rw [Int.toNat_natCast]
  exact if_neg (by omega)
theorem rdT_txt {most : Int} (t r : Bs) (h : (t.length : Int) ≤ most) (h2 : t.length ≤ 1000000) : rdT most (some (txt t ++ r)) = (t, some r) := by
  have e : rdC most (some (txt t ++ r)) = ((t.length : Int), some (t ++ r)) := by
    have := rdC_be8 (i64_len h2) (Int.natCast_nonneg _) h (t ++ r)
    unfold txt
    rwa [List.append_assoc]
  rw [rdT_of e (by simp), List.take_left, List.drop_left]
theorem rdT_some {s : Rd} {most : Int} {t r : Bs} (h : rdT most s = (t, some r)) : s = some (txt t ++ r) ∧ (t.length : Int) ≤ most := by
  unfold rdT at h
  split at h
  · rename_i n l hc
    split at h
    · cases h
    · rename_i hl
      simp only [Prod.mk.injEq, Option.some.injEq] at h
      obtain ⟨rfl, rfl⟩ := h
      obtain ⟨h1, h2, h3, h4⟩ := rdC_some hc
      have hlen : (l.take n.toNat).length = n.toNat := by simp; omega
      have hn : ((n.toNat : Nat) : Int) = n := by omega
      refine ⟨?_, by rw [hlen, hn]; exact h4⟩
      unfold txt
      rw [hlen, hn, List.append_assoc, List.take_append_drop]
      exact h1
  · cases h
end Av
