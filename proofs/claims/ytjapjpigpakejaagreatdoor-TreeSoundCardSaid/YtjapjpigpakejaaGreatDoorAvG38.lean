/- Texts put together: AvPackLaw, AvReqArg. -/
import Derived.Test.YtjapjpigpakejaaGreatDoorAvPath
import Derived.Test.YtjapjpigpakejaaGreatDoorAvBase
import Derived.Laws.BitsLemmas
import Derived.Laws.Bits64
import Derived.Test.YtjapjpigpakejaaGreatDoorAvG37

/- Chapter 2 in plain Lean: numbers and texts in bytes, and back. No program. -/
namespace Av
set_option maxRecDepth 100000
open Go Go.RowKit
/-- An int64. -/
def I64 (v : Int) : Prop := -9223372036854775808 ≤ v ∧ v ≤ 9223372036854775807
def byteAt (v : Int) (i : Nat) : UInt8 := UInt8.ofNat ((v / 2 ^ (8 * i)) % 256).toNat
def be8 (v : Int) : Bs := [byteAt v 7, byteAt v 6, byteAt v 5, byteAt v 4, byteAt v 3, byteAt v 2, byteAt v 1, byteAt v 0]
def fold8 (l : Bs) : Nat := l.foldl (fun u b => u * 256 + b.toNat) 0
def un8 (l : Bs) : Int := wrap64 (fold8 l)
theorem byteAt_toNat (v : Int) (i : Nat) : ((byteAt v i).toNat : Int) = (v / 2 ^ (8 * i)) % 256 := by
  unfold byteAt
  have h0 : 0 ≤ (v / 2 ^ (8 * i)) % 256 := Int.emod_nonneg _ (by decide)
  have h1 : (v / 2 ^ (8 * i)) % 256 < 256 := Int.emod_lt_of_pos _ (by decide)
  have : ((v / 2 ^ (8 * i)) % 256).toNat < 256 := by omega
  rw [UInt8.toNat_ofNat', Nat.mod_eq_of_lt this]
  omega
theorem wrap64_eq (n : Int) : wrap64 n = (n + 9223372036854775808) % 18446744073709551616 - 9223372036854775808 := by
  unfold wrap64; first | rfl | simp
/-- u in k bytes. -/
def beN : Nat → Nat → Bs
  | 0, _ => []
  | k + 1, u => beN k (u / 256) ++ [UInt8.ofNat (u % 256)]
theorem fold8_snoc (l : Bs) (b : UInt8) : fold8 (l ++ [b]) = fold8 l * 256 + b.toNat := by unfold fold8; rw [List.foldl_append]; rfl
theorem ofNat_toNat {n : Nat} (h : n < 256) : (UInt8.ofNat n).toNat = n := by rw [UInt8.toNat_ofNat', Nat.mod_eq_of_lt h]
theorem fold8_beN : ∀ (k u : Nat), u < 256 ^ k → fold8 (beN k u) = u
  | 0, u, h => by simp at h; subst h; rfl
  | k + 1, u, h => by
    rw [Nat.pow_succ] at h
    rw [beN, fold8_snoc, fold8_beN k (u / 256) (by omega), ofNat_toNat (by omega)]
    omega
theorem beN_fold8 : ∀ (k : Nat) (l : Bs), l.length = k → beN k (fold8 l) = l ∧ fold8 l < 256 ^ k
  | 0, l, h => by rw [List.length_eq_zero_iff.1 h]; exact ⟨rfl, by decide⟩
  | k + 1, l, h => by
    rcases List.eq_nil_or_concat l with rfl | ⟨i, b, rfl⟩
    · simp at h
    · simp only [List.concat_eq_append, List.length_append, List.length_cons, List.length_nil] at h
      obtain ⟨h1, h2⟩ := beN_fold8 k i (by omega)
      have hb : b.toNat < 256 := b.toNat_lt
      rw [List.concat_eq_append, fold8_snoc, Nat.pow_succ]
      refine ⟨?_, by omega⟩
      rw [beN, show (fold8 i * 256 + b.toNat) / 256 = fold8 i by omega, show (fold8 i * 256 + b.toNat) % 256 = b.toNat by omega, h1]
      congr 2
      exact UInt8.toNat_inj.1 (ofNat_toNat hb)
theorem byteAt_eq (v : Int) (i m n : Nat) (hm : (2 : Int) ^ (8 * i) = m) (h : ((v / (m : Int)) % 256).toNat = n) : byteAt v i = UInt8.ofNat n := by
  unfold byteAt
  rw [hm, h]
theorem be8_beN (v : Int) : be8 v = beN 8 (v % 18446744073709551616).toNat := by
  have hu : ((v % 18446744073709551616).toNat : Int) = v % 18446744073709551616 := Int.toNat_of_nonneg (Int.emod_nonneg _ (by decide))
  generalize (v % 18446744073709551616).toNat = u at hu
  simp only [be8, beN, List.nil_append, List.cons_append, Nat.div_div_eq_div_mul, Nat.reduceMul]
  rw [byteAt_eq v 7 72057594037927936 (u / 72057594037927936 % 256) rfl (by omega), byteAt_eq v 6 281474976710656 (u / 281474976710656 % 256) rfl (by omega),
    byteAt_eq v 5 1099511627776 (u / 1099511627776 % 256) rfl (by omega), byteAt_eq v 4 4294967296 (u / 4294967296 % 256) rfl (by omega),
    byteAt_eq v 3 16777216 (u / 16777216 % 256) rfl (by omega), byteAt_eq v 2 65536 (u / 65536 % 256) rfl (by omega), byteAt_eq v 1 256 (u / 256 % 256) rfl (by omega), byteAt_eq v 0 1 (u % 256) rfl (by omega)]
theorem un8_be8 {v : Int} (h : I64 v) : un8 (be8 v) = v := by
  obtain ⟨h0, h1⟩ := h
  have hu : ((v % 18446744073709551616).toNat : Int) = v % 18446744073709551616 := Int.toNat_of_nonneg (Int.emod_nonneg _ (by decide))
  unfold un8
  rw [be8_beN, fold8_beN 8 _ (by omega), wrap64_eq, hu]
  omega
theorem be8_un8 (l : Bs) (h : l.length = 8) : be8 (un8 l) = l ∧ I64 (un8 l) := by
  obtain ⟨h1, h2⟩ := beN_fold8 8 l h
  unfold un8
  rw [be8_beN, wrap64_eq]
  generalize fold8 l = N at h1 h2
  have e : (((N : Int) + 9223372036854775808) % 18446744073709551616 - 9223372036854775808) % 18446744073709551616 = N := by omega
  refine ⟨by rw [e, Int.toNat_natCast]; exact h1, ?_⟩
  unfold I64
  omega
theorem be8_len (v : Int) : (be8 v).length = 8 := rfl
attribute [local irreducible] be8 un8

/-! A reader: what is left, or that something was not there. -/
abbrev Rd := Option Bs
def rdI : Rd → Int × Rd
  | some l => if 8 ≤ l.length then (un8 (l.take 8), some (l.drop 8)) else (0, none)
  | none => (0, none)
def rdC (most : Int) (s : Rd) : Int × Rd := if (rdI s).1 < 0 ∨ most < (rdI s).1 then (0, none) else rdI s
def rdT (most : Int) (s : Rd) : Bs × Rd := match rdC most s with
  | (n, some l) => if l.length < n.toNat then ([], none) else (l.take n.toNat, some (l.drop n.toNat))
  | (_, none) => ([], none)
def txt (s : Bs) : Bs := be8 s.length ++ s
theorem rdI_none : rdI none = (0, none) := rfl
theorem rdC_none {most : Int} : rdC most none = (0, none) := by unfold rdC; split <;> rfl
theorem rdT_none {most : Int} : rdT most none = ([], none) := by unfold rdT; rw [rdC_none]
theorem rdI_be8 {v : Int} (h : I64 v) (r : Bs) : rdI (some (be8 v ++ r)) = (v, some r) := by
  show (if 8 ≤ (be8 v ++ r).length then (un8 ((be8 v ++ r).take 8), some ((be8 v ++ r).drop 8)) else (0, none)) = _
  rw [if_pos (by simp [be8_len])]
  rw [List.take_append_of_le_length (by simp [be8_len]), List.drop_append_of_le_length (by simp [be8_len])]
  rw [List.take_of_length_le (by simp [be8_len]), List.drop_of_length_le (by simp [be8_len]), un8_be8 h]
  rfl
theorem rdI_some {s : Rd} {v : Int} {r : Bs} (h : rdI s = (v, some r)) : s = some (be8 v ++ r) ∧ I64 v := by
  cases s with
  | none => cases h
  | some l =>
    change (if 8 ≤ l.length then (un8 (l.take 8), some (l.drop 8)) else (0, none)) = _ at h
    split at h
    · rename_i h8
      simp only [Prod.mk.injEq, Option.some.injEq] at h
      obtain ⟨rfl, rfl⟩ := h
      obtain ⟨h1, h2⟩ := be8_un8 (l.take 8) (by simp; omega)
      exact ⟨by rw [h1, List.take_append_drop], h2⟩
    · cases h
theorem rdC_be8 {v most : Int} (h : I64 v) (h0 : 0 ≤ v) (h1 : v ≤ most) (r : Bs) : rdC most (some (be8 v ++ r)) = (v, some r) := by
  unfold rdC
  rw [rdI_be8 h]
  exact if_neg (by simp only [not_or]; omega)
theorem rdC_some {s : Rd} {most v : Int} {r : Bs} (h : rdC most s = (v, some r)) : s = some (be8 v ++ r) ∧ I64 v ∧ 0 ≤ v ∧ v ≤ most := by
  unfold rdC at h
  split at h
  · cases h
  · rename_i hc
    obtain ⟨h1, h2⟩ := rdI_some h
    rw [h] at hc
    simp only [not_or, Int.not_lt] at hc
    exact ⟨h1, h2, hc.1, hc.2⟩
theorem i64_len {n : Nat} (h : n ≤ 1000000) : I64 (n : Int) := ⟨by omega, by omega⟩
theorem rdT_of {most : Int} {s : Rd} {n : Nat} {l : Bs} (h : rdC most s = ((n : Int), some l)) (hl : n ≤ l.length) : rdT most s = (l.take n, some (l.drop n)) := by
  unfold rdT
  rw [h]
  show (if l.length < ((n : Int)).toNat then ([], none) else (l.take ((n : Int)).toNat, some (l.drop ((n : Int)).toNat))) = _
  rw [Int.toNat_natCast]
  exact if_neg (by omega)
theorem rdT_txt {most : Int} (t r : Bs) (h : (t.length : Int) ≤ most) (h2 : t.length ≤ 1000000) : rdT most (some (txt t ++ r)) = (t, some r) := by
  have e : rdC most (some (txt t ++ r)) = ((t.length : Int), some (t ++ r)) := by
    have := rdC_be8 (i64_len h2) (Int.natCast_nonneg _) h (t ++ r)
    unfold txt
    rwa [List.append_assoc]
  rw [rdT_of e (by simp), List.take_left, List.drop_left]
theorem rdT_some {s : Rd} {most : Int} {t r : Bs} (h : rdT most s = (t, some r)) : s = some (txt t ++ r) ∧ (t.length : Int) ≤ most := by
  unfold rdT at h
  split at h
  · rename_i n l hc
    split at h
    · cases h
    · rename_i hl
      simp only [Prod.mk.injEq, Option.some.injEq] at h
      obtain ⟨rfl, rfl⟩ := h
      obtain ⟨h1, h2, h3, h4⟩ := rdC_some hc
      have hlen : (l.take n.toNat).length = n.toNat := by simp; omega
      have hn : ((n.toNat : Nat) : Int) = n := by omega
      refine ⟨?_, by rw [hlen, hn]; exact h4⟩
      unfold txt
      rw [hlen, hn, List.append_assoc, List.take_append_drop]
      exact h1
  · cases h
end Av

/- Ops and requests that come in. -/
namespace Go.Proofs.YtjapjpigpakejaaGreatDoor
set_option maxRecDepth 100000
open Go.ChangeShapes Go.WideShapes Go.ChangeAt Go.RowKit Av

/-- An op's numbers are int64s. -/
def Op64 (o : OpV) : Prop := I64 o.kind ∧ I64 o.ver ∧ I64 o.flags
/-- Rows of K cells each, one behind the other. -/
theorem sl_rowsK {α : Type} (f : α → List Value) (K : Nat) (hf : ∀ x, (f x).length = K) (hK : 0 < K) {W : World} {b off len cap : Nat} (xs : List α) (hl : xs.length = len) (hm : len ≤ maxLen) (hcc : len ≤ cap) (hb : 0 < len → b < W.heap.size)
    (h : ∀ (i : Nat) (hi : i < xs.length), ∀ j, j < K → W.cell? ⟨b, off + i * K + j, none⟩ = (f xs[i])[j]?) : Sl W K (.slice (some ⟨b, off, none⟩) len cap) len (xs.flatMap f) := by
  have hfl : (xs.flatMap f).length = len * K := by rw [rows_len f K hf, hl]
  refine ⟨hfl, hm, _, _, rfl, hcc, ?_⟩
  by_cases h0 : len = 0
  · exact .inl h0
  · refine .inr ⟨b, off, rfl, hb (by omega), fun i x hx => ?_⟩
    have hi : i < len * K := by rw [← hfl]; exact (List.getElem?_eq_some_iff.1 hx).1
    have hk : i / K < xs.length := by rw [hl]; exact Nat.div_lt_of_lt_mul (by rwa [Nat.mul_comm])
    have hr : i % K < K := Nat.mod_lt _ hK
    have h1 := rows_cell f K hf xs (i / K) hk (i % K) hr
    have h2 := h (i / K) hk (i % K) hr
    rw [← h1] at h2
    have e : i / K * K + i % K = i := by rw [Nat.mul_comm]; exact Nat.div_add_mod i K
    rw [Nat.add_assoc, e] at h2
    rw [h2, hx]

section
variable {P : Program} {H : Type} {enc : TypeId × Value → H} {W : World}
theorem trod_i64 {t : TypeId} {fuel : Nat} {cs : List Value} {x : DataW H × List MemPlace} (ht : P.underlying t = some (.int .i64)) (h : DataW.trod enc P W 0 (fun _ => true) true fuel t cs = some x) : ∃ n, cs = [.int .i64 n] ∧ I64 n := by
  obtain ⟨n, rfl, _, hw⟩ := DataW.trod_int ht h
  refine ⟨n, rfl, ?_⟩
  rw [Lit.wf, Bool.and_eq_true] at hw
  exact ⟨of_decide_eq_true hw.1, of_decide_eq_true hw.2⟩
theorem trod_str1 {t : TypeId} {fuel : Nat} {cs : List Value} {x : DataW H × List MemPlace} (ht : P.underlying t = some .string) (h : DataW.trod enc P W 0 (fun _ => true) true fuel t cs = some x) : ∃ s, cs = [.string s] ∧ s.size ≤ maxLen := by
  cases fuel with
  | zero => simp [DataW.trod] at h
  | succ n =>
    unfold DataW.trod at h
    rw [ht] at h
    split at h <;> simp_all
end
section
variable {H : Type} {enc : TypeId × Value → H} {W : World}
theorem trod_op {fuel : Nat} {cs : List Value} {x : DataW H × List MemPlace} (h : DataW.trod enc Tryz.prog W 0 (fun _ => true) true fuel 30 cs = some x) : ∃ o : OpV, cs = o.cells ∧ o.path.size ≤ maxLen ∧ o.data.size ≤ maxLen ∧ Op64 o := by
  obtain ⟨xs, n2, _, _, hlcs, hxl, hf⟩ := DataW.trod_struct Tryz.underlying30 h
  have q0 := hf 0 _ rfl
  have q1 := hf 1 _ rfl
  have q2 := hf 2 _ rfl
  have q3 := hf 3 _ rfl
  have q4 := hf 4 _ rfl
  have k3 : Program.cellsOf Tryz.prog 3 = 1 := by kernel_rfl
  have k9 : Program.cellsOf Tryz.prog 9 = 1 := by kernel_rfl
  have k5 : Program.cellsOf Tryz.prog 30 = 5 := by kernel_rfl
  simp at hxl
  obtain ⟨z0, z1, z2, z3, z4, rfl⟩ : ∃ z0 z1 z2 z3 z4, xs = [z0, z1, z2, z3, z4] := by
    match xs, hxl with
    | [z0, z1, z2, z3, z4], _ => exact ⟨z0, z1, z2, z3, z4, rfl⟩
  rw [k5] at hlcs
  obtain ⟨v0, v1, v2, v3, v4, rfl⟩ : ∃ v0 v1 v2 v3 v4, cs = [v0, v1, v2, v3, v4] := by
    match cs, hlcs with
    | [v0, v1, v2, v3, v4], _ => exact ⟨v0, v1, v2, v3, v4, rfl⟩
  simp [k3, k9] at q0 q1 q2 q3 q4
  obtain ⟨i0, e0, b0⟩ := trod_i64 Tryz.underlying3 q0
  obtain ⟨i1, e1, b1⟩ := trod_str1 Tryz.underlying9 q1
  obtain ⟨i2, e2, b2⟩ := trod_str1 Tryz.underlying9 q2
  obtain ⟨i3, e3, b3⟩ := trod_i64 Tryz.underlying3 q3
  obtain ⟨i4, e4, b4⟩ := trod_i64 Tryz.underlying3 q4
  simp at e0 e1 e2 e3 e4
  subst e0 e1 e2 e3 e4
  exact ⟨⟨i0, i1, i2, i3, i4⟩, rfl, b1, b2, b0, b3, b4⟩
/-- Ops that come in. -/
theorem trod_ops {fuel : Nat} {cs : List Value} {x : DataW H × List MemPlace} (h : DataW.trod enc Tryz.prog W 0 (fun _ => true) true fuel 69 cs = some x) : ∃ v, cs = [v] ∧ ∃ xs : List OpV, OpsAt W v xs ∧ OpsSz xs ∧ ∀ o ∈ xs, Op64 o := by
  have k5 : Program.cellsOf Tryz.prog 30 = 5 := by kernel_rfl
  rcases DataW.trod_slice Tryz.underlying69 h with ⟨rfl, hx⟩ | ⟨a, len, cap, elems, rest, n', _, rfl, _, _, hl, hm, hlen, hel, _⟩
  · exact ⟨_, rfl, [], OpsAt.nil W, fun o ho => by (cases ho), fun o ho => by (cases ho)⟩
  · refine ⟨_, rfl, ?_⟩
    have each : ∀ i, i < len → ∃ o : OpV, W.cells? 0 (a.add (i * 5)) 5 = some o.cells ∧ o.path.size ≤ maxLen ∧ o.data.size ≤ maxLen ∧ Op64 o := by
      intro i hi
      have h1 := hel i hi
      rw [k5] at h1
      cases hcs : W.cells? 0 (a.add (i * 5)) 5 with
      | none => rw [hcs] at h1; simp at h1; omega
      | some cs =>
        rw [hcs] at h1
        obtain ⟨y, hy⟩ : ∃ y, elems[i]? = some y := ⟨elems[i], by simp [hlen, hi]⟩
        rw [hy] at h1
        simp only [Option.bind_some] at h1
        obtain ⟨o, rfl, ho⟩ := trod_op h1
        exact ⟨o, rfl, ho⟩
    obtain ⟨xs, hxl, hxs⟩ := list_of_each _ len each
    refine ⟨xs, ⟨?_, Shp.some⟩, fun o ho => ?_, fun o ho => ?_⟩
    · rw [hxl]
      obtain ⟨b, off, spot⟩ := a
      by_cases h0 : len = 0
      · subst h0
        have : xs = [] := List.length_eq_zero_iff.1 hxl
        subst this
        exact ⟨rfl, Nat.zero_le _, _, _, rfl, Nat.zero_le _, .inl rfl⟩
      · have hat := fun i hi => World.cells?_some (hxs i hi).1
        have hfirst := (hat 0 (by omega)).2.2 0 (by omega)
        have h5 : W.cell? ⟨b, off, spot⟩ = some (.int .i64 xs[0].kind) := by simpa [Addr.add, OpV.cells] using hfirst
        have hspot : spot = none := by simpa using World.cell?_spot h5
        subst hspot
        refine sl_rowsK OpV.cells 5 (fun _ => rfl) (by decide) xs hxl (by omega) hl (fun _ => World.block_lt_of_cell? _ _ h5) (fun i hi j hj => ?_)
        have := (hat i hi).2.2 j hj
        rwa [add_plain, add_plain] at this
    · obtain ⟨i, hi, rfl⟩ := List.getElem_of_mem ho
      exact ⟨(hxs i hi).2.1, (hxs i hi).2.2.1⟩
    · obtain ⟨i, hi, rfl⟩ := List.getElem_of_mem ho
      exact (hxs i hi).2.2.2
end
end Go.Proofs.YtjapjpigpakejaaGreatDoor
