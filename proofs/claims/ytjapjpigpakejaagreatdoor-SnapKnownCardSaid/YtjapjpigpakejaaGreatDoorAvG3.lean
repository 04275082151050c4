/- Texts put together: AvPackLaw, AvApp2. -/
import Derived.Test.YtjapjpigpakejaaGreatDoorAvG2
import Derived.Test.YtjapjpigpakejaaGreatDoorAvG1
import Derived.Laws.BitsLemmas
import Derived.Laws.Bits64
import Derived.Laws.AppendOwnNone
import Derived.Lib.AppendStr

/- Chapter 2 in plain Lean: numbers and texts in bytes, and back. No program. -/
namespace Av
set_option maxRecDepth 100000
open Go Go.RowKit
/-- An int64. -/
def I64 (v : Int) : Prop := -9223372036854775808 ≤ v ∧ v ≤ 9223372036854775807
def byteAt (v : Int) (i : Nat) : UInt8 := UInt8.ofNat ((v / 2 ^ (8 * i)) % 256).toNat
def be8 (v : Int) : Bs := [byteAt v 7, byteAt v 6, byteAt v 5, byteAt v 4, byteAt v 3, byteAt v 2, byteAt v 1, byteAt v 0]
def fold8 (l : Bs) : Nat := l.foldl (fun u b => u * 256 + b.toNat) 0
def un8 (l : Bs) : Int := wrap64 (fold8 l)
theorem byteAt_toNat (v : Int) (i : Nat) : ((byteAt v i).toNat : Int) = (v / 2 ^ (8 * i)) % 256 := by
  unfold byteAt
  have h0 : 0 ≤ (v / 2 ^ (8 * i)) % 256 := Int.emod_nonneg _ (by decide)
  have h1 : (v / 2 ^ (8 * i)) % 256 < 256 := Int.emod_lt_of_pos _ (by decide)
  have : ((v / 2 ^ (8 * i)) % 256).toNat < 256 := by omega
  rw [UInt8.toNat_ofNat', Nat.mod_eq_of_lt this]
  omega
theorem wrap64_eq (n : Int) : wrap64 n = (n + 9223372036854775808) % 18446744073709551616 - 9223372036854775808 := by
  unfold wrap64; first | rfl | simp
/-- u in k bytes. -/
def beN : Nat → Nat → Bs
  | 0, _ => []
  | k + 1, u => beN k (u / 256) ++ [UInt8.ofNat (u % 256)]
theorem fold8_snoc (l : Bs) (b : UInt8) : fold8 (l ++ [b]) = fold8 l * 256 + b.toNat := by unfold fold8; rw [List.foldl_append]; rfl
theorem ofNat_toNat {n : Nat} (h : n < 256) : (UInt8.ofNat n).toNat = n := by rw [UInt8.toNat_ofNat', Nat.mod_eq_of_lt h]
theorem fold8_beN : ∀ (k u : Nat), u < 256 ^ k → fold8 (beN k u) = u
  | 0, u, h => by simp at h; subst h; rfl
  | k + 1, u, h => by
    rw [Nat.pow_succ] at h
    rw [beN, fold8_snoc, fold8_beN k (u / 256) (by omega), ofNat_toNat (by omega)]
    omega
theorem beN_fold8 : ∀ (k : Nat) (l : Bs), l.length = k → beN k (fold8 l) = l ∧ fold8 l < 256 ^ k
  | 0, l, h => by rw [List.length_eq_zero_iff.1 h]; exact ⟨rfl, by decide⟩
  | k + 1, l, h => by
    rcases List.eq_nil_or_concat l with rfl | ⟨i, b, rfl⟩
    · simp at h
    · simp only [List.concat_eq_append, List.length_append, List.length_cons, List.length_nil] at h
      obtain ⟨h1, h2⟩ := beN_fold8 k i (by omega)
      have hb : b.toNat < 256 := b.toNat_lt
      rw [List.concat_eq_append, fold8_snoc, Nat.pow_succ]
      refine ⟨?_, by omega⟩
      rw [beN, show (fold8 i * 256 + b.toNat) / 256 = fold8 i by omega, show (fold8 i * 256 + b.toNat) % 256 = b.toNat by omega, h1]
      congr 2
      exact UInt8.toNat_inj.1 (ofNat_toNat hb)
theorem byteAt_eq (v : Int) (i m n : Nat) (hm : (2 : Int) ^ (8 * i) = m) (h : ((v / (m : Int)) % 256).toNat = n) : byteAt v i = UInt8.ofNat n := by
  unfold byteAt
  rw [hm, h]
theorem be8_beN (v : Int) : be8 v = beN 8 (v % 18446744073709551616).toNat := by
  have hu : ((v % 18446744073709551616).toNat : Int) = v % 18446744073709551616 := Int.toNat_of_nonneg (Int.emod_nonneg _ (by decide))
  generalize (v % 18446744073709551616).toNat = u at hu
  simp only [be8, beN, List.nil_append, List.cons_append, Nat.div_div_eq_div_mul, Nat.reduceMul]
  rw [byteAt_eq v 7 72057594037927936 (u / 72057594037927936 % 256) rfl (by omega), byteAt_eq v 6 281474976710656 (u / 281474976710656 % 256) rfl (by omega),
    byteAt_eq v 5 1099511627776 (u / 1099511627776 % 256) rfl (by omega), byteAt_eq v 4 4294967296 (u / 4294967296 % 256) rfl (by omega),
    byteAt_eq v 3 16777216 (u / 16777216 % 256) rfl (by omega), byteAt_eq v 2 65536 (u / 65536 % 256) rfl (by omega), byteAt_eq v 1 256 (u / 256 % 256) rfl (by omega), byteAt_eq v 0 1 (u % 256) rfl (by omega)]
theorem un8_be8 {v : Int} (h : I64 v) : un8 (be8 v) = v := by
  obtain ⟨h0, h1⟩ := h
  have hu : ((v % 18446744073709551616).toNat : Int) = v % 18446744073709551616 := Int.toNat_of_nonneg (Int.emod_nonneg _ (by decide))
  unfold un8
  rw [be8_beN, fold8_beN 8 _ (by omega), wrap64_eq, hu]
  omega
theorem be8_un8 (l : Bs) (h : l.length = 8) : be8 (un8 l) = l ∧ I64 (un8 l) := by
  obtain ⟨h1, h2⟩ := beN_fold8 8 l h
  unfold un8
  rw [be8_beN, wrap64_eq]
  generalize fold8 l = N at h1 h2
  have e : (((N : Int) + 9223372036854775808) % 18446744073709551616 - 9223372036854775808) % 18446744073709551616 = N := by omega
  refine ⟨by rw [e, Int.toNat_natCast]; exact h1, ?_⟩
  unfold I64
  omega
theorem be8_len (v : Int) : (be8 v).length = 8 := rfl
attribute [local irreducible] be8 un8

/-! A reader: what is left, or that something was not there. -/
abbrev Rd := Option Bs
def rdI : Rd → Int × Rd
  | some l => if 8 ≤ l.length then (un8 (l.take 8), some (l.drop 8)) else (0, none)
  | none => (0, none)
def rdC (most : Int) (s : Rd) : Int × Rd := if (rdI s).1 < 0 ∨ most < (rdI s).1 then (0, none) else rdI s
def rdT (most : Int) (s : Rd) : Bs × Rd := match rdC most s with
  | (n, some l) => if l.length < n.toNat then ([], none) else (l.take n.toNat, some (l.drop n.toNat))
  | (_, none) => ([], none)
def txt (s : Bs) : Bs := be8 s.length ++ s
theorem rdI_none : rdI none = (0, none) := rfl
theorem rdC_none {most : Int} : rdC most none = (0, none) := by unfold rdC; split <;> rfl
theorem rdT_none {most : Int} : rdT most none = ([], none) := by unfold rdT; rw [rdC_none]
theorem rdI_be8 {v : Int} (h : I64 v) (r : Bs) : rdI (some (be8 v ++ r)) = (v, some r) := by
  show (if 8 ≤ (be8 v ++ r).length then (un8 ((be8 v ++ r).take 8), some ((be8 v ++ r).drop 8)) else (0, none)) = _
  rw [if_pos (by simp [be8_len])]
  rw [List.take_append_of_le_length (by simp [be8_len]), List.drop_append_of_le_length (by simp [be8_len])]
  rw [List.take_of_length_le (by simp [be8_len]), List.drop_of_length_le (by simp [be8_len]), un8_be8 h]
  rfl
theorem rdI_some {s : Rd} {v : Int} {r : Bs} (h : rdI s = (v, some r)) : s = some (be8 v ++ r) ∧ I64 v := by
  cases s with
  | none => cases h
  | some l =>
    change (if 8 ≤ l.length then (un8 (l.take 8), some (l.drop 8)) else (0, none)) = _ at h
    split at h
    · rename_i h8
      simp only [Prod.mk.injEq, Option.some.injEq] at h
      obtain ⟨rfl, rfl⟩ := h
      obtain ⟨h1, h2⟩ := be8_un8 (l.take 8) (by simp; omega)
      exact ⟨by rw [h1, List.take_append_drop], h2⟩
    · cases h
theorem rdC_be8 {v most : Int} (h : I64 v) (h0 : 0 ≤ v) (h1 : v ≤ most) (r : Bs) : rdC most (some (be8 v ++ r)) = (v, some r) := by
  unfold rdC
  rw [rdI_be8 h]
  exact if_neg (by simp only [not_or]; omega)
theorem rdC_some {s : Rd} {most v : Int} {r : Bs} (h : rdC most s = (v, some r)) : s = some (be8 v ++ r) ∧ I64 v ∧ 0 ≤ v ∧ v ≤ most := by
  unfold rdC at h
  split at h
  · cases h
  · rename_i hc
    obtain ⟨h1, h2⟩ := rdI_some h
    rw [h] at hc
    simp only [not_or, Int.not_lt] at hc
    exact ⟨h1, h2, hc.1, hc.2⟩
theorem i64_len {n : Nat} (h : n ≤ 1000000) : I64 (n : Int) := ⟨by omega, by omega⟩
theorem rdT_of {most : Int} {s : Rd} {n : Nat} {l : Bs} (h : rdC most s = ((n : Int), some l)) (hl : n ≤ l.length) : rdT most s = (l.take n, some (l.drop n)) := by
  unfold rdT
  rw [h]
  show (if l.length < ((n : Int)).toNat then ([], none) else (l.take ((n : Int)).toNat, some (l.drop ((n : Int)).toNat))) = _
  rw [Int.toNat_natCast]
  exact if_neg (by omega)
theorem rdT_txt {most : Int} (t r : Bs) (h : (t.length : Int) ≤ most) (h2 : t.length ≤ 1000000) : rdT most (some (txt t ++ r)) = (t, some r) := by
  have e : rdC most (some (txt t ++ r)) = ((t.length : Int), some (t ++ r)) := by
    have := rdC_be8 (i64_len h2) (Int.natCast_nonneg _) h (t ++ r)
    unfold txt
    rwa [List.append_assoc]
  rw [rdT_of e (by simp), List.take_left, List.drop_left]
theorem rdT_some {s : Rd} {most : Int} {t r : Bs} (h : rdT most s = (t, some r)) : s = some (txt t ++ r) ∧ (t.length : Int) ≤ most := by
  unfold rdT at h
  split at h
  · rename_i n l hc
    split at h
    · cases h
    · rename_i hl
      simp only [Prod.mk.injEq, Option.some.injEq] at h
      obtain ⟨rfl, rfl⟩ := h
      obtain ⟨h1, h2, h3, h4⟩ := rdC_some hc
      have hlen : (l.take n.toNat).length = n.toNat := by simp; omega
      have hn : ((n.toNat : Nat) : Int) = n := by omega
      refine ⟨?_, by rw [hlen, hn]; exact h4⟩
      unfold txt
      rw [hlen, hn, List.append_assoc, List.take_append_drop]
      exact h1
  · cases h
end Av

/- Appending rows of k cells each, whatever they hold; appending a string's bytes. No program. -/
namespace Av
set_option maxRecDepth 100000
open Go Go.RowKit
/-- nil, or a slice that lies somewhere. -/
def Shp (u : Value) : Prop := u = .slice none 0 0 ∨ ∃ ad l c, u = .slice (some ad) l c
theorem Shp.some {ad : Addr} {l c : Nat} : Shp (.slice (some ad) l c) := .inr ⟨_, _, _, rfl⟩
theorem Shp.none : Shp (.slice none 0 0) := .inl rfl
theorem shp_owns {w : World} {base : Nat} {e : TypeId} {k : Nat} {v : Value} {n : Nat} {xs : List Value} (h : w.ownsRow base e k v n xs) : Shp v := by
  rcases h.2 with ⟨h, _⟩ | ⟨g, cap, cur, h, _⟩
  · exact .inl h
  · exact .inr ⟨_, _, _, h⟩
/-- What the type table says of an element's type. -/
def ElemOk (P : Program) (t e : TypeId) (k : Nat) : Prop := P.underlying t = some (.slice e) ∧ (P.info? e).map (fun i => (i.zero.map fun z => z.cells.size, i.size, decide (i.bytes ≤ 1000))) = some (some k, k, true)
theorem wpList_appK {P : Program} {ops : Array Oper} {rest : List Oper} {o : Oper} {a : Act} {Q : Exit → Act → World → Prop} {w : World} (t e : TypeId) (k : Nat) (hk : 0 < k) (hfacts : ElemOk P t e k)
    (hgd : o.guard = none) (s x : Operand) (ho : o.op = .call { callee := .builtin .append, args := #[s, x], argTypes := #[t, t] })
    (base : Nat) (v : Value) (n : Nat) (xs : List Value) (hs : a.eval s = v) (hown : w.ownsRow base e k v n xs)
    (u : Value) (m : Nat) (ys : List Value) (hx : a.eval x = u) (hu : Sl w k u m ys) (hsh : Shp u) (hone : ∀ y ∈ ys, y.oneCell' = true) (hn : n + m ≤ 100000000000) (hbase : base ≤ w.heap.size)
    (h : ∀ v' w', w'.ownsRow base e k v' (n + m) (xs ++ ys) → Kp (fun k => v.ownBlock = some k) w w' → wpList P ops Q rest (a.put o.dst v') w') : wpList P ops Q (o :: rest) a w := by
  obtain ⟨ht, hi⟩ := hfacts
  cases hie : P.info? e with
  | none => simp [hie] at hi
  | some i =>
    simp only [hie, Option.map_some, Option.some.injEq, Prod.mk.injEq, decide_eq_true_eq] at hi
    obtain ⟨hz, hsz, hby⟩ := hi
    cases hze : i.zero with
    | none => simp [hze] at hz
    | some z =>
      simp only [hze, Option.map_some, Option.some.injEq] at hz
      rcases hsh with hsh | ⟨ad, l, c, hsh⟩
      · obtain ⟨a2, c2, hv, _, _, hyl, _⟩ := Sl.open hu
        have h0 : m = 0 := by rw [hsh] at hv; simp at hv; exact hv.2.1.symm ▸ rfl
        subst h0
        obtain rfl : ys = [] := List.length_eq_zero_iff.1 (by simpa using hyl)
        refine wpList_append_own_none hgd s x t ho base e i k ht hie v n xs hs hown (hx.trans hsh) ?_
        exact h v w (by simpa using hown) (Kp.refl _ w)
      · obtain ⟨a2, c2, hv, _, _, hyl, hcells⟩ := Sl.open hu
        rw [hsh] at hv
        simp at hv
        obtain ⟨h1, h2, h3⟩ := hv
        subst h2 h3
        have hnb : (n + l) * i.bytes ≤ 140737488355328 := by
          have := Nat.mul_le_mul hn hby
          omega
        refine wpList_append_own w hgd s x t ho base e i z k i.bytes ht hie hze hsz rfl hz hk v n xs hs hown ad l _ ys (hx.trans hsh) hyl ?_ hone (by unfold maxLen; omega) hnb hbase ?_
        · intro j u' hj
          have hj' : j < l * k := by have := (List.getElem?_eq_some_iff.1 hj).1; omega
          have hl0 : 0 < l := by
            rcases Nat.eq_zero_or_pos l with h0 | h0
            · subst h0; simp at hj'
            · exact h0
          obtain ⟨b, off, e2, _, hc⟩ := hcells hl0
          rw [← h1] at e2
          obtain rfl : ad = ⟨b, off, none⟩ := by simpa using e2
          rw [show (⟨b, off, none⟩ : Addr).add j = ⟨b, off + j, none⟩ by by_cases h : j = 0 <;> simp [Addr.add, h]]
          exact hc j u' hj
        · intro v' w' h1 h2 _
          exact h v' w' h1 ((Kp.refl _ w).grown h2 (fun k hk _ => hk))

/-! Bytes. -/
def byteV (b : UInt8) : Value := .int .u8 (b.toNat : Int)
/-- A slice of bytes that can be read. -/
def BytesR (w : World) (v : Value) (bs : List UInt8) : Prop := Sl w 1 v bs.length (bs.map byteV) ∧ Shp v
theorem BytesR.ext {w w' : World} {v : Value} {bs : List UInt8} (h : BytesR w v bs) (k : Ext w w') : BytesR w' v bs := ⟨h.1.ext k, h.2⟩
theorem BytesR.kp {S : Nat → Prop} {w w' : World} {v : Value} {bs : List UInt8} (h : BytesR w v bs) (k : Kp S w w') (hs : ∀ b, v.ownBlock = some b → b < w.heap.size → ¬ S b) : BytesR w' v bs := ⟨h.1.kp k hs, h.2⟩
theorem BytesR.nil (w : World) : BytesR w (.slice none 0 0) [] := ⟨Sl.nil w 1, .inl rfl⟩
theorem byteV_one (bs : List UInt8) : ∀ y ∈ bs.map byteV, y.oneCell' = true := by
  intro y hy
  obtain ⟨b, _, rfl⟩ := List.mem_map.1 hy
  rfl
theorem BytesR.open {w : World} {v : Value} {bs : List UInt8} (h : BytesR w v bs) :
    ∃ a c, v = .slice a bs.length c ∧ bs.length ≤ c ∧ bs.length ≤ maxLen ∧ (0 < bs.length → ∃ b off, a = some ⟨b, off, none⟩ ∧ b < w.heap.size ∧ ∀ i (hi : i < bs.length), w.cell? ⟨b, off + i, none⟩ = some (byteV bs[i])) := by
  obtain ⟨a, c, rfl, hcc, h1, h2, h3⟩ := Sl.open h.1
  refine ⟨a, c, rfl, hcc, h1, fun hn => ?_⟩
  obtain ⟨b, off, rfl, hb, hc⟩ := h3 hn
  exact ⟨b, off, rfl, hb, fun i hi => hc i _ (by rw [List.getElem?_map, List.getElem?_eq_getElem hi]; rfl)⟩
theorem strCells_map (s : ByteArray) : Go.Lib.strCells s = s.data.toList.map byteV := by
  unfold Go.Lib.strCells byteV; first | rfl | simp
theorem wpList_appStr {P : Program} {ops : Array Oper} {rest : List Oper} {o : Oper} {a : Act} {Q : Exit → Act → World → Prop} {w : World} (t u e : TypeId)
    (hfacts : (P.underlying t = some (.slice e) ∧ P.underlying u = some .string) ∧ (P.info? e).map (fun i => (i.zero, i.size, i.bytes)) = some (some (.int .u8 0), 1, 1))
    (hgd : o.guard = none) (sl x : Operand) (ho : o.op = .call { callee := .builtin .append, args := #[sl, x], argTypes := #[t, u] })
    (base : Nat) (v : Value) (bs : List UInt8) (hs : a.eval sl = v) (hown : w.ownsRow base e 1 v bs.length (bs.map byteV)) (s : ByteArray) (hx : a.eval x = .string s) (hn : bs.length + s.size ≤ 100000000000) (hbase : base ≤ w.heap.size)
    (h : ∀ v' w', w'.ownsRow base e 1 v' (bs ++ s.data.toList).length ((bs ++ s.data.toList).map byteV) → Kp (fun k => v.ownBlock = some k) w w' → wpList P ops Q rest (a.put o.dst v') w') : wpList P ops Q (o :: rest) a w := by
  obtain ⟨⟨ht, hu⟩, hi⟩ := hfacts
  cases hie : P.info? e with
  | none => simp [hie] at hi
  | some i =>
    simp only [hie, Option.map_some, Option.some.injEq, Prod.mk.injEq] at hi
    obtain ⟨hz, hsz, hby⟩ := hi
    refine Go.Lib.wpList_append_own_string (w := w) hgd sl x t u ho base e i ht hu hie hz hsz hby v _ _ hs hown s hx (by unfold maxLen; omega) (by omega) hbase ?_
    intro v' w' h1 h2 _
    refine h v' w' ?_ ((Kp.refl _ w).grown h2 (fun k hk _ => hk))
    rw [strCells_map, ← List.map_append, Lib.size_eq, ← List.length_append] at h1
    exact h1
def mkS (l : List UInt8) : ByteArray := ⟨l.toArray⟩
theorem mkS_list (l : List UInt8) : (mkS l).data.toList = l := rfl
theorem mkS_of (s : ByteArray) : mkS s.data.toList = s := rfl
theorem mkS_size (l : List UInt8) : (mkS l).size = l.length := rfl
/-- A block known whole. -/
def Blk (w : World) (g : Nat) (cs : Array Value) (T : TypeId) : Prop := w.heap[g]? = some (.cells cs T (0, 0))
theorem Blk.cell {w : World} {g : Nat} {cs : Array Value} {T : TypeId} (h : Blk w g cs T) (i : Nat) (v : Value) (hv : cs[i]? = some v) : w.cell? ⟨g, i, none⟩ = some v := by
  unfold Blk at h
  simp [World.cell?, h, hv]
theorem Blk.free {w : World} {g : Nat} {cs : Array Value} {T : TypeId} (h : Blk w g cs T) (i : Nat) : w.frozen? ⟨g, i, none⟩ = false := by
  unfold Blk at h
  simp [World.frozen?, h]
theorem Blk.set {w : World} {g : Nat} {cs : Array Value} {T : TypeId} (h : Blk w g cs T) (i : Nat) (u : Value) : Blk (w.setCell ⟨g, i, none⟩ u) g (cs.setIfInBounds i u) T := by
  unfold Blk at *
  simp [World.setCell, Array.getElem?_modify, h]
theorem Blk.kp {S : Nat → Prop} {w w' : World} {g : Nat} {cs : Array Value} {T : TypeId} (h : Blk w g cs T) (k : Kp S w w') (hs : ¬ S g) : Blk w' g cs T := k.obj h hs
theorem Blk.lt {w : World} {g : Nat} {cs : Array Value} {T : TypeId} (h : Blk w g cs T) : g < w.heap.size := (Array.getElem?_eq_some_iff.1 h).1

theorem Kp.set1 {S : Nat → Prop} {a w : World} (h : Kp S a w) (g i : Nat) (u : Value) (hs : S g) : Kp S a (w.setCell ⟨g, i, none⟩ u) := h.setCell ⟨g, i, none⟩ u (fun _ => hs)
end Av
