/- Results put together: plain lists, and a block of them. No program. -/
import Derived.Test.YtmgnndhhpnedkaaGreatDoorAvRowB
import Derived.Test.YtmgnndhhpnedkaaGreatDoorAvNest
namespace Av
set_option maxRecDepth 100000
open Go Go.RowKit
theorem setMs_mid : ∀ (vs p ys r : List Value), vs.length = ys.length → setMs (p ++ ys ++ r) p.length vs = p ++ vs ++ r
  | [], p, ys, r, h => by
    have : ys = [] := List.length_eq_zero_iff.1 h.symm
    subst this
    rfl
  | v :: vs, p, y :: ys, r, h => by
    unfold setMs
    have e : (p ++ y :: ys ++ r).set p.length v = (p ++ [v]) ++ ys ++ r := by simp
    have ih := setMs_mid vs (p ++ [v]) ys r (by simpa using h)
    rw [List.length_append] at ih
    rw [e]
    simp only [List.length_cons, List.length_nil] at ih
    rw [show p.length + 1 = p.length + (0 + 1) by omega, ih]
    simp
  | v :: vs, p, [], r, h => by simp at h
theorem setMs_flat {α : Type} (f : α → List Value) (K : Nat) (hf : ∀ x, (f x).length = K) (xs : List α) (i : Nat) (hi : i < xs.length) (x : α) : setMs (xs.flatMap f) (i * K) (f x) = (xs.set i x).flatMap f := by
  have e : xs.flatMap f = (xs.take i).flatMap f ++ f xs[i] ++ (xs.drop (i + 1)).flatMap f := by
    have e0 : xs = xs.take i ++ xs[i] :: xs.drop (i + 1) := by rw [← List.drop_eq_getElem_cons hi, List.take_append_drop]
    conv => lhs; rw [e0]
    rw [List.flatMap_append, List.flatMap_cons, List.append_assoc]
  have hl : ((xs.take i).flatMap f).length = i * K := by rw [rowK_len f K hf, List.length_take, Nat.min_eq_left (by omega)]
  rw [e, ← hl, setMs_mid _ _ _ _ (by rw [hf, hf]), List.set_eq_take_append_cons_drop, if_pos hi]
  simp
theorem set_same {l : List Value} {i : Nat} {v : Value} (h : l[i]? = some v) : l.set i v = l := by
  obtain ⟨hi, rfl⟩ := List.getElem?_eq_some_iff.1 h
  exact List.set_getElem_self hi
/-- A result without names. -/
structure ResV where
  err : Int
  path : ByteArray
  data : ByteArray
  s0 : Int
  s1 : Int
  s2 : Int
  s3 : Int
  s4 : Int
  s5 : Int
  s6 : Int
def resZ : ResV := ⟨0, ⟨#[]⟩, ⟨#[]⟩, 0, 0, 0, 0, 0, 0, 0⟩
def rsC (r : ResV) : List Value := [.int .i64 r.err, .string r.path, .string r.data, .slice none 0 0, .int .i64 r.s0, .int .i64 r.s1, .int .i64 r.s2, .int .i64 r.s3, .int .i64 r.s4, .int .i64 r.s5, .int .i64 r.s6]
theorem rs_one (xs : List ResV) : ∀ y ∈ xs.flatMap rsC, y.oneCell' = true := by
  intro y hy
  obtain ⟨o, _, h⟩ := List.mem_flatMap.1 hy
  simp only [rsC, List.mem_cons, List.not_mem_nil, or_false] at h
  rcases h with rfl | rfl | rfl | rfl | rfl | rfl | rfl | rfl | rfl | rfl | rfl <;> rfl
/-- Results that can be read. -/
def ResAt (w : World) (v : Value) (rs : List ResV) : Prop := Sl w 11 v rs.length (rs.flatMap rsC) ∧ Shp v
theorem ResAt.kp {S : Nat → Prop} {w w' : World} {v : Value} {rs : List ResV} (h : ResAt w v rs) (k : Kp S w w') (hs : ∀ i, v.ownBlock = some i → ¬ S i) : ResAt w' v rs := ⟨Sl.kp h.1 k (fun i hi _ => hs i hi), h.2⟩
theorem ResAt.ext {w w' : World} {v : Value} {rs : List ResV} (h : ResAt w v rs) (k : Ext w w') : ResAt w' v rs := ⟨h.1.ext k, h.2⟩
theorem ResAt.nil (w : World) : ResAt w (.slice none 0 0) [] := ⟨Sl.nil w 11, .inl rfl⟩
theorem ResAt.open {w : World} {v : Value} {rs : List ResV} (h : ResAt w v rs) : ∃ a c, v = .slice a rs.length c ∧ rs.length ≤ c ∧ rs.length ≤ maxLen ∧ (0 < rs.length → ∃ b off, a = some ⟨b, off, none⟩ ∧ b < w.heap.size ∧ ∀ k (hk : k < rs.length) j x, j < 11 → (rsC rs[k])[j]? = some x → w.cell? ⟨b, off + k * 11 + j, none⟩ = some x) :=
  Sl.rows (f := rsC) (fun _ => rfl) h.1
theorem ResAt.slice {w : World} {v : Value} {rs : List ResV} (h : ResAt w v rs) : ∃ a c, v = .slice a rs.length c := by
  obtain ⟨a, c, e, _⟩ := h.open
  exact ⟨a, c, e⟩
/-- Rows of results that can be read. -/
structure RowsS (w : World) (v : Value) (vs : List Value) (rs : List (List ResV)) : Prop where
  len : vs.length = rs.length
  row : Sl w 1 v vs.length vs ∧ Shp v
  inn : ∀ (j : Nat) (h1 : j < vs.length) (h2 : j < rs.length), ResAt w vs[j] rs[j]
theorem RowsS.ext {w w' : World} {v : Value} {vs : List Value} {rs : List (List ResV)} (h : RowsS w v vs rs) (k : Ext w w') : RowsS w' v vs rs :=
  ⟨h.len, ⟨h.row.1.ext k, h.row.2⟩, fun j h1 h2 => (h.inn j h1 h2).ext k⟩
theorem RowsS.open {w : World} {v : Value} {vs : List Value} {rs : List (List ResV)} (h : RowsS w v vs rs) : ∃ a c, v = .slice a rs.length c ∧ rs.length ≤ c ∧ rs.length ≤ maxLen ∧ (0 < rs.length → ∃ b off, a = some ⟨b, off, none⟩ ∧ b < w.heap.size ∧ ∀ i (hi : i < rs.length), ∃ a' c', w.cell? ⟨b, off + i, none⟩ = some (.slice a' rs[i].length c') ∧ ResAt w (.slice a' rs[i].length c') rs[i]) := by
  obtain ⟨a, c, rfl, hcc, h1, h2, h3⟩ := Sl.open h.row.1
  have hl := h.len
  refine ⟨a, c, by rw [hl], by omega, by omega, fun hn => ?_⟩
  obtain ⟨b, off, rfl, hb, hc⟩ := h3 (by omega)
  refine ⟨b, off, rfl, hb, fun i hi => ?_⟩
  have hin := h.inn i (by omega) hi
  obtain ⟨a', c', e⟩ := hin.slice
  exact ⟨a', c', by rw [← e]; exact hc i _ (List.getElem?_eq_getElem (by omega)), by rw [← e]; exact hin⟩
/-! What comes of it. -/
def putRow (out : List ResV) (l : List Nat) (r : List ResV) : Nat → List ResV
  | 0 => out
  | k + 1 => (putRow out l r k).set (l.getD k 0) (r.getD k resZ)
def putTo (N : Nat) (pl : List (List Nat)) (rs : List (List ResV)) : Nat → List ResV
  | 0 => List.replicate N resZ
  | i + 1 => putRow (putTo N pl rs i) (pl.getD i []) (rs.getD i []) (pl.getD i []).length
def fitsR (pl : List (List Nat)) (rs : List (List ResV)) : Prop := rs.length = pl.length ∧ ∀ i, i < pl.length → (rs.getD i []).length = (pl.getD i []).length
theorem putRow_len (out : List ResV) (l : List Nat) (r : List ResV) : ∀ k, (putRow out l r k).length = out.length
  | 0 => rfl
  | k + 1 => by rw [putRow, List.length_set, putRow_len out l r k]
theorem putTo_len (N : Nat) (pl : List (List Nat)) (rs : List (List ResV)) : ∀ i, (putTo N pl rs i).length = N
  | 0 => by simp [putTo]
  | i + 1 => by rw [putTo, putRow_len, putTo_len N pl rs i]
theorem putRow_in {out : List ResV} {l : List Nat} {r : List ResV} {k : Nat} (h1 : k < l.length) (h2 : k < r.length) : putRow out l r (k + 1) = (putRow out l r k).set l[k] r[k] := by
  simp [putRow, List.getD, List.getElem?_eq_getElem h1, List.getElem?_eq_getElem h2]
theorem putTo_in {N : Nat} {pl : List (List Nat)} {rs : List (List ResV)} {i : Nat} (h1 : i < pl.length) (h2 : i < rs.length) : putTo N pl rs (i + 1) = putRow (putTo N pl rs i) pl[i] rs[i] pl[i].length := by
  simp [putTo, List.getD, List.getElem?_eq_getElem h1, List.getElem?_eq_getElem h2]
/-- Each place that was met has its result: a function of the place. -/
theorem putRow_get {out : List ResV} {l : List Nat} {r : List ResV} {g : Nat → ResV} (hr : r = l.map g) {j : Nat} : ∀ k, k ≤ l.length → (putRow out l r k)[j]? = if j ∈ l.take k ∧ j < out.length then some (g j) else out[j]?
  | 0, _ => by simp [putRow]
  | k + 1, hk => by
    have hlr : k < r.length := by rw [hr, List.length_map]; omega
    rw [putRow_in (show k < l.length by omega) hlr, List.getElem?_set, putRow_len, putRow_get hr k (by omega)]
    have hg : r[k] = g l[k] := by subst hr; simp
    have hm : j ∈ l.take (k + 1) ↔ j ∈ l.take k ∨ j = l[k] := by
      rw [List.take_succ_eq_append_getElem (show k < l.length by omega), List.mem_append, List.mem_singleton]
    by_cases h : l[k] = j
    · subst h
      by_cases h2 : l[k] < out.length
      · rw [if_pos rfl, if_pos h2, if_pos ⟨hm.2 (.inr rfl), h2⟩, hg]
      · rw [if_pos rfl, if_neg h2, if_neg (fun h => h2 h.2), List.getElem?_eq_none (by omega)]
    · rw [if_neg h]
      by_cases h3 : j ∈ l.take k ∧ j < out.length
      · rw [if_pos h3, if_pos ⟨hm.2 (.inl h3.1), h3.2⟩]
      · rw [if_neg h3, if_neg (fun h4 => h3 ⟨(hm.1 h4.1).resolve_right (fun e => h e.symm), h4.2⟩)]
theorem putTo_get {N : Nat} {pl : List (List Nat)} {rs : List (List ResV)} {g : Nat → ResV} (hr : rs = pl.map fun l => l.map g) {j : Nat} (hj : j < N) : ∀ i, i ≤ pl.length → (putTo N pl rs i)[j]? = if (∃ q, ∃ hq : q < pl.length, q < i ∧ j ∈ pl[q]) then some (g j) else some resZ
  | 0, _ => by simp [putTo, hj]
  | i + 1, hi => by
    have hlr : i < rs.length := by rw [hr, List.length_map]; omega
    have hgi : rs[i] = pl[i].map g := by subst hr; simp
    rw [putTo_in (show i < pl.length by omega) hlr, putRow_get hgi _ (Nat.le_refl _), List.take_length, putTo_len, putTo_get hr hj i (by omega)]
    by_cases h : j ∈ pl[i]
    · rw [if_pos ⟨h, hj⟩, if_pos ⟨i, by omega, by omega, h⟩]
    · rw [if_neg (fun e => h e.1)]
      by_cases h2 : ∃ q, ∃ hq : q < pl.length, q < i ∧ j ∈ pl[q]
      · obtain ⟨q, hq, h3, h4⟩ := h2
        rw [if_pos ⟨q, hq, h3, h4⟩, if_pos ⟨q, hq, by omega, h4⟩]
      · rw [if_neg h2, if_neg]
        rintro ⟨q, hq, h3, h4⟩
        rcases Nat.lt_or_ge q i with h5 | h5
        · exact h2 ⟨q, hq, h5, h4⟩
        · obtain rfl : q = i := by omega
          exact h h4
theorem putTo_all {N : Nat} {pl : List (List Nat)} {rs : List (List ResV)} {g : Nat → ResV} (hr : rs = pl.map fun l => l.map g) (hall : ∀ j, j < N → ∃ q, ∃ hq : q < pl.length, j ∈ pl[q]) : putTo N pl rs pl.length = (List.range N).map g := by
  apply List.ext_getElem?
  intro j
  by_cases hj : j < N
  · obtain ⟨q, hq, h⟩ := hall j hj
    rw [putTo_get hr hj _ (Nat.le_refl _), if_pos ⟨q, hq, hq, h⟩]
    simp [hj]
  · rw [List.getElem?_eq_none (by rw [putTo_len]; omega), List.getElem?_eq_none (by simp; omega)]
end Av
