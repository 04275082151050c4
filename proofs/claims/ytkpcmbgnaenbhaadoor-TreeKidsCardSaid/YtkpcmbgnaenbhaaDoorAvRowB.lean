/- A block whose head holds a row, written in place. No program. -/
import Derived.Test.YtkpcmbgnaenbhaaDoorAvRows
import Derived.Laws.IdiomCopy
import Derived.Lib.SliceRun
namespace Av
set_option maxRecDepth 100000
open Go Go.RowKit
/-- Block b, of cap elements of k cells, holds xs at its head. -/
def RowB (w : World) (b : Nat) (e : TypeId) (k cap : Nat) (xs : List Value) : Prop :=
  ∃ cur, w.heap[b]? = some (.cells cur e (0, 0)) ∧ cur.size = cap * k ∧ cur.toList.take xs.length = xs
section
variable {w : World} {b : Nat} {e : TypeId} {k cap : Nat} {xs : List Value}
theorem RowB.lt (h : RowB w b e k cap xs) : b < w.heap.size := by obtain ⟨cur, h1, _⟩ := h; exact (Array.getElem?_eq_some_iff.1 h1).1
theorem RowB.len (h : RowB w b e k cap xs) : xs.length ≤ cap * k := by
  obtain ⟨cur, _, h2, h3⟩ := h
  have := congrArg List.length h3
  rw [List.length_take] at this
  simp at this; omega
theorem RowB.cell (h : RowB w b e k cap xs) {i : Nat} {v : Value} (hv : xs[i]? = some v) : w.cell? ⟨b, i, none⟩ = some v := by
  obtain ⟨cur, h1, h2, h3⟩ := h
  obtain ⟨hi, _⟩ := List.getElem?_eq_some_iff.1 hv
  rw [← h3, List.getElem?_take, if_pos hi] at hv
  simp [World.cell?, h1]; simpa using hv
theorem RowB.free (h : RowB w b e k cap xs) (i : Nat) : w.frozen? ⟨b, i, none⟩ = false := by
  obtain ⟨cur, h1, h2, h3⟩ := h
  simp [World.frozen?, h1]
theorem RowB.kp {S : Nat → Prop} {w' : World} (h : RowB w b e k cap xs) (hk : Kp S w w') (hs : ¬ S b) : RowB w' b e k cap xs := by
  obtain ⟨cur, h1, h2, h3⟩ := h
  exact ⟨cur, hk.obj h1 hs, h2, h3⟩
theorem RowB.set (h : RowB w b e k cap xs) (i : Nat) (v : Value) : RowB (w.setCell ⟨b, i, none⟩ v) b e k cap (xs.set i v) := by
  obtain ⟨cur, h1, h2, h3⟩ := h
  refine ⟨cur.setIfInBounds i v, ?_, by simpa using h2, ?_⟩
  · simp [World.setCell, Array.getElem?_modify, h1]
  · rw [Array.toList_setIfInBounds, List.length_set, List.take_set, h3]
theorem setCells_eq (w : World) (b : Nat) (v : Value) (r : List Value) (o : Nat) : w.setCells b o (v :: r) = (w.setCell ⟨b, o, none⟩ v).setCells b (o + 1) r := rfl
def setMs (xs : List Value) : Nat → List Value → List Value
  | _, [] => xs
  | o, v :: r => setMs (xs.set o v) (o + 1) r
theorem RowB.setCells : ∀ (vs : List Value) {w : World} {xs : List Value} (o : Nat), RowB w b e k cap xs → RowB (w.setCells b o vs) b e k cap (setMs xs o vs)
  | [], _, _, _, h => h
  | v :: r, _, _, o, h => RowB.setCells r (o + 1) (h.set o v)
theorem kp_setCells : ∀ (vs : List Value) (w : World) (o : Nat), Kp (fun i => i = b) w (w.setCells b o vs)
  | [], w, _ => Kp.refl _ w
  | v :: r, w, o => (Kp.setCell (S := fun i => i = b) (Kp.refl _ w) ⟨b, o, none⟩ v (fun _ => rfl)).trans (kp_setCells r _ (o + 1))
theorem setMs_len : ∀ (vs xs : List Value) (o : Nat), (setMs xs o vs).length = xs.length
  | [], _, _ => rfl
  | v :: r, xs, o => by unfold setMs; rw [setMs_len, List.length_set]
theorem setMs_take : ∀ (vs xs : List Value) (o m : Nat), m ≤ o → (setMs xs o vs).take m = xs.take m
  | [], _, _, _, _ => rfl
  | v :: r, xs, o, m, h => by
    unfold setMs
    rw [setMs_take r _ _ _ (by omega), List.take_set, List.set_eq_of_length_le (by rw [List.length_take]; omega)]
end
theorem RowB.of_owns {w : World} {base n cap k : Nat} {e : TypeId} {xs : List Value} {ad : Addr} (h : w.ownsRow base e k (.slice (some ad) n cap) n xs) :
    ∃ b, ad = ⟨b, 0, none⟩ ∧ RowB w b e k cap xs ∧ xs.length = n * k ∧ n ≤ cap ∧ cap ≤ maxLen ∧ base ≤ b := by
  obtain ⟨h1, h2 | ⟨g, c, cur, hv, hb, hg, hn, hm, hs, ht⟩⟩ := h
  · simp at h2
  · simp only [Value.slice.injEq, Option.some.injEq, true_and] at hv
    obtain ⟨rfl, rfl⟩ := hv
    exact ⟨g, rfl, ⟨cur, hg, hs, by rw [h1]; exact ht⟩, h1, hn, hm, hb⟩
theorem RowB.owns {w : World} {base b m cap k : Nat} {e : TypeId} {xs : List Value} (h : RowB w b e k cap xs) (hm : m * k ≤ xs.length) (hc : m ≤ cap) (hx : cap ≤ maxLen) (hb : base ≤ b) :
    w.ownsRow base e k (.slice (some ⟨b, 0, none⟩) m cap) m (xs.take (m * k)) := by
  obtain ⟨cur, h1, h2, h3⟩ := h
  refine ⟨by rw [List.length_take]; omega, .inr ⟨b, cap, cur, rfl, hb, h1, hc, hx, h2, ?_⟩⟩
  rw [← h3, List.take_take, Nat.min_eq_left (by omega)]
theorem flat_len {α : Type} (f : α → List Value) (K : Nat) (hf : ∀ x, (f x).length = K) (xs : List α) : (xs.flatMap f).length = xs.length * K := rowK_len f K hf xs
theorem flat_take {α : Type} (f : α → List Value) (K : Nat) (hf : ∀ x, (f x).length = K) : ∀ (xs : List α) (m : Nat), (xs.flatMap f).take (m * K) = (xs.take m).flatMap f
  | [], m => by simp
  | x :: r, 0 => by simp
  | x :: r, m + 1 => by
    rw [List.flatMap_cons, List.take_succ_cons, List.flatMap_cons, List.take_append, hf, Nat.succ_mul, Nat.add_sub_cancel, flat_take f K hf r m, List.take_of_length_le (by rw [hf]; omega)]
theorem flat_set3 {α : Type} (f : α → List Value) (x : α) (a b c : Value) (hx : f x = [a, b, c]) (hf : ∀ x, (f x).length = 3) : ∀ (xs : List α) (i : Nat), (((xs.flatMap f).set (i * 3) a).set (i * 3 + 1) b).set (i * 3 + 2) c = (xs.set i x).flatMap f
  | [], i => by simp
  | y :: r, 0 => by
    have := hf y
    match hy : f y, this with
    | [p, q, s], _ => simp [hy, hx]
  | y :: r, i + 1 => by
    have ih := flat_set3 f x a b c hx hf r i
    rw [List.set_cons_succ, List.flatMap_cons, List.flatMap_cons, ← ih]
    have hl := hf y
    rw [List.set_append_right _ _ (by rw [hl]; omega), List.set_append_right _ _ (by rw [hl]; omega), List.set_append_right _ _ (by rw [hl]; omega), hl]
    rw [show (i + 1) * 3 - 3 = i * 3 by omega, show (i + 1) * 3 + 1 - 3 = i * 3 + 1 by omega, show (i + 1) * 3 + 2 - 3 = i * 3 + 2 by omega]
/-- 'clear(s)' where elements are of K cells: some cells are laid over the whole of it. -/
theorem run_clear_rows {P : Program} (w : World) (t e : TypeId) (z : Value) (K : Nat) (hK : z.cells.size = K) (h0 : 0 < K) (ht : P.underlying t = some (.slice e)) (hv : ∀ w, (zeroValue e).run P w = .ok z w) (h1 : ∀ v ∈ z.cells.toList, v.oneCell' = true) (b o n c : Nat) (hn : 0 < n)
    (hc : ∀ j, j < n * K → (w.cell? ⟨b, o + j, none⟩).isSome = true) (hf : ∀ j, j < n * K → w.frozen? ⟨b, o + j, none⟩ = false) :
    ∃ vs : List Value, vs.length = n * K ∧ ∀ ty, (Builtin.clear_ #[t] ty #[.slice (some ⟨b, o, none⟩) n c]).run P w = .ok (.tuple #[]) (w.setCells b o vs) := by
  refine ⟨(Builtin.zeroCells z.cells n).toList, by simp [Builtin.zeroCells, hK], fun ty => ?_⟩
  have hst := run_storeCells_cells (P := P) b o (Builtin.zeroCells z.cells n).toList 0 w (by simpa [Builtin.zeroCells, hK] using hc) (by simpa [Builtin.zeroCells, hK] using hf) (by
    intro v hv'
    simp only [Builtin.zeroCells, Array.toList_map, List.mem_map] at hv'
    obtain ⟨i, _, rfl⟩ := hv'
    have hlt : i % z.cells.size < z.cells.size := Nat.mod_lt _ (by omega)
    rw [getElem!_pos z.cells _ hlt]
    exact h1 _ (by simp))
  simp only [Nat.add_zero] at hst
  obtain ⟨m, rfl⟩ : ∃ m, n = m + 1 := ⟨n - 1, by omega⟩
  simp [Builtin.clear_, run_underlying ht, hv, hst]
theorem kp_set3 {S : Nat → Prop} {a w : World} (h : Kp S a w) (b o : Nat) (x y z : Value) (hs : S b) : Kp S a (((w.setCell ⟨b, o, none⟩ x).setCell ⟨b, o + 1, none⟩ y).setCell ⟨b, o + 2, none⟩ z) :=
  ((h.set1 b _ _ hs).set1 b _ _ hs).set1 b _ _ hs
end Av
