/- Slices of rows of K cells each. No program. -/
import Derived.Test.YtkpcmbgnaenbhaaDoorAvApp2
namespace Av
set_option maxRecDepth 100000
open Go Go.RowKit
theorem rowK_cell {α : Type} (f : α → List Value) (K : Nat) (hf : ∀ x, (f x).length = K) : ∀ (xs : List α) (k : Nat) (hk : k < xs.length) (j : Nat), j < K → (xs.flatMap f)[k * K + j]? = (f xs[k])[j]?
  | [], _, hk, _, _ => by simp at hk
  | a :: xs, 0, _, j, hj => by
    simp only [List.flatMap_cons, List.getElem_cons_zero, Nat.zero_mul, Nat.zero_add]
    rw [List.getElem?_append_left (by rw [hf]; exact hj)]
  | a :: xs, k + 1, hk, j, hj => by
    simp only [List.flatMap_cons, List.getElem_cons_succ]
    rw [List.getElem?_append_right (by rw [hf, Nat.succ_mul]; omega), hf]
    rw [show (k + 1) * K + j - K = k * K + j by rw [Nat.succ_mul]; omega]
    exact rowK_cell f K hf xs k (by simpa using hk) j hj
theorem rowK_len {α : Type} (f : α → List Value) (K : Nat) (hf : ∀ x, (f x).length = K) (xs : List α) : (xs.flatMap f).length = xs.length * K := by
  induction xs with
  | nil => simp
  | cons a l ih => rw [List.flatMap_cons, List.length_append, hf, ih, List.length_cons, Nat.succ_mul]; omega
/-- Rows that can be read. -/
theorem Sl.rows {α : Type} {f : α → List Value} {K : Nat} (hf : ∀ x, (f x).length = K) {w : World} {v : Value} {xs : List α} (h : Sl w K v xs.length (xs.flatMap f)) :
    ∃ a c, v = .slice a xs.length c ∧ xs.length ≤ c ∧ xs.length ≤ maxLen ∧ (0 < xs.length → ∃ b off, a = some ⟨b, off, none⟩ ∧ b < w.heap.size ∧ ∀ k (hk : k < xs.length) j x, j < K → (f xs[k])[j]? = some x → w.cell? ⟨b, off + k * K + j, none⟩ = some x) := by
  obtain ⟨a, c, rfl, hcc, h1, _, h3⟩ := Sl.open h
  refine ⟨a, c, rfl, hcc, h1, fun hn => ?_⟩
  obtain ⟨b, off, rfl, hb, hc⟩ := h3 hn
  refine ⟨b, off, rfl, hb, fun k hk j x hj hx => ?_⟩
  rw [Nat.add_assoc]
  exact hc (k * K + j) x (by rw [rowK_cell f K hf xs k hk j hj]; exact hx)
theorem flatMap_snoc {α : Type} (f : α → List Value) (xs : List α) (x : α) : (xs ++ [x]).flatMap f = xs.flatMap f ++ f x := by rw [List.flatMap_append, List.flatMap_singleton]
end Av
