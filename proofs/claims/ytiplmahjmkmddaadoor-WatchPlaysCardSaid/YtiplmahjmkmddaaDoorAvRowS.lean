/- A row that the library sorts in place. No program. -/
import Derived.Test.YtiplmahjmkmddaaDoorAvRowB
import Derived.Shelf.SlSortCmp.NoneTotal
namespace Av
set_option maxRecDepth 100000
open Go Go.RowKit Go.Sort Go.Proofs
theorem flatK_list {α : Type} [Inhabited α] (f : α → List Value) (K : Nat) (h0 : 0 < K) (hf : ∀ x, (f x).length = K) (xs : List α) : (flatK f K xs.toArray).toList = xs.flatMap f := by
  apply List.ext_getElem
  · rw [flat_len f K hf]; simp
  · intro t h1 h2
    have ht : t < xs.length * K := by rw [flat_len f K hf] at h2; exact h2
    have hd : t / K < xs.length := (Nat.div_lt_iff_lt_mul h0).2 ht
    have hm : t % K < K := Nat.mod_lt _ h0
    have e1 := rowK_cell f K hf xs (t / K) hd (t % K) hm
    have et : t / K * K + t % K = t := by rw [Nat.mul_comm]; exact Nat.div_add_mod t K
    rw [et, List.getElem?_eq_getElem h2, List.getElem?_eq_getElem (by rw [hf]; exact hm)] at e1
    have e2 := Option.some.inj e1
    rw [e2]
    have e3 := get_flatK f K xs.toArray t (by simpa using ht)
    rw [getElem!_pos (flatK f K xs.toArray) t (by simpa using ht), getElem!_pos xs.toArray (t / K) (by simpa using hd)] at e3
    rw [Array.getElem_toList, e3]
    simp only [List.getElem_toArray]
    rw [getElem!_pos (f xs[t / K]) (t % K) (by rw [hf]; exact hm)]
theorem RowB.holds {α : Type} [Inhabited α] {f : α → List Value} {K : Nat} (h0 : 0 < K) (hf : ∀ x, (f x).length = K) {w : World} {b cap : Nat} {e : TypeId} {xs : List α} (h : RowB w b e K cap (xs.flatMap f)) : HoldsK f K w b 0 xs.toArray := by
  intro j hj
  have hl := flatK_list f K h0 hf xs
  refine ⟨?_, h.free _⟩
  rw [Nat.zero_add]
  refine h.cell ?_
  rw [← hl, getElem!_pos _ j hj, Array.getElem?_toList, Array.getElem?_eq_getElem hj]
  rfl
theorem RowB.sorted {α : Type} [Inhabited α] {f : α → List Value} {K : Nat} (h0 : 0 < K) (hf : ∀ x, (f x).length = K) {w : World} {b cap : Nat} {e : TypeId} {xs ys : List α} (h : RowB w b e K cap (xs.flatMap f)) (hl : ys.length = xs.length) (n : Nat) (os : Array Obj) :
    RowB (sortWorldK f K w b 0 n ys.toArray os) b e K cap (ys.flatMap f) ∧ Kp (fun i => i = b) w (sortWorldK f K w b 0 n ys.toArray os) := by
  have hlt := h.lt
  have hlen := h.len
  rw [flat_len f K hf, ← hl] at hlen
  have hfl := flatK_list f K h0 hf ys
  obtain ⟨cur, h1, h2, h3⟩ := h
  have hget : ∀ k, k < w.heap.size → (sortWorldK f K w b 0 n ys.toArray os).heap[k]? = (w.heap.modify b (onCells (putCells id 0 (flatK f K ys.toArray))))[k]? := by
    intro k hk
    show ((w.heap.modify b (onCells (putCells id 0 (flatK f K ys.toArray)))) ++ os)[k]? = _
    rw [Array.getElem?_append_left (by simpa using hk)]
  constructor
  · refine ⟨putCells id 0 (flatK f K ys.toArray) cur, ?_, by simpa [putCells] using h2, ?_⟩
    · rw [hget b hlt, Array.getElem?_modify, if_pos rfl, h1]; rfl
    · rw [← hfl]
      apply List.ext_getElem?
      intro t
      rw [List.getElem?_take]
      by_cases ht : t < (flatK f K ys.toArray).toList.length
      · rw [if_pos ht]
        have ht2 : t < (flatK f K ys.toArray).size := by simpa using ht
        have ht3 : t < cur.size := by have : (flatK f K ys.toArray).size = ys.length * K := by simp
                                      omega
        rw [Array.getElem?_toList, Array.getElem?_toList, Array.getElem?_eq_getElem ht2]
        simp only [putCells, Array.getElem?_mapIdx, Array.getElem?_eq_getElem ht3, Option.map_some]
        rw [if_pos ⟨Nat.zero_le _, by omega⟩, Nat.sub_zero, getElem!_pos _ t ht2]
        rfl
      · rw [if_neg ht, List.getElem?_eq_none (by omega)]
  · refine ⟨rfl, rfl, rfl, ?_, fun k hk hs => ?_⟩
    · show w.heap.size ≤ ((w.heap.modify b _) ++ os).size
      simp
    · rw [hget k hk, Array.getElem?_modify, if_neg (fun e => hs e.symm)]
end Av
