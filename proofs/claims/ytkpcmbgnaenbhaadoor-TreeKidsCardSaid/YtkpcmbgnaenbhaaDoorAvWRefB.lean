/- Walks of package aviaryref1: IsName, Of. -/
import Derived.Test.YtkpcmbgnaenbhaaDoorAvWRefA
namespace Go.Proofs.YtkpcmbgnaenbhaaDoor
set_option maxRecDepth 100000
open Go.RowKit Av

def signR (c : UInt8) : Bool := sign c && (c != 47)
def nameR (l : Bs) : Bool := nameL l && l.all signR

theorem nameR_eq (l : Bs) (h : (47 : UInt8) ∉ l) : nameR l = nameL l := by
  unfold nameR
  by_cases hn : nameL l = true
  · have h2 := hn
    simp only [nameL, Bool.and_eq_true] at h2
    rw [hn, Bool.true_and, List.all_eq_true]
    intro c hc
    have h3 := List.all_eq_true.1 h2.1.1.1.1 c hc
    have : c ≠ 47 := fun e => h (e ▸ hc)
    simp [signR, h3, this]
  · simp [hn]
theorem nameR_no (l : Bs) (h : nameL l = false) : nameR l = false := by simp [nameR, h]
theorem nameL_of (l : Bs) (h1 : 1 ≤ l.length) (h2 : l.length ≤ 40) (h3 : l ≠ [46]) (h4 : l ≠ [46, 46]) : nameL l = l.all sign := by
  have e1 : decide (1 ≤ l.length) = true := decide_eq_true h1
  have e2 : decide (l.length ≤ 40) = true := decide_eq_true h2
  have e3 : (l != [46]) = true := by simpa using h3
  have e4 : (l != [46, 46]) = true := by simpa using h4
  simp only [nameL, e1, e2, e3, e4, Bool.and_true]
theorem all_signR (l : Bs) (h : l.all signR = true) : l.all sign = true := by
  rw [List.all_eq_true] at h ⊢
  intro c hc
  have := h c hc
  simp only [signR, Bool.and_eq_true] at this
  exact this.1
theorem all_snocR (l : Bs) (k : Nat) (h : k < l.length) : (l.take (k + 1)).all signR = ((l.take k).all signR && signR l[k]) := by
  rw [List.take_succ_eq_append_getElem h]; simp only [List.all_append, List.all_cons, List.all_nil, Bool.and_true]
theorem not_allR (l : Bs) (k : Nat) (h : k < l.length) (hs : signR l[k] = false) : l.all signR = false := by
  rw [List.all_eq_false]; exact ⟨l[k], List.getElem_mem h, by simp [hs]⟩

theorem ofL_snoc (l : List Bs) (k : Nat) (h : k < l.length) : ofL (l.take (k + 1)) = ofL (l.take k) ++ 47 :: l[k] := by
  rw [List.take_succ_eq_append_getElem h]; simp only [ofL, List.flatMap_append, List.flatMap_cons, List.flatMap_nil, List.append_nil]
theorem ofL_take_le (l : List Bs) (k : Nat) : (ofL (l.take k)).length ≤ (ofL l).length := by
  conv => rhs; rw [← List.take_append_drop k l]
  simp only [ofL, List.flatMap_append, List.length_append]
  omega

end Go.Proofs.YtkpcmbgnaenbhaaDoor
