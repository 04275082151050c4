/- Walks of package aviaryref1: Name, Within, Same, Digits, Number. -/
import Derived.Test.YtkpcmbgnaenbhaaDoorAvWPathC
import Derived.Deep.QuietTactic
import Derived.BigQuiet
import Derived.Deep.RegionWith
namespace Go.Proofs.YtkpcmbgnaenbhaaDoor
set_option maxRecDepth 100000
open Go.RowKit Av
theorem str_ne (a b : ByteArray) : (a.toList != b.toList) = !decide (a = b) := by rw [bne, str_eq]
theorem take_step {α : Type} {a b : List α} {k : Nat} (h : a.take k = b.take k) (ha : k < a.length) (hb : k < b.length) (e : a[k] = b[k]) : a.take (k + 1) = b.take (k + 1) := by
  rw [List.take_succ_eq_append_getElem ha, List.take_succ_eq_append_getElem hb, h, e]
theorem map_inj {a b : List ByteArray} : a.map (·.data.toList) = b.map (·.data.toList) ↔ a = b := by
  constructor
  · intro h
    exact List.map_inj_right (fun x y e => bytes_eq e) |>.1 h
  · rintro rfl; rfl

/-- Behind k rounds of a loop that holds two slices against each other. -/
def SameRel (w : World) (xs ys : List ByteArray) (i : Value) (wr : World) : Prop :=
  ∃ k : Nat, k ≤ ys.length ∧ i = .int .i64 k ∧ xs.take k = ys.take k ∧ Ext w wr

theorem withinR_map {ps qs : List ByteArray} {a b : List Bs} (h1 : ps.map (·.data.toList) = a) (h2 : qs.map (·.data.toList) = b) :
    withinR a b = ((decide (ps.length ≠ 0) && (decide (qs.length ≠ 0) && decide (qs.length ≤ ps.length))) && decide (ps.take qs.length = qs)) := by
  subst h1 h2
  unfold withinR
  simp only [List.length_map, ← List.map_take]
  congr 1
  simp only [map_inj]

end Go.Proofs.YtkpcmbgnaenbhaaDoor
