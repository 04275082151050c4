/- Slices of truths: arguments. -/
import Derived.Test.YtkpcmbgnaenbhaaDoorAvArg
import Derived.Test.YtkpcmbgnaenbhaaDoorAvNest
namespace Go.Proofs.YtkpcmbgnaenbhaaDoor
set_option maxRecDepth 100000
open Go.RowKit Go.ChangeShapes Go.WideShapes Go.ChangeAt Av

/-- Truths that can be read. -/
def BoolsR (w : World) (v : Value) (l : List Bool) : Prop := Sl w 1 v l.length (l.map Value.bool) ∧ Shp v
theorem BoolsR.ext {w w' : World} {v : Value} {l : List Bool} (h : BoolsR w v l) (k : Ext w w') : BoolsR w' v l := ⟨Sl.ext h.1 k, h.2⟩
theorem BoolsR.open {w : World} {v : Value} {l : List Bool} (h : BoolsR w v l) : ∃ a c, v = .slice a l.length c ∧ l.length ≤ c ∧ l.length ≤ maxLen ∧ (0 < l.length → ∃ b off, a = some ⟨b, off, none⟩ ∧ b < w.heap.size ∧ ∀ i (hi : i < l.length), w.cell? ⟨b, off + i, none⟩ = some (.bool l[i])) := by
  obtain ⟨a, c, rfl, hcc, h1, h2, h3⟩ := Sl.open h.1
  refine ⟨a, c, rfl, hcc, h1, fun hn => ?_⟩
  obtain ⟨b, off, rfl, hb, hc⟩ := h3 hn
  exact ⟨b, off, rfl, hb, fun i hi => hc i _ (by rw [List.getElem?_map, List.getElem?_eq_getElem hi]; rfl)⟩
section
variable {P : Program} {H : Type} {enc : TypeId × Value → H} {W : World}
theorem arg_bools {base : Nat} {r : Reach} {t e : TypeId} {v : Value} {d : DataW H} {p : List MemPlace} (ht : P.underlying t = some (.slice e)) (he : P.underlying e = some .bool) (hc : P.cellsOf e = 1)
    (hv : Value.okWide P W r base t v) (h : DataW.Trod enc P W 0 (fun _ => true) true t v d p) : ∃ l : List Bool, BoolsR W v l := by
  obtain ⟨a0, len, cap, rfl⟩ := okWide_slice ht hv
  obtain ⟨n, h⟩ := h
  obtain ⟨v', hcs, xs, h1, h2, _⟩ := trod_sl (fun b : Bool => [Value.bool b]) 1 (fun _ => True) (fun _ => rfl) (by decide) ht hc (fun fuel cs x hx => by obtain ⟨b, rfl, _⟩ := DataW.trod_bool he hx; exact ⟨b, rfl, trivial⟩) h
  simp only [Value.cells, List.cons.injEq, and_true] at hcs
  subst hcs
  rw [flat_one] at h1
  exact ⟨xs, ⟨h1, h2⟩⟩
end
end Go.Proofs.YtkpcmbgnaenbhaaDoor
