/- Regions that draw their order, whose operations read and whose calls turn nothing old: one walk in the order of the text. No program. -/
import Derived.Test.YtjapjpigpakejaaGreatDoorAvBase
import Derived.Deep.QuietTactic
import Derived.Tactics2
namespace Av
set_option maxRecDepth 100000
open Go Go.RowKit
/-- The kit's walk in the order of the text, behind a wall (whoever lays the goal open step by step must not lay all of it open). -/
structure WpQ (P : Program) (ops : Array Oper) (C : World → Prop) (Q : Act → Prop) (l : List Oper) (a : Act) : Prop where
  out : wpQuiet P ops C Q l a
section
variable {P : Program} {ops : Array Oper} {C : World → Prop} {Q : Act → Prop} {a : Act} {o : Oper} {rest : List Oper}
theorem wpQ_nil (h : Q a) : WpQ P ops C Q [] a := ⟨h⟩
/-- An operation that is passed over. -/
theorem wpQ_skip (hw : Region.wanted o (yielded ops a.tmps) = false) (h : WpQ P ops C Q rest (a.put o.dst undef)) : WpQ P ops C Q (o :: rest) a := by
  refine ⟨?_⟩; unfold wpQuiet; rw [hw]; simpa using h.out
/-- An operation that yields one value in every world of the class. -/
theorem wpQ_val {u : Value} (hw : Region.wanted o (yielded ops a.tmps) = true) (h : ∀ w, C w → (execOp a.eval o).run P w = .ok (.value u) w) (hk : WpQ P ops C Q rest (a.put o.dst u)) : WpQ P ops C Q (o :: rest) a := by
  refine ⟨?_⟩; unfold wpQuiet; rw [hw]
  refine ⟨u, fun w hc => ?_, hk.out⟩
  unfold Oper.quietAt
  rw [h w hc]
  exact ⟨rfl, rfl⟩
/-- An operation, a call too, in every world of the class. -/
theorem wpQ_call {v : Value} (hw : Region.wanted o (yielded ops a.tmps) = true) (h : ∀ w, C w → Oper.quietUpon P C w v ((execOp a.eval o).run P w))
    (hk : WpQ P ops C Q rest (a.put o.dst v)) : WpQ P ops C Q (o :: rest) a := by
  refine ⟨?_⟩; unfold wpQuiet; rw [hw]
  exact ⟨v, fun w hcw => h w hcw, hk.out⟩
end
theorem wp_region_class {P : Program} {C : World → Prop} {id : Nat} {Q : Exit → Act → World → Prop} {a : Act} {w : World} {l : List Oper} (C0 : C w.drew) (hm : P.follows .mixedOrders = true) (hB : Region.lexB .any l.toArray = true)
    (h : WpQ P l.toArray C (fun a' => ∀ w', C w' → Q .normal a' w') l a) : (Code.region id l.toArray true).wp P Q a w :=
  wp_region_quiet (C := C) hm hB C0 (by simpa using h.out)
end Av
