/- LockFar: from the row's arguments to the walk. -/
import Derived.Test.YtgaeeijpeidncaaDoorAvLaw17F
import Derived.Test.YtgaeeijpeidncaaDoorAvFrame
namespace Go.Proofs.YtgaeeijpeidncaaDoor
open Go.ChangeShapes Go.WideShapes Go.ChangeAt Go.RowKit Av

theorem lockFar_con {H : Type} {enc : TypeId × Value → H} (W : World) (base : Nat) (args : Array Value) (ds : List (DataW H)) (p : List MemPlace)
    (hval : ∀ (j : Nat) t v, Tryd.f3.params[j]? = some t → args[j]? = some v → Value.okWide Tryd.prog W .any base t v)
    (hA : DataW.TrodAll enc Tryd.prog W 0 (fun _ => true) true Tryd.f3.params.toList args.toList ds p)
    (hsh : W.ShapedOpen Tryd.prog) : Calls Tryd.prog 3 args W fun e W' => e = .returned (.bool true) ∧ Ext W W' := by
  rw [Tryd.params3] at hA hval
  obtain ⟨v0, v1, d0, d1, p0, p1, rfl, rfl, rfl, h0, h1⟩ := trodAll_two hA
  obtain ⟨a, ha, hsa⟩ := arg_strings Tryd.underlying22 Tryd.underlying9 (by kernel_rfl) (hval 0 _ v0 rfl rfl) h0
  obtain ⟨b, hb, hsb⟩ := arg_strings Tryd.underlying22 Tryd.underlying9 (by kernel_rfl) (hval 1 _ v1 rfl rfl) h1
  exact lockFar_any v0 v1 a b W (gl_of_shape hsh) ha hb hsa hsb
end Go.Proofs.YtgaeeijpeidncaaDoor
