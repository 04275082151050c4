/- WatchKnown: from the row's arguments to the walk. -/
import Derived.Test.YtiplmahjmkmddaaDoorAvLaw13C
import Derived.Test.YtiplmahjmkmddaaDoorAvFrame
namespace Go.Proofs.YtiplmahjmkmddaaDoor
set_option maxRecDepth 100000
open Go.ChangeShapes Go.WideShapes Go.ChangeAt Go.RowKit Av

theorem watchKnown_con {H : Type} {enc : TypeId × Value → H} (W : World) (base : Nat) (args : Array Value) (ds : List (DataW H)) (p : List MemPlace)
    (_hval : ∀ (j : Nat) t v, Tryd.f5.params[j]? = some t → args[j]? = some v → Value.okWide Tryd.prog W .any base t v)
    (hA : DataW.TrodAll enc Tryd.prog W 0 (fun _ => true) true Tryd.f5.params.toList args.toList ds p)
    (hsh : W.ShapedOpen Tryd.prog) : Calls Tryd.prog 5 args W fun e W' => e = .returned (.bool true) ∧ Ext W W' := by
  rw [Tryd.params5] at hA
  obtain ⟨rfl, rfl, rfl⟩ := trodAll_none hA
  exact watchKnown_any W (gl_of_shape hsh)
end Go.Proofs.YtiplmahjmkmddaaDoor
