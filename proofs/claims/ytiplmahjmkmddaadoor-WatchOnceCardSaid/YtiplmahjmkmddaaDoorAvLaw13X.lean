/- WatchOnce: from the row's arguments to the walk. -/
import Derived.Test.YtiplmahjmkmddaaDoorAvLaw13D
import Derived.Test.YtiplmahjmkmddaaDoorAvFrame
namespace Go.Proofs.YtiplmahjmkmddaaDoor
set_option maxRecDepth 100000
open Go.ChangeShapes Go.WideShapes Go.ChangeAt Go.RowKit Av

theorem watchOnce_con {H : Type} {enc : TypeId × Value → H} (W : World) (base : Nat) (args : Array Value) (ds : List (DataW H)) (p : List MemPlace)
    (hval : ∀ (j : Nat) t v, Tryd.f3.params[j]? = some t → args[j]? = some v → Value.okWide Tryd.prog W .any base t v)
    (hA : DataW.TrodAll enc Tryd.prog W 0 (fun _ => true) true Tryd.f3.params.toList args.toList ds p)
    (hsh : W.ShapedOpen Tryd.prog) : Calls Tryd.prog 3 args W fun e W' => e = .returned (.bool true) ∧ Ext W W' := by
  rw [Tryd.params3] at hA hval
  obtain ⟨v0, d0, rfl, rfl, h0⟩ := trodAll_one hA
  obtain ⟨xs, ha⟩ := arg_wacts (hval 0 _ v0 rfl rfl) h0
  exact watchOnce_any v0 xs W (gl_of_shape hsh) ha
end Go.Proofs.YtiplmahjmkmddaaDoor
