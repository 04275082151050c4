/- WatchOwn: from the row's arguments to the walk. -/
import Derived.Test.YtiplmahjmkmddaaDoorAvLaw13E
import Derived.Test.YtiplmahjmkmddaaDoorAvFrame
namespace Go.Proofs.YtiplmahjmkmddaaDoor
set_option maxRecDepth 100000
open Go.ChangeShapes Go.WideShapes Go.ChangeAt Go.RowKit Av

theorem watchOwn_con {H : Type} {enc : TypeId × Value → H} (W : World) (base : Nat) (args : Array Value) (ds : List (DataW H)) (p : List MemPlace)
    (hval : ∀ (j : Nat) t v, Tryd.f7.params[j]? = some t → args[j]? = some v → Value.okWide Tryd.prog W .any base t v)
    (hA : DataW.TrodAll enc Tryd.prog W 0 (fun _ => true) true Tryd.f7.params.toList args.toList ds p)
    (hsh : W.ShapedOpen Tryd.prog) : Calls Tryd.prog 7 args W fun e W' => e = .returned (.bool true) ∧ Ext W W' := by
  rw [Tryd.params7] at hA hval
  obtain ⟨v0, v1, d0, d1, p0, p1, rfl, rfl, rfl, h0, _⟩ := trodAll_two hA
  obtain ⟨xs, ha⟩ := arg_wacts (hval 0 _ v0 rfl rfl) h0
  obtain ⟨n, rfl⟩ := okWide_int Tryd.underlying2 (hval 1 _ v1 rfl rfl)
  exact watchOwn_any v0 xs n W (gl_of_shape hsh) ha
end Go.Proofs.YtiplmahjmkmddaaDoor
