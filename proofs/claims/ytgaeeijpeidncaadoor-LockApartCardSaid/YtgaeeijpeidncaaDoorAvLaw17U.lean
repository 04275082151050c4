/- LockApart: from the row's arguments to the walk. -/
import Derived.Test.YtgaeeijpeidncaaDoorAvLaw17T
import Derived.Test.YtgaeeijpeidncaaDoorAvFrame
namespace Go.Proofs.YtgaeeijpeidncaaDoor
open Go.ChangeShapes Go.WideShapes Go.ChangeAt Go.RowKit Av

theorem lockApart_con {H : Type} {enc : TypeId × Value → H} (W : World) (base : Nat) (args : Array Value) (ds : List (DataW H)) (p : List MemPlace)
    (hval : ∀ (j : Nat) t v, Tryd.f6.params[j]? = some t → args[j]? = some v → Value.okWide Tryd.prog W .any base t v)
    (hA : DataW.TrodAll enc Tryd.prog W 0 (fun _ => true) true Tryd.f6.params.toList args.toList ds p)
    (hsh : W.ShapedOpen Tryd.prog) : Calls Tryd.prog 6 args W fun e W' => e = .returned (.bool true) ∧ Ext W W' := by
  rw [Tryd.params6] at hA hval
  obtain ⟨v0, d0, rfl, rfl, h0⟩ := trodAll_one hA
  obtain ⟨xs, ha⟩ := arg_acts Tryd.underlying36 Tryd.underlying42 (by kernel_rfl) ⟨rfl, rfl⟩ ⟨rfl, rfl⟩ ⟨rfl, rfl⟩ Tryd.underlying3 Tryd.underlying2 Tryd.underlying22 Tryd.underlying9
    (by kernel_rfl) (by kernel_rfl) (by kernel_rfl) (by kernel_rfl) (hval 0 _ v0 rfl rfl) h0
  exact lockApart_any v0 xs W (gl_of_shape hsh) ha
end Go.Proofs.YtgaeeijpeidncaaDoor
