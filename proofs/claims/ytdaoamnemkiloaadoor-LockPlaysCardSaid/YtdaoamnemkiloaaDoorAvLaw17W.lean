/- LockPlays: from the row's arguments to the walk. -/
import Derived.Test.YtdaoamnemkiloaaDoorAvLaw17V
import Derived.Test.YtdaoamnemkiloaaDoorAvActs
namespace Go.Proofs.YtdaoamnemkiloaaDoor
set_option maxRecDepth 100000
open Go.ChangeShapes Go.WideShapes Go.ChangeAt Go.RowKit Av

theorem lockPlays_con {H : Type} {enc : TypeId × Value → H} (W : World) (base : Nat) (args : Array Value) (ds : List (DataW H)) (p : List MemPlace)
    (hval : ∀ (j : Nat) t v, Tryd.f5.params[j]? = some t → args[j]? = some v → Value.okWide Tryd.prog W .any base t v)
    (hA : DataW.TrodAll enc Tryd.prog W 0 (fun _ => true) true Tryd.f5.params.toList args.toList ds p)
    (hsh : W.ShapedOpen Tryd.prog) : Calls Tryd.prog 5 args W fun e W' => e = .returned (.bool true) ∧ Ext W W' := by
  rw [Tryd.params5] at hA hval
  obtain ⟨v0, v1, d0, d1, p0, p1, rfl, rfl, rfl, h0, h1⟩ := trodAll_two hA
  obtain ⟨xs, ha⟩ := arg_acts Tryd.underlying36 Tryd.underlying42 (by kernel_rfl) ⟨rfl, rfl⟩ ⟨rfl, rfl⟩ ⟨rfl, rfl⟩ Tryd.underlying3 Tryd.underlying2 Tryd.underlying22 Tryd.underlying9
    (by kernel_rfl) (by kernel_rfl) (by kernel_rfl) (by kernel_rfl) (hval 0 _ v0 rfl rfl) h0
  obtain ⟨s1, rfl⟩ := okWide_string Tryd.underlying9 (hval 1 _ v1 rfl rfl)
  exact lockPlays_any v0 xs s1 W (gl_of_shape hsh) ha
end Go.Proofs.YtdaoamnemkiloaaDoor
