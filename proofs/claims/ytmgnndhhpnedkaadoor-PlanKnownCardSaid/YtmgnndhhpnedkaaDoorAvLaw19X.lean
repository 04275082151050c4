/- PlanKnown: from the row's arguments to the walk. -/
import Derived.Test.YtmgnndhhpnedkaaDoorAvLaw19C
import Derived.Test.YtmgnndhhpnedkaaDoorAvLaw19G
namespace Go.Proofs.YtmgnndhhpnedkaaDoor
set_option maxRecDepth 100000
open Go.ChangeShapes Go.WideShapes Go.ChangeAt Go.RowKit Av

theorem planKnown_con {H : Type} {enc : TypeId × Value → H} (W : World) (base : Nat) (args : Array Value) (ds : List (DataW H)) (p : List MemPlace)
    (_hval : ∀ (j : Nat) t v, Tryd.f4.params[j]? = some t → args[j]? = some v → Value.okWide Tryd.prog W .any base t v)
    (hA : DataW.TrodAll enc Tryd.prog W 0 (fun _ => true) true Tryd.f4.params.toList args.toList ds p)
    (hsh : W.ShapedOpen Tryd.prog) (hl : laidMet Tryd.prog Rows.planKnownRow.laid W) : Calls Tryd.prog 4 args W fun e W' => e = .returned (.bool true) ∧ Ext W W' := by
  rw [Tryd.params4] at hA
  obtain ⟨rfl, rfl, rfl⟩ := trodAll_none hA
  exact planKnown_any W (gt_of hsh hl (by kernel_rfl))
end Go.Proofs.YtmgnndhhpnedkaaDoor
