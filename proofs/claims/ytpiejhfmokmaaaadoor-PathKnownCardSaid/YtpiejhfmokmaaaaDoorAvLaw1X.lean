/- From the row's arguments to the walk: PathKnown. -/
import Derived.Test.YtpiejhfmokmaaaaDoorAvLaw1E
import Derived.Test.YtpiejhfmokmaaaaDoorAvLaw1Z
namespace Go.Proofs.YtpiejhfmokmaaaaDoor
open Go.ChangeShapes Go.WideShapes Go.ChangeAt Go.RowKit Av

theorem pathKnown_con {H : Type} {enc : TypeId × Value → H} (W : World) (base : Nat) (args : Array Value) (ds : List (DataW H)) (p : List MemPlace)
    (_hval : ∀ (j : Nat) t v, Tryd.f8.params[j]? = some t → args[j]? = some v → Value.okWide Tryd.prog W .any base t v)
    (hA : DataW.TrodAll enc Tryd.prog W 0 (fun _ => true) true Tryd.f8.params.toList args.toList ds p)
    (hsh : W.ShapedOpen Tryd.prog) (hl : laidMet Tryd.prog Rows.pathKnownRow.laid W) : Calls Tryd.prog 8 args W fun e W' => e = .returned (.bool true) ∧ Ext W W' := by
  rw [Tryd.params8] at hA
  obtain ⟨rfl, rfl, rfl⟩ := trodAll_none hA
  exact pathKnown_any W (gt_of hsh hl (by kernel_rfl))
end Go.Proofs.YtpiejhfmokmaaaaDoor
