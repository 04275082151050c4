/- OpKnown: from the row's arguments to the walk. -/
import Derived.Test.YtlcbllgmnbhphaaGreatDoorAvLaw5K
import Derived.Test.YtlcbllgmnbhphaaGreatDoorAvLaw5Z
namespace Go.Proofs.YtlcbllgmnbhphaaGreatDoor
set_option maxRecDepth 100000
open Go.ChangeShapes Go.WideShapes Go.ChangeAt Go.RowKit Av

theorem opKnown_con {H : Type} {enc : TypeId × Value → H} (W : World) (base : Nat) (args : Array Value) (ds : List (DataW H)) (p : List MemPlace)
    (_hval : ∀ (j : Nat) t v, Tryz.f3.params[j]? = some t → args[j]? = some v → Value.okWide Tryz.prog W .any base t v)
    (hA : DataW.TrodAll enc Tryz.prog W 0 (fun _ => true) true Tryz.f3.params.toList args.toList ds p)
    (hsh : W.ShapedOpen Tryz.prog) (hl : laidMet Tryz.prog Rows.opKnownRow.laid W) : Calls Tryz.prog 3 args W fun e W' => e = .returned (.bool true) ∧ Ext W W' := by
  rw [Tryz.params3] at hA
  obtain ⟨rfl, rfl, rfl⟩ := trodAll_none hA
  exact opKnown_any W (gt_of hsh hl (by kernel_rfl))
end Go.Proofs.YtlcbllgmnbhphaaGreatDoor
