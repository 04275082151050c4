/- From the rows' arguments to the walks: TreeKeeps. -/
import Derived.Test.YtkpcmbgnaenbhaaGreatDoorAvG43
namespace Go.Proofs.YtkpcmbgnaenbhaaGreatDoor
set_option maxRecDepth 100000
open Go.ChangeShapes Go.WideShapes Go.ChangeAt Go.RowKit Av

theorem treeKeeps_con {H : Type} {enc : TypeId × Value → H} (W : World) (base : Nat) (args : Array Value) (ds : List (DataW H)) (p : List MemPlace)
    (hval : ∀ (j : Nat) t v, Tryz.f4.params[j]? = some t → args[j]? = some v → Value.okWide Tryz.prog W .any base t v)
    (hA : DataW.TrodAll enc Tryz.prog W 0 (fun _ => true) true Tryz.f4.params.toList args.toList ds p)
    (hsh : W.ShapedOpen Tryz.prog) (hl : laidMet Tryz.prog Rows.treeKeepsRow.laid W) : Calls Tryz.prog 4 args W fun e W' => e = .returned (.bool true) ∧ Ext W W' := by
  rw [Tryz.params4] at hA hval
  obtain ⟨v0, v1, d0, d1, p0, p1, rfl, rfl, rfl, h0, h1⟩ := trodAll_two hA
  obtain ⟨xs, hx⟩ := arg_actsn (hval 0 _ v0 rfl rfl) h0
  obtain ⟨o, rfl, a1, _⟩ := arg_op (hval 1 _ v1 rfl rfl) h1
  exact treeKeeps_any v0 xs o.kind o.path o.data o.ver o.flags W (gt_of hsh hl (by kernel_rfl)) hx a1.1 a1.2
end Go.Proofs.YtkpcmbgnaenbhaaGreatDoor
