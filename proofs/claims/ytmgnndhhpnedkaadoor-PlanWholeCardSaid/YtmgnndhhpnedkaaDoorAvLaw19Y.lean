/- From the rows' arguments to the walks: PlanWhole. -/
import Derived.Test.YtmgnndhhpnedkaaDoorAvLaw19B
import Derived.Test.YtmgnndhhpnedkaaDoorAvLaw19G
namespace Go.Proofs.YtmgnndhhpnedkaaDoor
set_option maxRecDepth 100000
open Go.ChangeShapes Go.WideShapes Go.ChangeAt Go.RowKit Av

theorem planWhole_con {H : Type} {enc : TypeId × Value → H} (W : World) (base : Nat) (args : Array Value) (ds : List (DataW H)) (p : List MemPlace)
    (hval : ∀ (j : Nat) t v, Tryd.f5.params[j]? = some t → args[j]? = some v → Value.okWide Tryd.prog W .any base t v)
    (hA : DataW.TrodAll enc Tryd.prog W 0 (fun _ => true) true Tryd.f5.params.toList args.toList ds p)
    (hsh : W.ShapedOpen Tryd.prog) (hl : laidMet Tryd.prog Rows.planWholeRow.laid W) : Calls Tryd.prog 5 args W fun e W' => e = .returned (.bool true) ∧ Ext W W' := by
  rw [Tryd.params5] at hA hval
  obtain ⟨v0, v1, v2, d0, d1, d2, p0, p1, p2, rfl, rfl, rfl, h0, h1, h2⟩ := trodAll_three hA
  obtain ⟨sh, rfl⟩ := okWide_int Tryd.underlying3 (hval 0 _ v0 rfl rfl)
  obtain ⟨ms, hms, _⟩ := arg_ints Tryd.underlying22 Tryd.underlying3 (by kernel_rfl) (hval 1 _ v1 rfl rfl) h1
  obtain ⟨s, n, u, rfl, _, _, xs, b1, _, _⟩ := arg_req (hval 2 _ v2 rfl rfl) h2
  exact planWhole_any sh s n v1 u ms xs W (gt_of hsh hl (by kernel_rfl)) hms b1
end Go.Proofs.YtmgnndhhpnedkaaDoor
