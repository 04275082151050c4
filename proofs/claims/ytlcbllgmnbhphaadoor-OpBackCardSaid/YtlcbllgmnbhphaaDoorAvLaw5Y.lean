/- From the rows' arguments to the walks: OpBack. -/
import Derived.Test.YtlcbllgmnbhphaaDoorAvLaw5B
import Derived.Test.YtlcbllgmnbhphaaDoorAvLaw5Z
namespace Go.Proofs.YtlcbllgmnbhphaaDoor
set_option maxRecDepth 100000
open Go.ChangeShapes Go.WideShapes Go.ChangeAt Go.RowKit Av

theorem opBack_con {H : Type} {enc : TypeId × Value → H} (W : World) (base : Nat) (args : Array Value) (ds : List (DataW H)) (p : List MemPlace)
    (hval : ∀ (j : Nat) t v, Tryd.f4.params[j]? = some t → args[j]? = some v → Value.okWide Tryd.prog W .any base t v)
    (hA : DataW.TrodAll enc Tryd.prog W 0 (fun _ => true) true Tryd.f4.params.toList args.toList ds p)
    (hsh : W.ShapedOpen Tryd.prog) (hl : laidMet Tryd.prog Rows.opBackRow.laid W) : Calls Tryd.prog 4 args W fun e W' => e = .returned (.bool true) ∧ Ext W W' := by
  rw [Tryd.params4] at hA hval
  obtain ⟨v0, v1, d0, d1, p0, p1, rfl, rfl, rfl, h0, h1⟩ := trodAll_two hA
  obtain ⟨s, n, u, rfl, a1, a2, xs, b1, b2, b3⟩ := arg_req (hval 0 _ v0 rfl rfl) h0
  obtain ⟨s', n', u', rfl, a1', a2', ys, b1', b2', b3'⟩ := arg_req (hval 1 _ v1 rfl rfl) h1
  exact opBack_any s n s' n' u u' xs ys W (gt_of hsh hl (by kernel_rfl)) b1 b2 b1' b2' a1 a2 b3 a1' a2' b3'
end Go.Proofs.YtlcbllgmnbhphaaDoor
