/- From the rows' arguments to the walks: OpBytes. -/
import Derived.Test.YtlcbllgmnbhphaaDoorAvLaw5C
import Derived.Test.YtlcbllgmnbhphaaDoorAvLaw5Z
import Derived.Test.YtlcbllgmnbhphaaDoorAvArg
namespace Go.Proofs.YtlcbllgmnbhphaaDoor
set_option maxRecDepth 100000
open Go.ChangeShapes Go.WideShapes Go.ChangeAt Go.RowKit Av

theorem opBytes_con {H : Type} {enc : TypeId × Value → H} (W : World) (base : Nat) (args : Array Value) (ds : List (DataW H)) (p : List MemPlace)
    (hval : ∀ (j : Nat) t v, Tryd.f3.params[j]? = some t → args[j]? = some v → Value.okWide Tryd.prog W .any base t v)
    (hA : DataW.TrodAll enc Tryd.prog W 0 (fun _ => true) true Tryd.f3.params.toList args.toList ds p)
    (hsh : W.ShapedOpen Tryd.prog) (hl : laidMet Tryd.prog Rows.opBytesRow.laid W) : Calls Tryd.prog 3 args W fun e W' => e = .returned (.bool true) ∧ Ext W W' := by
  rw [Tryd.params3] at hA hval
  obtain ⟨v0, v1, d0, d1, p0, p1, rfl, rfl, rfl, h0, h1⟩ := trodAll_two hA
  obtain ⟨s, n, u, rfl, a1, a2, xs, b1, b2, b3⟩ := arg_req (hval 0 _ v0 rfl rfl) h0
  obtain ⟨bs, hbs⟩ := arg_bytes Tryd.underlying25 Tryd.underlying5 (by kernel_rfl) (hval 1 _ v1 rfl rfl) h1
  exact opBytes_any s n u v1 xs bs W (gt_of hsh hl (by kernel_rfl)) b1 b2 hbs
end Go.Proofs.YtlcbllgmnbhphaaDoor
