/- From the rows' arguments to the walks: PlanModel. -/
import Derived.Test.YtmgnndhhpnedkaaDoorAvLaw19A
import Derived.Test.YtmgnndhhpnedkaaDoorAvFrameL
import Derived.Carry
namespace Go.Proofs.YtmgnndhhpnedkaaDoor
set_option maxRecDepth 100000
open Go.ChangeShapes Go.WideShapes Go.ChangeAt Go.RowKit Av

theorem gt_of {W : World} {laid : List (String × DataW Unit)} (hsh : W.ShapedOpen Tryd.prog) (h : laidMet Tryd.prog laid W) (hl : (laid.filter fun x => x.1 == "internal/strconv.uint64pow10") = [("internal/strconv.uint64pow10", Lib.tabData .u64 Lib.pow10Tab)]) : GT W :=
  ⟨gl_of_shape hsh, tab_of_laid h hl⟩
theorem planModel_con {H : Type} {enc : TypeId × Value → H} (W : World) (base : Nat) (args : Array Value) (ds : List (DataW H)) (p : List MemPlace)
    (hval : ∀ (j : Nat) t v, Tryd.f3.params[j]? = some t → args[j]? = some v → Value.okWide Tryd.prog W .any base t v)
    (hA : DataW.TrodAll enc Tryd.prog W 0 (fun _ => true) true Tryd.f3.params.toList args.toList ds p)
    (hsh : W.ShapedOpen Tryd.prog) (hl : laidMet Tryd.prog Rows.planModelRow.laid W) : Calls Tryd.prog 3 args W fun e W' => e = .returned (.bool true) ∧ Ext W W' := by
  rw [Tryd.params3] at hA hval
  obtain ⟨v0, v1, v2, v3, d0, d1, d2, d3, p0, p1, p2, p3, rfl, rfl, rfl, h0, h1, h2, h3⟩ := trodAll_four hA
  obtain ⟨sh, rfl⟩ := okWide_int Tryd.underlying3 (hval 0 _ v0 rfl rfl)
  obtain ⟨ms, hms, _⟩ := arg_ints Tryd.underlying22 Tryd.underlying3 (by kernel_rfl) (hval 1 _ v1 rfl rfl) h1
  obtain ⟨s, n, u, rfl, _, _, xs, b1, _, _⟩ := arg_req (hval 2 _ v2 rfl rfl) h2
  obtain ⟨bs, hbs⟩ := arg_bools Tryd.underlying26 Tryd.underlying4 (by kernel_rfl) (hval 3 _ v3 rfl rfl) h3
  exact planModel_any sh s n v1 u v3 ms xs bs W (gt_of hsh hl (by kernel_rfl)) hms b1 hbs
end Go.Proofs.YtmgnndhhpnedkaaDoor
