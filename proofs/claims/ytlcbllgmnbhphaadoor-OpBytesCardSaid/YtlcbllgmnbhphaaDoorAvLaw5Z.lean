/- From the rows' arguments to the walks: OpParts. -/
import Derived.Test.YtlcbllgmnbhphaaDoorAvLaw5A
import Derived.Test.YtlcbllgmnbhphaaDoorAvReqArg
import Derived.Test.YtlcbllgmnbhphaaDoorAvFrameL
namespace Go.Proofs.YtlcbllgmnbhphaaDoor
set_option maxRecDepth 100000
open Go.ChangeShapes Go.WideShapes Go.ChangeAt Go.RowKit Av

theorem gt_of {W : World} {laid : List (String × DataW Unit)} (hsh : W.ShapedOpen Tryd.prog) (h : laidMet Tryd.prog laid W) (hl : (laid.filter fun x => x.1 == "internal/strconv.uint64pow10") = [("internal/strconv.uint64pow10", Lib.tabData .u64 Lib.pow10Tab)]) : GT W :=
  ⟨gl_of_shape hsh, tab_of_laid h hl⟩

theorem opParts_con {H : Type} {enc : TypeId × Value → H} (W : World) (base : Nat) (args : Array Value) (ds : List (DataW H)) (p : List MemPlace)
    (hval : ∀ (j : Nat) t v, Tryd.f5.params[j]? = some t → args[j]? = some v → Value.okWide Tryd.prog W .any base t v)
    (hA : DataW.TrodAll enc Tryd.prog W 0 (fun _ => true) true Tryd.f5.params.toList args.toList ds p)
    (hsh : W.ShapedOpen Tryd.prog) (hl : laidMet Tryd.prog Rows.opPartsRow.laid W) : Calls Tryd.prog 5 args W fun e W' => e = .returned (.bool true) ∧ Ext W W' := by
  rw [Tryd.params5] at hA hval
  obtain ⟨v0, d0, rfl, rfl, h0⟩ := trodAll_one hA
  obtain ⟨s, n, u, rfl, _, _, xs, h1, h2, _⟩ := arg_req (hval 0 _ v0 rfl rfl) h0
  exact opParts_any s n u xs W (gt_of hsh hl (by kernel_rfl)) h1 h2
end Go.Proofs.YtlcbllgmnbhphaaDoor
