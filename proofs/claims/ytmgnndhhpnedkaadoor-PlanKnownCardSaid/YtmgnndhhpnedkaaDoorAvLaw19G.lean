/- The laid table, met. -/
import Derived.Test.YtmgnndhhpnedkaaDoorAvFrameL
import Derived.Test.YtmgnndhhpnedkaaDoorAvModel
namespace Go.Proofs.YtmgnndhhpnedkaaDoor
set_option maxRecDepth 100000
open Go.ChangeShapes Go.WideShapes Go.ChangeAt Go.RowKit Av

theorem gt_of {W : World} {laid : List (String × DataW Unit)} (hsh : W.ShapedOpen Tryd.prog) (h : laidMet Tryd.prog laid W) (hl : (laid.filter fun x => x.1 == "internal/strconv.uint64pow10") = [("internal/strconv.uint64pow10", Lib.tabData .u64 Lib.pow10Tab)]) : GT W :=
  ⟨gl_of_shape hsh, tab_of_laid h hl⟩
end Go.Proofs.YtmgnndhhpnedkaaDoor
