/- From the rows' arguments to the walks: TreeKids. -/
import Derived.Test.YtkpcmbgnaenbhaaDoorAvLaw11D
import Derived.Test.YtkpcmbgnaenbhaaDoorAvFrameL
import Derived.Carry
namespace Go.Proofs.YtkpcmbgnaenbhaaDoor
set_option maxRecDepth 100000
open Go.ChangeShapes Go.WideShapes Go.ChangeAt Go.RowKit Av

theorem gt_of {W : World} {laid : List (String × DataW Unit)} (hsh : W.ShapedOpen Tryd.prog) (h : laidMet Tryd.prog laid W) (hl : (laid.filter fun x => x.1 == "internal/strconv.uint64pow10") = [("internal/strconv.uint64pow10", Lib.tabData .u64 Lib.pow10Tab)]) : GT W :=
  ⟨gl_of_shape hsh, tab_of_laid h hl⟩
theorem treeKids_con {H : Type} {enc : TypeId × Value → H} (W : World) (base : Nat) (args : Array Value) (ds : List (DataW H)) (p : List MemPlace)
    (hval : ∀ (j : Nat) t v, Tryd.f5.params[j]? = some t → args[j]? = some v → Value.okWide Tryd.prog W .any base t v)
    (hA : DataW.TrodAll enc Tryd.prog W 0 (fun _ => true) true Tryd.f5.params.toList args.toList ds p)
    (hsh : W.ShapedOpen Tryd.prog) (hl : laidMet Tryd.prog Rows.treeKidsRow.laid W) : Calls Tryd.prog 5 args W fun e W' => e = .returned (.bool true) ∧ Ext W W' := by
  rw [Tryd.params5] at hA hval
  obtain ⟨v0, d0, rfl, rfl, h0⟩ := trodAll_one hA
  obtain ⟨bs, hbs⟩ := arg_bools Tryd.underlying22 Tryd.underlying4 (by kernel_rfl) (hval 0 _ v0 rfl rfl) h0
  exact treeKids_any v0 bs W (gt_of hsh hl (by kernel_rfl)) hbs
end Go.Proofs.YtkpcmbgnaenbhaaDoor
