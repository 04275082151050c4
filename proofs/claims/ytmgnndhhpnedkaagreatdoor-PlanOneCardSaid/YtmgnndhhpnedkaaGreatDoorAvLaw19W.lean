/- From the rows' arguments to the walks: PlanOne. -/
import Derived.Test.YtmgnndhhpnedkaaGreatDoorAvLaw19D
import Derived.Test.YtmgnndhhpnedkaaGreatDoorAvFrameL
namespace Go.Proofs.YtmgnndhhpnedkaaGreatDoor
set_option maxRecDepth 100000
open Go.ChangeShapes Go.WideShapes Go.ChangeAt Go.RowKit Av

theorem gt_of {W : World} {laid : List (String × DataW Unit)} (hsh : W.ShapedOpen Tryz.prog) (h : laidMet Tryz.prog laid W) (hl : (laid.filter fun x => x.1 == "internal/strconv.uint64pow10") = [("internal/strconv.uint64pow10", Lib.tabData .u64 Lib.pow10Tab)]) : GT W :=
  ⟨gl_of_shape hsh, tab_of_laid h hl⟩
theorem planOne_con {H : Type} {enc : TypeId × Value → H} (W : World) (base : Nat) (args : Array Value) (ds : List (DataW H)) (p : List MemPlace)
    (hval : ∀ (j : Nat) t v, Tryz.f4.params[j]? = some t → args[j]? = some v → Value.okWide Tryz.prog W .any base t v)
    (hA : DataW.TrodAll enc Tryz.prog W 0 (fun _ => true) true Tryz.f4.params.toList args.toList ds p)
    (hsh : W.ShapedOpen Tryz.prog) (hl : laidMet Tryz.prog Rows.planOneRow.laid W) : Calls Tryz.prog 4 args W fun e W' => e = .returned (.bool true) ∧ Ext W W' := by
  rw [Tryz.params4] at hA hval
  obtain ⟨v0, v1, v2, d0, d1, d2, p0, p1, p2, rfl, rfl, rfl, h0, h1, h2⟩ := trodAll_three hA
  obtain ⟨sh, rfl⟩ := okWide_int Tryz.underlying3 (hval 0 _ v0 rfl rfl)
  obtain ⟨ms, hms, _⟩ := arg_ints Tryz.underlying22 Tryz.underlying3 (by kernel_rfl) (hval 1 _ v1 rfl rfl) h1
  obtain ⟨s, n, u, rfl, _, _, xs, b1, _, _⟩ := arg_req (hval 2 _ v2 rfl rfl) h2
  exact planOne_any sh s n v1 u ms xs W (gt_of hsh hl (by kernel_rfl)) hms b1
end Go.Proofs.YtmgnndhhpnedkaaGreatDoor
