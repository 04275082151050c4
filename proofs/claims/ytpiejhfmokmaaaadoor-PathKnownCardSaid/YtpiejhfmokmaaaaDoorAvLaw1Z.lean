/- From the rows' arguments to the walks: PathApart. -/
import Derived.Test.YtpiejhfmokmaaaaDoorAvLaw1A
import Derived.Test.YtpiejhfmokmaaaaDoorAvFrameL
namespace Go.Proofs.YtpiejhfmokmaaaaDoor
open Go.ChangeShapes Go.WideShapes Go.ChangeAt Go.RowKit Av

theorem gt_of {W : World} {laid : List (String × DataW Unit)} (hsh : W.ShapedOpen Tryd.prog) (h : laidMet Tryd.prog laid W) (hl : (laid.filter fun x => x.1 == "internal/strconv.uint64pow10") = [("internal/strconv.uint64pow10", Lib.tabData .u64 Lib.pow10Tab)]) : GT W :=
  ⟨gl_of_shape hsh, tab_of_laid h hl⟩

theorem pathApart_con {H : Type} {enc : TypeId × Value → H} (W : World) (base : Nat) (args : Array Value) (ds : List (DataW H)) (p : List MemPlace)
    (hval : ∀ (j : Nat) t v, Tryd.f7.params[j]? = some t → args[j]? = some v → Value.okWide Tryd.prog W .any base t v)
    (hA : DataW.TrodAll enc Tryd.prog W 0 (fun _ => true) true Tryd.f7.params.toList args.toList ds p)
    (hsh : W.ShapedOpen Tryd.prog) (hl : laidMet Tryd.prog Rows.pathApartRow.laid W) : Calls Tryd.prog 7 args W fun e W' => e = .returned (.bool true) ∧ Ext W W' := by
  rw [Tryd.params7] at hA hval
  obtain ⟨v0, v1, d0, d1, p0, p1, rfl, rfl, rfl, h0, h1⟩ := trodAll_two hA
  obtain ⟨s0, rfl⟩ := okWide_string Tryd.underlying9 (hval 0 _ v0 rfl rfl)
  obtain ⟨s1, rfl⟩ := okWide_string Tryd.underlying9 (hval 1 _ v1 rfl rfl)
  exact pathApart_any s0 s1 W (gt_of hsh hl (by kernel_rfl))
end Go.Proofs.YtpiejhfmokmaaaaDoor
