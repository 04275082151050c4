/- Texts put together: AvTreeCon, AvLaw11Q. -/
import Derived.Test.YtdagikbdpeblhaaGreatDoorAvG39
import Derived.Test.YtdagikbdpeblhaaGreatDoorAvG1
import Derived.Test.YtdagikbdpeblhaaGreatDoorAvG10
import Derived.Carry
import Derived.Test.YtdagikbdpeblhaaGreatDoorAvHLaw11P

/- Arguments of the tree's laws; tables. -/
namespace Go.Proofs.YtdagikbdpeblhaaGreatDoor
set_option maxRecDepth 100000
open Go.ChangeShapes Go.WideShapes Go.ChangeAt Go.RowKit Av

theorem gt_of {W : World} {laid : List (String × DataW Unit)} (hsh : W.ShapedOpen Tryz.prog) (h : laidMet Tryz.prog laid W) (hl : (laid.filter fun x => x.1 == "internal/strconv.uint64pow10") = [("internal/strconv.uint64pow10", Lib.tabData .u64 Lib.pow10Tab)]) : GT W :=
  ⟨gl_of_shape hsh, tab_of_laid h hl⟩
end Go.Proofs.YtdagikbdpeblhaaGreatDoor

/- From the rows' arguments to the walks: TreePlays. -/
namespace Go.Proofs.YtdagikbdpeblhaaGreatDoor
set_option maxRecDepth 100000
open Go.ChangeShapes Go.WideShapes Go.ChangeAt Go.RowKit Av

theorem treePlays_con {H : Type} {enc : TypeId × Value → H} (W : World) (base : Nat) (args : Array Value) (ds : List (DataW H)) (p : List MemPlace)
    (hval : ∀ (j : Nat) t v, Tryz.f3.params[j]? = some t → args[j]? = some v → Value.okWide Tryz.prog W .any base t v)
    (hA : DataW.TrodAll enc Tryz.prog W 0 (fun _ => true) true Tryz.f3.params.toList args.toList ds p)
    (hsh : W.ShapedOpen Tryz.prog) (hl : laidMet Tryz.prog Rows.treePlaysRow.laid W) : Calls Tryz.prog 3 args W fun e W' => e = .returned (.bool true) ∧ Ext W W' := by
  rw [Tryz.params3] at hA hval
  obtain ⟨v0, v1, d0, d1, p0, p1, rfl, rfl, rfl, h0, h1⟩ := trodAll_two hA
  obtain ⟨n, rfl⟩ := okWide_int Tryz.underlying3 (hval 0 _ v0 rfl rfl)
  obtain ⟨xs, hx⟩ := arg_actsn (hval 1 _ v1 rfl rfl) h1
  exact treePlays_any n v1 xs W (gt_of hsh hl (by kernel_rfl)) hx
end Go.Proofs.YtdagikbdpeblhaaGreatDoor
