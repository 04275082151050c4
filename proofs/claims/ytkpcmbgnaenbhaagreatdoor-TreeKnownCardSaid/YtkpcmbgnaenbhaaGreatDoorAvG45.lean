/- Texts put together: AvTreeCon, AvLaw11R. -/
import Derived.Test.YtkpcmbgnaenbhaaGreatDoorAvG35
import Derived.Test.YtkpcmbgnaenbhaaGreatDoorAvG2
import Derived.Test.YtkpcmbgnaenbhaaGreatDoorAvG17
import Derived.Carry
import Derived.Test.YtkpcmbgnaenbhaaGreatDoorAvHLaw11J

/- Arguments of the tree's laws; tables. -/
namespace Go.Proofs.YtkpcmbgnaenbhaaGreatDoor
set_option maxRecDepth 100000
open Go.ChangeShapes Go.WideShapes Go.ChangeAt Go.RowKit Av

theorem gt_of {W : World} {laid : List (String × DataW Unit)} (hsh : W.ShapedOpen Tryz.prog) (h : laidMet Tryz.prog laid W) (hl : (laid.filter fun x => x.1 == "internal/strconv.uint64pow10") = [("internal/strconv.uint64pow10", Lib.tabData .u64 Lib.pow10Tab)]) : GT W :=
  ⟨gl_of_shape hsh, tab_of_laid h hl⟩
/-- An op that comes in as an argument. -/
theorem arg_op {H : Type} {enc : TypeId × Value → H} {W : World} {base : Nat} {r : Reach} {v : Value} {d : DataW H} {p : List MemPlace} (hv : Value.okWide Tryz.prog W r base 30 v) (h : DataW.Trod enc Tryz.prog W 0 (fun _ => true) true 30 v d p) :
    ∃ o : OpV, v = o.val ∧ (o.path.size ≤ maxLen ∧ o.data.size ≤ maxLen) ∧ Op64 o := by
  obtain ⟨cs, rfl, _⟩ := okWide_struct Tryz.underlying30 hv
  obtain ⟨fuel, h⟩ := h
  obtain ⟨o, hcs, h1, h2, h3⟩ := trod_op h
  obtain ⟨cs⟩ := cs
  simp only [Value.cells] at hcs
  subst hcs
  exact ⟨o, rfl, ⟨h1, h2⟩, h3⟩
end Go.Proofs.YtkpcmbgnaenbhaaGreatDoor

/- From the rows' arguments to the walks: TreeKnown. -/
namespace Go.Proofs.YtkpcmbgnaenbhaaGreatDoor
set_option maxRecDepth 100000
open Go.ChangeShapes Go.WideShapes Go.ChangeAt Go.RowKit Av

theorem treeKnown_con {H : Type} {enc : TypeId × Value → H} (W : World) (base : Nat) (args : Array Value) (ds : List (DataW H)) (p : List MemPlace)
    (_hval : ∀ (j : Nat) t v, Tryz.f7.params[j]? = some t → args[j]? = some v → Value.okWide Tryz.prog W .any base t v)
    (hA : DataW.TrodAll enc Tryz.prog W 0 (fun _ => true) true Tryz.f7.params.toList args.toList ds p)
    (hsh : W.ShapedOpen Tryz.prog) (hl : laidMet Tryz.prog Rows.treeKnownRow.laid W) : Calls Tryz.prog 7 args W fun e W' => e = .returned (.bool true) ∧ Ext W W' := by
  rw [Tryz.params7] at hA
  obtain ⟨rfl, rfl, rfl⟩ := trodAll_none hA
  exact treeKnown_any W (gt_of hsh hl (by kernel_rfl))
end Go.Proofs.YtkpcmbgnaenbhaaGreatDoor
