/- Texts put together: AvTreeCon, AvLaw11T. -/
import Derived.Test.YtkpcmbgnaenbhaaGreatDoorAvG35
import Derived.Test.YtkpcmbgnaenbhaaGreatDoorAvG2
import Derived.Test.YtkpcmbgnaenbhaaGreatDoorAvG17
import Derived.Carry
import Derived.Test.YtkpcmbgnaenbhaaGreatDoorAvHLaw11H

/- Arguments of the tree's laws; tables. -/
namespace Go.Proofs.YtkpcmbgnaenbhaaGreatDoor
set_option maxRecDepth 100000
open Go.ChangeShapes Go.WideShapes Go.ChangeAt Go.RowKit Av

theorem gt_of {W : World} {laid : List (String × DataW Unit)} (hsh : W.ShapedOpen Tryz.prog) (h : laidMet Tryz.prog laid W) (hl : (laid.filter fun x => x.1 == "internal/strconv.uint64pow10") = [("internal/strconv.uint64pow10", Lib.tabData .u64 Lib.pow10Tab)]) : GT W :=
  ⟨gl_of_shape hsh, tab_of_laid h hl⟩
/-- An op that comes in as an argument. -/
theorem arg_op {H : Type} {enc : TypeId × Value → H} {W : World} {base : Nat} {r : Reach} {v : Value} {d : DataW H} {p : List MemPlace} (hv : Value.okWide Tryz.prog W r base 30 v) (h : DataW.Trod enc Tryz.prog W 0 (fun _ => true) true 30 v d p) :
    ∃ o : OpV, v = o.val ∧ (o.path.size ≤ maxLen ∧ o.data.size ≤ maxLen) ∧ Op64 o := by
  obtain ⟨cs, rfl, _⟩ := okWide_struct Tryz.underlying30 hv
  obtain ⟨fuel, h⟩ := h
  obtain ⟨o, hcs, h1, h2, h3⟩ := trod_op h
  obtain ⟨cs⟩ := cs
  simp only [Value.cells] at hcs
  subst hcs
  exact ⟨o, rfl, ⟨h1, h2⟩, h3⟩
end Go.Proofs.YtkpcmbgnaenbhaaGreatDoor

/- From the rows' arguments to the walks: TreeOwners. -/
namespace Go.Proofs.YtkpcmbgnaenbhaaGreatDoor
set_option maxRecDepth 100000
open Go.ChangeShapes Go.WideShapes Go.ChangeAt Go.RowKit Av

theorem treeOwners_con {H : Type} {enc : TypeId × Value → H} (W : World) (base : Nat) (args : Array Value) (ds : List (DataW H)) (p : List MemPlace)
    (hval : ∀ (j : Nat) t v, Tryz.f5.params[j]? = some t → args[j]? = some v → Value.okWide Tryz.prog W .any base t v)
    (hA : DataW.TrodAll enc Tryz.prog W 0 (fun _ => true) true Tryz.f5.params.toList args.toList ds p)
    (hsh : W.ShapedOpen Tryz.prog) (hl : laidMet Tryz.prog Rows.treeOwnersRow.laid W) : Calls Tryz.prog 5 args W fun e W' => e = .returned (.bool true) ∧ Ext W W' := by
  rw [Tryz.params5] at hA hval
  obtain ⟨v0, d0, rfl, rfl, h0⟩ := trodAll_one hA
  obtain ⟨xs, hx⟩ := arg_actsn (hval 0 _ v0 rfl rfl) h0
  exact treeOwners_any v0 xs W (gt_of hsh hl (by kernel_rfl)) hx
end Go.Proofs.YtkpcmbgnaenbhaaGreatDoor
