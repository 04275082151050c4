/- Texts put together: AvTreeCon, AvLaw11V. -/
import Derived.Test.YtjapjpigpakejaaGreatDoorAvG39
import Derived.Test.YtjapjpigpakejaaGreatDoorAvG2
import Derived.Test.YtjapjpigpakejaaGreatDoorAvHWPathC
import Derived.Carry
import Derived.Test.YtjapjpigpakejaaGreatDoorAvHLaw11E

/- Arguments of the tree's laws; tables. -/
namespace Go.Proofs.YtjapjpigpakejaaGreatDoor
set_option maxRecDepth 100000
open Go.ChangeShapes Go.WideShapes Go.ChangeAt Go.RowKit Av

theorem gt_of {W : World} {laid : List (String × DataW Unit)} (hsh : W.ShapedOpen Tryz.prog) (h : laidMet Tryz.prog laid W) (hl : (laid.filter fun x => x.1 == "internal/strconv.uint64pow10") = [("internal/strconv.uint64pow10", Lib.tabData .u64 Lib.pow10Tab)]) : GT W :=
  ⟨gl_of_shape hsh, tab_of_laid h hl⟩
/-- An op that comes in as an argument. -/
theorem arg_op {H : Type} {enc : TypeId × Value → H} {W : World} {base : Nat} {r : Reach} {v : Value} {d : DataW H} {p : List MemPlace} (hv : Value.okWide Tryz.prog W r base 30 v) (h : DataW.Trod enc Tryz.prog W 0 (fun _ => true) true 30 v d p) :
    ∃ o : OpV, v = o.val ∧ (o.path.size ≤ maxLen ∧ o.data.size ≤ maxLen) ∧ Op64 o := by
  obtain ⟨cs, rfl, _⟩ := okWide_struct Tryz.underlying30 hv
  obtain ⟨fuel, h⟩ := h
  obtain ⟨o, hcs, h1, h2, h3⟩ := trod_op h
  obtain ⟨cs⟩ := cs
  simp only [Value.cells] at hcs
  subst hcs
  exact ⟨o, rfl, ⟨h1, h2⟩, h3⟩
end Go.Proofs.YtjapjpigpakejaaGreatDoor

/- From the rows' arguments to the walks: TreeSound. -/
namespace Go.Proofs.YtjapjpigpakejaaGreatDoor
set_option maxRecDepth 100000
open Go.ChangeShapes Go.WideShapes Go.ChangeAt Go.RowKit Av

theorem treeSound_con {H : Type} {enc : TypeId × Value → H} (W : World) (base : Nat) (args : Array Value) (ds : List (DataW H)) (p : List MemPlace)
    (hval : ∀ (j : Nat) t v, Tryz.f3.params[j]? = some t → args[j]? = some v → Value.okWide Tryz.prog W .any base t v)
    (hA : DataW.TrodAll enc Tryz.prog W 0 (fun _ => true) true Tryz.f3.params.toList args.toList ds p)
    (hsh : W.ShapedOpen Tryz.prog) (hl : laidMet Tryz.prog Rows.treeSoundRow.laid W) : Calls Tryz.prog 3 args W fun e W' => e = .returned (.bool true) ∧ Ext W W' := by
  rw [Tryz.params3] at hA hval
  obtain ⟨v0, v1, d0, d1, p0, p1, rfl, rfl, rfl, h0, h1⟩ := trodAll_two hA
  obtain ⟨n, rfl⟩ := okWide_int Tryz.underlying3 (hval 0 _ v0 rfl rfl)
  obtain ⟨xs, hx⟩ := arg_actsn (hval 1 _ v1 rfl rfl) h1
  exact treeSound_any n v1 xs W (gt_of hsh hl (by kernel_rfl)) hx
end Go.Proofs.YtjapjpigpakejaaGreatDoor
