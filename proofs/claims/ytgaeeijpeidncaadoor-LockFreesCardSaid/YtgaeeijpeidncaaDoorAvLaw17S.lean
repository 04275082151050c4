/- LockFrees: from the row's arguments to the walk. -/
import Derived.Test.YtgaeeijpeidncaaDoorAvLaw17R
import Derived.Test.YtgaeeijpeidncaaDoorAvFrame
namespace Go.Proofs.YtgaeeijpeidncaaDoor
open Go.ChangeShapes Go.WideShapes Go.ChangeAt Go.RowKit Av

theorem lockFrees_con {H : Type} {enc : TypeId × Value → H} (W : World) (base : Nat) (args : Array Value) (ds : List (DataW H)) (p : List MemPlace)
    (hval : ∀ (j : Nat) t v, Tryd.f7.params[j]? = some t → args[j]? = some v → Value.okWide Tryd.prog W .any base t v)
    (hA : DataW.TrodAll enc Tryd.prog W 0 (fun _ => true) true Tryd.f7.params.toList args.toList ds p)
    (hsh : W.ShapedOpen Tryd.prog) : Calls Tryd.prog 7 args W fun e W' => e = .returned (.bool true) ∧ Ext W W' := by
  rw [Tryd.params7] at hA hval
  obtain ⟨v0, v1, v2, d0, d1, d2, p0, p1, p2, rfl, rfl, rfl, h0, h1, h2⟩ := trodAll_three hA
  obtain ⟨xs, ha⟩ := arg_acts Tryd.underlying36 Tryd.underlying42 (by kernel_rfl) ⟨rfl, rfl⟩ ⟨rfl, rfl⟩ ⟨rfl, rfl⟩ Tryd.underlying3 Tryd.underlying2 Tryd.underlying22 Tryd.underlying9
    (by kernel_rfl) (by kernel_rfl) (by kernel_rfl) (by kernel_rfl) (hval 0 _ v0 rfl rfl) h0
  obtain ⟨who, rfl, _, _, _⟩ := open_int Tryd.underlying2 (hval 1 _ v1 rfl rfl) h1
  obtain ⟨b, hb, hsb⟩ := arg_strings Tryd.underlying22 Tryd.underlying9 (by kernel_rfl) (hval 2 _ v2 rfl rfl) h2
  exact lockFrees_any v0 v2 xs who b W (gl_of_shape hsh) ha hb hsb
end Go.Proofs.YtgaeeijpeidncaaDoor
