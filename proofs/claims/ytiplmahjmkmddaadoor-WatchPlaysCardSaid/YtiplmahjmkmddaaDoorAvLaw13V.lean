/- WatchPlays: from the row's arguments to the walk. -/
import Derived.Test.YtiplmahjmkmddaaDoorAvLaw13F
import Derived.Test.YtiplmahjmkmddaaDoorAvFrame
namespace Go.Proofs.YtiplmahjmkmddaaDoor
set_option maxRecDepth 100000
open Go.ChangeShapes Go.WideShapes Go.ChangeAt Go.RowKit Av

theorem watchPlays_con {H : Type} {enc : TypeId × Value → H} (W : World) (base : Nat) (args : Array Value) (ds : List (DataW H)) (p : List MemPlace)
    (hval : ∀ (j : Nat) t v, Tryd.f6.params[j]? = some t → args[j]? = some v → Value.okWide Tryd.prog W .any base t v)
    (hA : DataW.TrodAll enc Tryd.prog W 0 (fun _ => true) true Tryd.f6.params.toList args.toList ds p)
    (hsh : W.ShapedOpen Tryd.prog) : Calls Tryd.prog 6 args W fun e W' => e = .returned (.bool true) ∧ Ext W W' := by
  rw [Tryd.params6] at hA hval
  obtain ⟨v0, v1, d0, d1, p0, p1, rfl, rfl, rfl, _, h1⟩ := trodAll_two hA
  obtain ⟨n, rfl⟩ := okWide_int Tryd.underlying3 (hval 0 _ v0 rfl rfl)
  obtain ⟨xs, ha⟩ := arg_wacts (hval 1 _ v1 rfl rfl) h1
  by_cases h : n < 1 ∨ 1000 < n
  · exact watchPlays_bad n v1 W (gl_of_shape hsh) h
  · obtain ⟨k, rfl⟩ : ∃ k : Nat, n = (k : Int) := ⟨n.toNat, by omega⟩
    exact watchPlays_in k v1 xs W (gl_of_shape hsh) ha (by omega) (by omega)
end Go.Proofs.YtiplmahjmkmddaaDoor
