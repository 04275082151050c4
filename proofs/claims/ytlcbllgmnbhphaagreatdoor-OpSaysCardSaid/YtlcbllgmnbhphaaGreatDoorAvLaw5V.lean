/- From the rows' arguments to the walks: OpSays. -/
import Derived.Test.YtlcbllgmnbhphaaGreatDoorAvLaw5E
import Derived.Test.YtlcbllgmnbhphaaGreatDoorAvLaw5W
namespace Go.Proofs.YtlcbllgmnbhphaaGreatDoor
set_option maxRecDepth 100000
open Go.ChangeShapes Go.WideShapes Go.ChangeAt Go.RowKit Av
/-- An op that comes in as an argument. -/
theorem arg_op {H : Type} {enc : TypeId × Value → H} {W : World} {base : Nat} {r : Reach} {v : Value} {d : DataW H} {p : List MemPlace} (hv : Value.okWide Tryz.prog W r base 24 v) (h : DataW.Trod enc Tryz.prog W 0 (fun _ => true) true 24 v d p) :
    ∃ o : OpV, v = o.val ∧ (o.path.size ≤ maxLen ∧ o.data.size ≤ maxLen) ∧ Op64 o := by
  obtain ⟨cs, rfl, _⟩ := okWide_struct Tryz.underlying24 hv
  obtain ⟨fuel, h⟩ := h
  obtain ⟨o, hcs, h1, h2, h3⟩ := trod_op h
  obtain ⟨cs⟩ := cs
  simp only [Value.cells] at hcs
  subst hcs
  exact ⟨o, rfl, ⟨h1, h2⟩, h3⟩
theorem opSays_con {H : Type} {enc : TypeId × Value → H} (W : World) (base : Nat) (args : Array Value) (ds : List (DataW H)) (p : List MemPlace)
    (hval : ∀ (j : Nat) t v, Tryz.f4.params[j]? = some t → args[j]? = some v → Value.okWide Tryz.prog W .any base t v)
    (hA : DataW.TrodAll enc Tryz.prog W 0 (fun _ => true) true Tryz.f4.params.toList args.toList ds p)
    (hsh : W.ShapedOpen Tryz.prog) (hl : laidMet Tryz.prog Rows.opSaysRow.laid W) : Calls Tryz.prog 4 args W fun e W' => e = .returned (.bool true) ∧ Ext W W' := by
  rw [Tryz.params4] at hA hval
  obtain ⟨v0, v1, v2, d0, d1, d2, p0, p1, p2, rfl, rfl, rfl, h0, h1, h2⟩ := trodAll_three hA
  obtain ⟨o, rfl, a1, _⟩ := arg_op (hval 0 _ v0 rfl rfl) h0
  obtain ⟨s, n, u, rfl, _, _, xs, b1, b2, _⟩ := arg_req (hval 1 _ v1 rfl rfl) h1
  obtain ⟨s', n', u', rfl, _, _, ys, c1, c2, _⟩ := arg_req (hval 2 _ v2 rfl rfl) h2
  exact opSays_any o s n s' n' u u' xs ys W (gt_of hsh hl (by kernel_rfl)) a1 b1 b2 c1 c2
end Go.Proofs.YtlcbllgmnbhphaaGreatDoor
