/- From the rows' arguments to the walks: OpTops. -/
import Derived.Test.YtlcbllgmnbhphaaGreatDoorAvLaw5D
import Derived.Test.YtlcbllgmnbhphaaGreatDoorAvLaw5Z
namespace Go.Proofs.YtlcbllgmnbhphaaGreatDoor
set_option maxRecDepth 100000
open Go.ChangeShapes Go.WideShapes Go.ChangeAt Go.RowKit Av
/-- Ops that come in as an argument. -/
theorem arg_ops {H : Type} {enc : TypeId × Value → H} {W : World} {base : Nat} {r : Reach} {v : Value} {d : DataW H} {p : List MemPlace} (hv : Value.okWide Tryz.prog W r base 29 v) (h : DataW.Trod enc Tryz.prog W 0 (fun _ => true) true 29 v d p) :
    ∃ xs : List OpV, OpsAt W v xs ∧ OpsSz xs ∧ ∀ o ∈ xs, Op64 o := by
  obtain ⟨a0, len, cap, rfl⟩ := okWide_slice Tryz.underlying29 hv
  obtain ⟨n, h⟩ := h
  obtain ⟨v', hcs, xs, h1, h2, h3⟩ := trod_ops h
  simp only [Value.cells, List.cons.injEq, and_true] at hcs
  subst hcs
  exact ⟨xs, h1, h2, h3⟩
theorem opTops_con {H : Type} {enc : TypeId × Value → H} (W : World) (base : Nat) (args : Array Value) (ds : List (DataW H)) (p : List MemPlace)
    (hval : ∀ (j : Nat) t v, Tryz.f5.params[j]? = some t → args[j]? = some v → Value.okWide Tryz.prog W .any base t v)
    (hA : DataW.TrodAll enc Tryz.prog W 0 (fun _ => true) true Tryz.f5.params.toList args.toList ds p)
    (hsh : W.ShapedOpen Tryz.prog) (hl : laidMet Tryz.prog Rows.opTopsRow.laid W) : Calls Tryz.prog 5 args W fun e W' => e = .returned (.bool true) ∧ Ext W W' := by
  rw [Tryz.params5] at hA hval
  obtain ⟨v0, v1, d0, d1, p0, p1, rfl, rfl, rfl, h0, h1⟩ := trodAll_two hA
  obtain ⟨xs, a1, a2, _⟩ := arg_ops (hval 0 _ v0 rfl rfl) h0
  obtain ⟨ys, b1, b2, _⟩ := arg_ops (hval 1 _ v1 rfl rfl) h1
  exact opTops_any v0 v1 xs ys W (gt_of hsh hl (by kernel_rfl)) a1 a2 b1 b2
end Go.Proofs.YtlcbllgmnbhphaaGreatDoor
