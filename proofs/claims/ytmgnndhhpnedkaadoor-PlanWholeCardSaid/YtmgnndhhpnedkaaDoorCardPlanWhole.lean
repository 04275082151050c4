/- The row and the card of 'PlanWhole': for every input the call returns true, and each argument reads as it did. -/
import Derived.Test.YtmgnndhhpnedkaaDoorAvFrameL
import Derived.Test.YtmgnndhhpnedkaaDoorAvLaw19Y
namespace Go.Proofs.YtmgnndhhpnedkaaDoor
open Go.ChangeShapes Go.WideShapes Go.ChangeAt Go.RowKit Av

theorem planWhole_spec {H : Type} (ds : List (DataW H)) (h : ds.length = Tryd.f5.params.toList.length) : Rows.planWholeSpec.fn H ds = { results := [.lit (.bool true)], args := ds } := by
  rw [Tryd.params5] at h
  match ds, h with
  | [d1, d2, d3], _ => rfl

set_option maxRecDepth 100000 in
theorem planWhole_lifted (os : Os) (started : os.Started) (H : Type) (enc : TypeId × Value → H) :
    ReturnsInHanded {} Tryd.checked os 5 .any (fun w args => (Rows.planWholeSpec.pre enc Tryd.prog Tryd.f5 [] false w args ∧ laidMetH Tryd.prog Rows.planWholeRow.laid w) ∧ sizedMet enc Tryd.prog Tryd.f5 (OpenSpec.ofChange Rows.planWholeSpec) false w args)
      (Rows.planWholeSpec.post enc Tryd.prog Tryd.f5 false true false false) :=
  law_lifted_laid started (by kernel_rfl) Tryd.func5 rfl (by kernel_rfl) (by kernel_rfl) (by kernel_rfl) planWhole_spec
    (ChangeSpec.witness_shaped (enc := enc) (C := Tryd.checked) (os := os) (X := fun w _ => laidMetH Tryd.prog Rows.planWholeRow.laid w) false (World.laidAll Tryd.prog os Rows.planWholeRow.laid) #[.int .i64 0, .slice none 0 0, .agg #[.int .i64 0, .int .i64 0, .slice none 0 0]] 8 (World.laidAll_os _ _ _)
      (World.shaped_of_ZipB (by kernel_rfl) (by kernel_rfl)) (by kernel_rfl) (by kernel_rfl) (by kernel_rfl)
      (by rw [MakeChecks.laidMetH_plain _ _ _ (by kernel_rfl)]; exact laidMet_laidAll _ (by kernel_rfl) (by kernel_rfl)))
    planWhole_con

theorem planWhole_row : Rows.PlanWholeSaid :=
  OpenClaim.holds_of_wide 5 Tryd.f5 rfl rfl rfl rfl rfl rfl rfl ⟨rfl, rfl, rfl, rfl, rfl⟩ rfl rfl rfl rfl rfl (by kernel_rfl) Tryd.func5 (by kernel_rfl)
    (of_decide_eq_true (by kernel_rfl)) (by unfold Func.isWrapper; first | (rw [if_pos (by decide +kernel)]; kernel_rfl) | (rw [if_neg (by decide +kernel)]; exact ⟨rfl, rfl⟩))
    (fun os started H enc _ => planWhole_lifted os started H enc)

theorem planWhole_named : Tryd.prog.funcNamed Rows.planWholeRow.func = some 5 := by kernel_rfl
theorem planWhole_card : Rows.PlanWholeCardSaid :=
  Claim7.holds_tied_plain_at .later [] [.data, .data, .data, .data, .pinned] true (true, "55d0a03a75f226cded2da887bb903e98b502f2df8ad533fa36fbc9e956e597d1") false planWhole_row (fun _ h => by cases h) (by kernel_rfl) (fun _ h => by cases h) planWhole_row_tie rfl ⟨rfl, rfl⟩ (by kernel_rfl) rfl
    (fun f fn hf hfn => by
      obtain rfl : f = 5 := Option.some.inj (planWhole_named.symm.trans hf) |>.symm
      obtain rfl : fn = Tryd.f5 := (Option.some.inj (Tryd.func5.symm.trans hfn)).symm
      exact ⟨by kernel_rfl, fun j t ht => by
        rw [Tryd.params5] at ht
        have hm : t ∈ ([3, 22, 25] : List Nat) := by simpa using Array.mem_of_getElem? ht
        have hall : (([3, 22, 25] : List Nat).all fun u => !Tryd.prog.wantsStandIn u) = true := by kernel_rfl
        exact (show Tryd.prog.wantsStandIn t = false by simpa using List.all_eq_true.1 hall t hm)⟩)
    (by kernel_rfl)
#print axioms planWhole_card
end Go.Proofs.YtmgnndhhpnedkaaDoor
