/- The row and the card of 'PlanSays': for every input the call returns true, and each argument reads as it did. -/
import Derived.Test.YtmgnndhhpnedkaaGreatDoorAvFrameL
import Derived.Test.YtmgnndhhpnedkaaGreatDoorAvLaw19E
namespace Go.Proofs.YtmgnndhhpnedkaaGreatDoor
open Go.ChangeShapes Go.WideShapes Go.ChangeAt Go.RowKit Av

theorem planSays_spec {H : Type} (ds : List (DataW H)) (h : ds.length = Tryz.f3.params.toList.length) : Rows.planSaysSpec.fn H ds = { results := [.lit (.bool true)], args := ds } := by
  rw [Tryz.params3] at h
  match ds, h with
  | [d1, d2, d3, d4, d5], _ => rfl

set_option maxRecDepth 100000 in
theorem planSays_lifted (os : Os) (started : os.Started) (H : Type) (enc : TypeId × Value → H) :
    ReturnsInHanded {} Tryz.checked os 3 .any (fun w args => (Rows.planSaysSpec.pre enc Tryz.prog Tryz.f3 [] false w args ∧ laidMetH Tryz.prog Rows.planSaysRow.laid w) ∧ sizedMet enc Tryz.prog Tryz.f3 (OpenSpec.ofChange Rows.planSaysSpec) false w args)
      (Rows.planSaysSpec.post enc Tryz.prog Tryz.f3 false true false false) :=
  law_lifted_laid started (by kernel_rfl) Tryz.func3 rfl (by kernel_rfl) (by kernel_rfl) (by kernel_rfl) planSays_spec
    (ChangeSpec.witness_shaped (enc := enc) (C := Tryz.checked) (os := os) (X := fun w _ => laidMetH Tryz.prog Rows.planSaysRow.laid w) false (World.laidAll Tryz.prog os Rows.planSaysRow.laid) #[.int .i64 0, .slice none 0 0, .agg #[.int .i64 0, .int .i64 0, .slice none 0 0], .slice none 0 0, .bool false] 8 (World.laidAll_os _ _ _)
      (World.shaped_of_ZipB (by kernel_rfl) (by kernel_rfl)) (by kernel_rfl) (by kernel_rfl) (by kernel_rfl)
      (by rw [MakeChecks.laidMetH_plain _ _ _ (by kernel_rfl)]; exact laidMet_laidAll _ (by kernel_rfl) (by kernel_rfl)))
    planSays_con

theorem planSays_row : Rows.PlanSaysSaid :=
  OpenClaim.holds_of_wide 3 Tryz.f3 rfl rfl rfl rfl rfl rfl rfl ⟨rfl, rfl, rfl, rfl, rfl⟩ rfl rfl rfl rfl rfl (by kernel_rfl) Tryz.func3 (by kernel_rfl)
    (of_decide_eq_true (by kernel_rfl)) (by unfold Func.isWrapper; first | (rw [if_pos (by decide +kernel)]; kernel_rfl) | (rw [if_neg (by decide +kernel)]; exact ⟨rfl, rfl⟩))
    (fun os started H enc _ => planSays_lifted os started H enc)

theorem planSays_named : Tryz.prog.funcNamed Rows.planSaysRow.func = some 3 := by kernel_rfl
theorem planSays_card : Rows.PlanSaysCardSaid :=
  Claim7.holds_tied_plain_at .later [] [.data, .data, .data, .data, .pinned] true (true, "1bdd2492f6e075edced07826a940e1af0d75323a06f8fccc55fd54bdc4966c3b") false planSays_row (fun _ h => by cases h) (by kernel_rfl) (fun _ h => by cases h) planSays_row_tie rfl ⟨rfl, rfl⟩ (by kernel_rfl) rfl
    (fun f fn hf hfn => by
      obtain rfl : f = 3 := Option.some.inj (planSays_named.symm.trans hf) |>.symm
      obtain rfl : fn = Tryz.f3 := (Option.some.inj (Tryz.func3.symm.trans hfn)).symm
      exact ⟨by kernel_rfl, fun j t ht => by
        rw [Tryz.params3] at ht
        have hm : t ∈ ([3, 22, 25, 26, 4] : List Nat) := by simpa using Array.mem_of_getElem? ht
        have hall : (([3, 22, 25, 26, 4] : List Nat).all fun u => !Tryz.prog.wantsStandIn u) = true := by kernel_rfl
        exact (show Tryz.prog.wantsStandIn t = false by simpa using List.all_eq_true.1 hall t hm)⟩)
    (by kernel_rfl)
#print axioms planSays_card
end Go.Proofs.YtmgnndhhpnedkaaGreatDoor
