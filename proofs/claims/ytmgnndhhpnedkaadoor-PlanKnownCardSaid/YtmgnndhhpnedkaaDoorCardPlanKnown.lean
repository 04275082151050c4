/- The row and the card of 'PlanKnown': for every input the call returns true, and each argument reads as it did. -/
import Derived.Test.YtmgnndhhpnedkaaDoorAvFrameL
import Derived.Test.YtmgnndhhpnedkaaDoorAvLaw19X
namespace Go.Proofs.YtmgnndhhpnedkaaDoor
open Go.ChangeShapes Go.WideShapes Go.ChangeAt Go.RowKit Av

theorem planKnown_spec {H : Type} (ds : List (DataW H)) (h : ds.length = Tryd.f4.params.toList.length) : Rows.planKnownSpec.fn H ds = { results := [.lit (.bool true)], args := ds } := by
  rw [Tryd.params4] at h
  match ds, h with
  | [], _ => rfl

set_option maxRecDepth 100000 in
theorem planKnown_lifted (os : Os) (started : os.Started) (H : Type) (enc : TypeId × Value → H) :
    ReturnsInHanded {} Tryd.checked os 4 .any (fun w args => (Rows.planKnownSpec.pre enc Tryd.prog Tryd.f4 [] false w args ∧ laidMetH Tryd.prog Rows.planKnownRow.laid w) ∧ sizedMet enc Tryd.prog Tryd.f4 (OpenSpec.ofChange Rows.planKnownSpec) false w args)
      (Rows.planKnownSpec.post enc Tryd.prog Tryd.f4 false true false false) :=
  law_lifted_laid started (by kernel_rfl) Tryd.func4 rfl (by kernel_rfl) (by kernel_rfl) (by kernel_rfl) planKnown_spec
    (ChangeSpec.witness_shaped (enc := enc) (C := Tryd.checked) (os := os) (X := fun w _ => laidMetH Tryd.prog Rows.planKnownRow.laid w) false (World.laidAll Tryd.prog os Rows.planKnownRow.laid) #[] 8 (World.laidAll_os _ _ _)
      (World.shaped_of_ZipB (by kernel_rfl) (by kernel_rfl)) (by kernel_rfl) (by kernel_rfl) (by kernel_rfl)
      (by rw [MakeChecks.laidMetH_plain _ _ _ (by kernel_rfl)]; exact laidMet_laidAll _ (by kernel_rfl) (by kernel_rfl)))
    planKnown_con

theorem planKnown_row : Rows.PlanKnownSaid :=
  OpenClaim.holds_of_wide 4 Tryd.f4 rfl rfl rfl rfl rfl rfl rfl ⟨rfl, rfl, rfl, rfl, rfl⟩ rfl rfl rfl rfl rfl (by kernel_rfl) Tryd.func4 (by kernel_rfl)
    (of_decide_eq_true (by kernel_rfl)) (by unfold Func.isWrapper; first | (rw [if_pos (by decide +kernel)]; kernel_rfl) | (rw [if_neg (by decide +kernel)]; exact ⟨rfl, rfl⟩))
    (fun os started H enc _ => planKnown_lifted os started H enc)

theorem planKnown_named : Tryd.prog.funcNamed Rows.planKnownRow.func = some 4 := by kernel_rfl
theorem planKnown_card : Rows.PlanKnownCardSaid :=
  Claim7.holds_tied_plain_at .later [] [.data, .data, .data, .data, .pinned] true (true, "55d0a03a75f226cded2da887bb903e98b502f2df8ad533fa36fbc9e956e597d1") false planKnown_row (fun _ h => by cases h) (by kernel_rfl) (fun _ h => by cases h) planKnown_row_tie rfl ⟨rfl, rfl⟩ (by kernel_rfl) rfl
    (fun f fn hf hfn => by
      obtain rfl : f = 4 := Option.some.inj (planKnown_named.symm.trans hf) |>.symm
      obtain rfl : fn = Tryd.f4 := (Option.some.inj (Tryd.func4.symm.trans hfn)).symm
      exact ⟨by kernel_rfl, fun j t ht => by
        rw [Tryd.params4] at ht
        have hm : t ∈ ([] : List Nat) := by simpa using Array.mem_of_getElem? ht
        have hall : (([] : List Nat).all fun u => !Tryd.prog.wantsStandIn u) = true := by kernel_rfl
        exact (show Tryd.prog.wantsStandIn t = false by simpa using List.all_eq_true.1 hall t hm)⟩)
    (by kernel_rfl)
#print axioms planKnown_card
end Go.Proofs.YtmgnndhhpnedkaaDoor
