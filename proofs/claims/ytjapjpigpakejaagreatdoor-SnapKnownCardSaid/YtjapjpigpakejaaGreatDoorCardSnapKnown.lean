/- The row and the card of 'SnapKnown': for every input the call returns true, and each argument reads as it did. -/
import Derived.Test.YtjapjpigpakejaaGreatDoorAvG2
import Derived.Test.YtjapjpigpakejaaGreatDoorAvG44
namespace Go.Proofs.YtjapjpigpakejaaGreatDoor
open Go.ChangeShapes Go.WideShapes Go.ChangeAt Go.RowKit Av

theorem snapKnown_spec {H : Type} (ds : List (DataW H)) (h : ds.length = Tryz.f5.params.toList.length) : Rows.snapKnownSpec.fn H ds = { results := [.lit (.bool true)], args := ds } := by
  rw [Tryz.params5] at h
  match ds, h with
  | [], _ => rfl

set_option maxRecDepth 100000 in
theorem snapKnown_lifted (os : Os) (started : os.Started) (H : Type) (enc : TypeId × Value → H) :
    ReturnsInHanded {} Tryz.checked os 5 .any (fun w args => (Rows.snapKnownSpec.pre enc Tryz.prog Tryz.f5 [] false w args ∧ laidMetH Tryz.prog Rows.snapKnownRow.laid w) ∧ sizedMet enc Tryz.prog Tryz.f5 (OpenSpec.ofChange Rows.snapKnownSpec) false w args)
      (Rows.snapKnownSpec.post enc Tryz.prog Tryz.f5 false true false false) :=
  law_lifted_laid started (by kernel_rfl) Tryz.func5 rfl (by kernel_rfl) (by kernel_rfl) (by kernel_rfl) snapKnown_spec
    (ChangeSpec.witness_shaped (enc := enc) (C := Tryz.checked) (os := os) (X := fun w _ => laidMetH Tryz.prog Rows.snapKnownRow.laid w) false (World.laidAll Tryz.prog os Rows.snapKnownRow.laid) #[] 8 (World.laidAll_os _ _ _)
      (World.shaped_of_ZipB (by kernel_rfl) (by kernel_rfl)) (by kernel_rfl) (by kernel_rfl) (by kernel_rfl)
      (by rw [MakeChecks.laidMetH_plain _ _ _ (by kernel_rfl)]; exact laidMet_laidAll _ (by kernel_rfl) (by kernel_rfl)))
    snapKnown_con

theorem snapKnown_row : Rows.SnapKnownSaid :=
  OpenClaim.holds_of_wide 5 Tryz.f5 rfl rfl rfl rfl rfl rfl rfl ⟨rfl, rfl, rfl, rfl, rfl⟩ rfl rfl rfl rfl rfl (by kernel_rfl) Tryz.func5 (by kernel_rfl)
    (of_decide_eq_true (by kernel_rfl)) (by unfold Func.isWrapper; first | (rw [if_pos (by decide +kernel)]; kernel_rfl) | (rw [if_neg (by decide +kernel)]; exact ⟨rfl, rfl⟩))
    (fun os started H enc _ => snapKnown_lifted os started H enc)

theorem snapKnown_named : Tryz.prog.funcNamed Rows.snapKnownRow.func = some 5 := by kernel_rfl
theorem snapKnown_card : Rows.SnapKnownCardSaid :=
  Claim7.holds_tied_plain_at .later [] [.data, .data, .data, .data, .pinned] true (true, "545bcd7269defd682c6a0d8c5bc1720cfba667f8ddad1cd93fb8d476bb43a39c") false snapKnown_row (fun _ h => by cases h) (by kernel_rfl) (fun _ h => by cases h) snapKnown_row_tie rfl ⟨rfl, rfl⟩ (by kernel_rfl) rfl
    (fun f fn hf hfn => by
      obtain rfl : f = 5 := Option.some.inj (snapKnown_named.symm.trans hf) |>.symm
      obtain rfl : fn = Tryz.f5 := (Option.some.inj (Tryz.func5.symm.trans hfn)).symm
      exact ⟨by kernel_rfl, fun j t ht => by
        rw [Tryz.params5] at ht
        have hm : t ∈ ([] : List Nat) := by simpa using Array.mem_of_getElem? ht
        have hall : (([] : List Nat).all fun u => !Tryz.prog.wantsStandIn u) = true := by kernel_rfl
        exact (show Tryz.prog.wantsStandIn t = false by simpa using List.all_eq_true.1 hall t hm)⟩)
    (by kernel_rfl)
#print axioms snapKnown_card
end Go.Proofs.YtjapjpigpakejaaGreatDoor
