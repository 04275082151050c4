/- The row and the card of 'TreeOwners': for every input the call returns true, and each argument reads as it did. -/
import Derived.Test.YtkpcmbgnaenbhaaGreatDoorAvG2
import Derived.Test.YtkpcmbgnaenbhaaGreatDoorAvG45
namespace Go.Proofs.YtkpcmbgnaenbhaaGreatDoor
open Go.ChangeShapes Go.WideShapes Go.ChangeAt Go.RowKit Av

theorem treeOwners_spec {H : Type} (ds : List (DataW H)) (h : ds.length = Tryz.f5.params.toList.length) : Rows.treeOwnersSpec.fn H ds = { results := [.lit (.bool true)], args := ds } := by
  rw [Tryz.params5] at h
  match ds, h with
  | [d1], _ => rfl

set_option maxRecDepth 100000 in
theorem treeOwners_lifted (os : Os) (started : os.Started) (H : Type) (enc : TypeId × Value → H) :
    ReturnsInHanded {} Tryz.checked os 5 .any (fun w args => (Rows.treeOwnersSpec.pre enc Tryz.prog Tryz.f5 [] false w args ∧ laidMetH Tryz.prog Rows.treeOwnersRow.laid w) ∧ sizedMet enc Tryz.prog Tryz.f5 (OpenSpec.ofChange Rows.treeOwnersSpec) false w args)
      (Rows.treeOwnersSpec.post enc Tryz.prog Tryz.f5 false true false false) :=
  law_lifted_laid started (by kernel_rfl) Tryz.func5 rfl (by kernel_rfl) (by kernel_rfl) (by kernel_rfl) treeOwners_spec
    (ChangeSpec.witness_shaped (enc := enc) (C := Tryz.checked) (os := os) (X := fun w _ => laidMetH Tryz.prog Rows.treeOwnersRow.laid w) false (World.laidAll Tryz.prog os Rows.treeOwnersRow.laid) #[.slice none 0 0] 8 (World.laidAll_os _ _ _)
      (World.shaped_of_ZipB (by kernel_rfl) (by kernel_rfl)) (by kernel_rfl) (by kernel_rfl) (by kernel_rfl)
      (by rw [MakeChecks.laidMetH_plain _ _ _ (by kernel_rfl)]; exact laidMet_laidAll _ (by kernel_rfl) (by kernel_rfl)))
    treeOwners_con

theorem treeOwners_row : Rows.TreeOwnersSaid :=
  OpenClaim.holds_of_wide 5 Tryz.f5 rfl rfl rfl rfl rfl rfl rfl ⟨rfl, rfl, rfl, rfl, rfl⟩ rfl rfl rfl rfl rfl (by kernel_rfl) Tryz.func5 (by kernel_rfl)
    (of_decide_eq_true (by kernel_rfl)) (by unfold Func.isWrapper; first | (rw [if_pos (by decide +kernel)]; kernel_rfl) | (rw [if_neg (by decide +kernel)]; exact ⟨rfl, rfl⟩))
    (fun os started H enc _ => treeOwners_lifted os started H enc)

theorem treeOwners_named : Tryz.prog.funcNamed Rows.treeOwnersRow.func = some 5 := by kernel_rfl
theorem treeOwners_card : Rows.TreeOwnersCardSaid :=
  Claim7.holds_tied_plain_at .later [] [.data, .data, .data, .data, .pinned] true (true, "4dde13030899f662bd2011087b8a3e031376c2bddc2d02206ae72ad34aa3b3a6") false treeOwners_row (fun _ h => by cases h) (by kernel_rfl) (fun _ h => by cases h) treeOwners_row_tie rfl ⟨rfl, rfl⟩ (by kernel_rfl) rfl
    (fun f fn hf hfn => by
      obtain rfl : f = 5 := Option.some.inj (treeOwners_named.symm.trans hf) |>.symm
      obtain rfl : fn = Tryz.f5 := (Option.some.inj (Tryz.func5.symm.trans hfn)).symm
      exact ⟨by kernel_rfl, fun j t ht => by
        rw [Tryz.params5] at ht
        have hm : t ∈ ([22] : List Nat) := by simpa using Array.mem_of_getElem? ht
        have hall : (([22] : List Nat).all fun u => !Tryz.prog.wantsStandIn u) = true := by kernel_rfl
        exact (show Tryz.prog.wantsStandIn t = false by simpa using List.all_eq_true.1 hall t hm)⟩)
    (by kernel_rfl)
#print axioms treeOwners_card
end Go.Proofs.YtkpcmbgnaenbhaaGreatDoor
