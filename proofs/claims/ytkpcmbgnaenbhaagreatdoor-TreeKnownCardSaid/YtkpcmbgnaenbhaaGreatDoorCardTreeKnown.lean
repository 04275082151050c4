/- The row and the card of 'TreeKnown': for every input the call returns true, and each argument reads as it did. -/
import Derived.Test.YtkpcmbgnaenbhaaGreatDoorAvG2
import Derived.Test.YtkpcmbgnaenbhaaGreatDoorAvG45
namespace Go.Proofs.YtkpcmbgnaenbhaaGreatDoor
open Go.ChangeShapes Go.WideShapes Go.ChangeAt Go.RowKit Av

theorem treeKnown_spec {H : Type} (ds : List (DataW H)) (h : ds.length = Tryz.f7.params.toList.length) : Rows.treeKnownSpec.fn H ds = { results := [.lit (.bool true)], args := ds } := by
  rw [Tryz.params7] at h
  match ds, h with
  | [], _ => rfl

set_option maxRecDepth 100000 in
theorem treeKnown_lifted (os : Os) (started : os.Started) (H : Type) (enc : TypeId × Value → H) :
    ReturnsInHanded {} Tryz.checked os 7 .any (fun w args => (Rows.treeKnownSpec.pre enc Tryz.prog Tryz.f7 [] false w args ∧ laidMetH Tryz.prog Rows.treeKnownRow.laid w) ∧ sizedMet enc Tryz.prog Tryz.f7 (OpenSpec.ofChange Rows.treeKnownSpec) false w args)
      (Rows.treeKnownSpec.post enc Tryz.prog Tryz.f7 false true false false) :=
  law_lifted_laid started (by kernel_rfl) Tryz.func7 rfl (by kernel_rfl) (by kernel_rfl) (by kernel_rfl) treeKnown_spec
    (ChangeSpec.witness_shaped (enc := enc) (C := Tryz.checked) (os := os) (X := fun w _ => laidMetH Tryz.prog Rows.treeKnownRow.laid w) false (World.laidAll Tryz.prog os Rows.treeKnownRow.laid) #[] 8 (World.laidAll_os _ _ _)
      (World.shaped_of_ZipB (by kernel_rfl) (by kernel_rfl)) (by kernel_rfl) (by kernel_rfl) (by kernel_rfl)
      (by rw [MakeChecks.laidMetH_plain _ _ _ (by kernel_rfl)]; exact laidMet_laidAll _ (by kernel_rfl) (by kernel_rfl)))
    treeKnown_con

theorem treeKnown_row : Rows.TreeKnownSaid :=
  OpenClaim.holds_of_wide 7 Tryz.f7 rfl rfl rfl rfl rfl rfl rfl ⟨rfl, rfl, rfl, rfl, rfl⟩ rfl rfl rfl rfl rfl (by kernel_rfl) Tryz.func7 (by kernel_rfl)
    (of_decide_eq_true (by kernel_rfl)) (by unfold Func.isWrapper; first | (rw [if_pos (by decide +kernel)]; kernel_rfl) | (rw [if_neg (by decide +kernel)]; exact ⟨rfl, rfl⟩))
    (fun os started H enc _ => treeKnown_lifted os started H enc)

theorem treeKnown_named : Tryz.prog.funcNamed Rows.treeKnownRow.func = some 7 := by kernel_rfl
theorem treeKnown_card : Rows.TreeKnownCardSaid :=
  Claim7.holds_tied_plain_at .later [] [.data, .data, .data, .data, .pinned] true (true, "4dde13030899f662bd2011087b8a3e031376c2bddc2d02206ae72ad34aa3b3a6") false treeKnown_row (fun _ h => by cases h) (by kernel_rfl) (fun _ h => by cases h) treeKnown_row_tie rfl ⟨rfl, rfl⟩ (by kernel_rfl) rfl
    (fun f fn hf hfn => by
      obtain rfl : f = 7 := Option.some.inj (treeKnown_named.symm.trans hf) |>.symm
      obtain rfl : fn = Tryz.f7 := (Option.some.inj (Tryz.func7.symm.trans hfn)).symm
      exact ⟨by kernel_rfl, fun j t ht => by
        rw [Tryz.params7] at ht
        have hm : t ∈ ([] : List Nat) := by simpa using Array.mem_of_getElem? ht
        have hall : (([] : List Nat).all fun u => !Tryz.prog.wantsStandIn u) = true := by kernel_rfl
        exact (show Tryz.prog.wantsStandIn t = false by simpa using List.all_eq_true.1 hall t hm)⟩)
    (by kernel_rfl)
#print axioms treeKnown_card
end Go.Proofs.YtkpcmbgnaenbhaaGreatDoor
