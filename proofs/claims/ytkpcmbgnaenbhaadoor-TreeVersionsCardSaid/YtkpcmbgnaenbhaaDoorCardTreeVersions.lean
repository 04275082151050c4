/- The row and the card of 'TreeVersions': for every input the call returns true, and each argument reads as it did. -/
import Derived.Test.YtkpcmbgnaenbhaaDoorAvFrameL
import Derived.Test.YtkpcmbgnaenbhaaDoorAvLaw11Y
namespace Go.Proofs.YtkpcmbgnaenbhaaDoor
open Go.ChangeShapes Go.WideShapes Go.ChangeAt Go.RowKit Av

theorem treeVersions_spec {H : Type} (ds : List (DataW H)) (h : ds.length = Tryd.f4.params.toList.length) : Rows.treeVersionsSpec.fn H ds = { results := [.lit (.bool true)], args := ds } := by
  rw [Tryd.params4] at h
  match ds, h with
  | [d1], _ => rfl

set_option maxRecDepth 100000 in
theorem treeVersions_lifted (os : Os) (started : os.Started) (H : Type) (enc : TypeId × Value → H) :
    ReturnsInHanded {} Tryd.checked os 4 .any (fun w args => (Rows.treeVersionsSpec.pre enc Tryd.prog Tryd.f4 [] false w args ∧ laidMetH Tryd.prog Rows.treeVersionsRow.laid w) ∧ sizedMet enc Tryd.prog Tryd.f4 (OpenSpec.ofChange Rows.treeVersionsSpec) false w args)
      (Rows.treeVersionsSpec.post enc Tryd.prog Tryd.f4 false true false false) :=
  law_lifted_laid started (by kernel_rfl) Tryd.func4 rfl (by kernel_rfl) (by kernel_rfl) (by kernel_rfl) treeVersions_spec
    (ChangeSpec.witness_shaped (enc := enc) (C := Tryd.checked) (os := os) (X := fun w _ => laidMetH Tryd.prog Rows.treeVersionsRow.laid w) false (World.laidAll Tryd.prog os Rows.treeVersionsRow.laid) #[.slice none 0 0] 8 (World.laidAll_os _ _ _)
      (World.shaped_of_ZipB (by kernel_rfl) (by kernel_rfl)) (by kernel_rfl) (by kernel_rfl) (by kernel_rfl)
      (by rw [MakeChecks.laidMetH_plain _ _ _ (by kernel_rfl)]; exact laidMet_laidAll _ (by kernel_rfl) (by kernel_rfl)))
    treeVersions_con

theorem treeVersions_row : Rows.TreeVersionsSaid :=
  OpenClaim.holds_of_wide 4 Tryd.f4 rfl rfl rfl rfl rfl rfl rfl ⟨rfl, rfl, rfl, rfl, rfl⟩ rfl rfl rfl rfl rfl (by kernel_rfl) Tryd.func4 (by kernel_rfl)
    (of_decide_eq_true (by kernel_rfl)) (by unfold Func.isWrapper; first | (rw [if_pos (by decide +kernel)]; kernel_rfl) | (rw [if_neg (by decide +kernel)]; exact ⟨rfl, rfl⟩))
    (fun os started H enc _ => treeVersions_lifted os started H enc)

theorem treeVersions_named : Tryd.prog.funcNamed Rows.treeVersionsRow.func = some 4 := by kernel_rfl
theorem treeVersions_card : Rows.TreeVersionsCardSaid :=
  Claim7.holds_tied_plain_at .later [] [.data, .data, .data, .data, .pinned] true (true, "15981edcb429891d0f23de3c8a11dead45d3ad1f0035c495f4d359ed6fcad197") false treeVersions_row (fun _ h => by cases h) (by kernel_rfl) (fun _ h => by cases h) treeVersions_row_tie rfl ⟨rfl, rfl⟩ (by kernel_rfl) rfl
    (fun f fn hf hfn => by
      obtain rfl : f = 4 := Option.some.inj (treeVersions_named.symm.trans hf) |>.symm
      obtain rfl : fn = Tryd.f4 := (Option.some.inj (Tryd.func4.symm.trans hfn)).symm
      exact ⟨by kernel_rfl, fun j t ht => by
        rw [Tryd.params4] at ht
        have hm : t ∈ ([22] : List Nat) := by simpa using Array.mem_of_getElem? ht
        have hall : (([22] : List Nat).all fun u => !Tryd.prog.wantsStandIn u) = true := by kernel_rfl
        exact (show Tryd.prog.wantsStandIn t = false by simpa using List.all_eq_true.1 hall t hm)⟩)
    (by kernel_rfl)
#print axioms treeVersions_card
end Go.Proofs.YtkpcmbgnaenbhaaDoor
