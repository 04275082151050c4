/- The row and the card of 'TreeKids': for every input the call returns true, and each argument reads as it did. -/
import Derived.Test.YtkpcmbgnaenbhaaDoorAvFrameL
import Derived.Test.YtkpcmbgnaenbhaaDoorAvLaw11X
namespace Go.Proofs.YtkpcmbgnaenbhaaDoor
open Go.ChangeShapes Go.WideShapes Go.ChangeAt Go.RowKit Av

theorem treeKids_spec {H : Type} (ds : List (DataW H)) (h : ds.length = Tryd.f5.params.toList.length) : Rows.treeKidsSpec.fn H ds = { results := [.lit (.bool true)], args := ds } := by
  rw [Tryd.params5] at h
  match ds, h with
  | [d1], _ => rfl

set_option maxRecDepth 100000 in
theorem treeKids_lifted (os : Os) (started : os.Started) (H : Type) (enc : TypeId × Value → H) :
    ReturnsInHanded {} Tryd.checked os 5 .any (fun w args => (Rows.treeKidsSpec.pre enc Tryd.prog Tryd.f5 [] false w args ∧ laidMetH Tryd.prog Rows.treeKidsRow.laid w) ∧ sizedMet enc Tryd.prog Tryd.f5 (OpenSpec.ofChange Rows.treeKidsSpec) false w args)
      (Rows.treeKidsSpec.post enc Tryd.prog Tryd.f5 false true false false) :=
  law_lifted_laid started (by kernel_rfl) Tryd.func5 rfl (by kernel_rfl) (by kernel_rfl) (by kernel_rfl) treeKids_spec
    (ChangeSpec.witness_shaped (enc := enc) (C := Tryd.checked) (os := os) (X := fun w _ => laidMetH Tryd.prog Rows.treeKidsRow.laid w) false (World.laidAll Tryd.prog os Rows.treeKidsRow.laid) #[.slice none 0 0] 8 (World.laidAll_os _ _ _)
      (World.shaped_of_ZipB (by kernel_rfl) (by kernel_rfl)) (by kernel_rfl) (by kernel_rfl) (by kernel_rfl)
      (by rw [MakeChecks.laidMetH_plain _ _ _ (by kernel_rfl)]; exact laidMet_laidAll _ (by kernel_rfl) (by kernel_rfl)))
    treeKids_con

theorem treeKids_row : Rows.TreeKidsSaid :=
  OpenClaim.holds_of_wide 5 Tryd.f5 rfl rfl rfl rfl rfl rfl rfl ⟨rfl, rfl, rfl, rfl, rfl⟩ rfl rfl rfl rfl rfl (by kernel_rfl) Tryd.func5 (by kernel_rfl)
    (of_decide_eq_true (by kernel_rfl)) (by unfold Func.isWrapper; first | (rw [if_pos (by decide +kernel)]; kernel_rfl) | (rw [if_neg (by decide +kernel)]; exact ⟨rfl, rfl⟩))
    (fun os started H enc _ => treeKids_lifted os started H enc)

theorem treeKids_named : Tryd.prog.funcNamed Rows.treeKidsRow.func = some 5 := by kernel_rfl
theorem treeKids_card : Rows.TreeKidsCardSaid :=
  Claim7.holds_tied_plain_at .later [] [.data, .data, .data, .data, .pinned] true (true, "15981edcb429891d0f23de3c8a11dead45d3ad1f0035c495f4d359ed6fcad197") false treeKids_row (fun _ h => by cases h) (by kernel_rfl) (fun _ h => by cases h) treeKids_row_tie rfl ⟨rfl, rfl⟩ (by kernel_rfl) rfl
    (fun f fn hf hfn => by
      obtain rfl : f = 5 := Option.some.inj (treeKids_named.symm.trans hf) |>.symm
      obtain rfl : fn = Tryd.f5 := (Option.some.inj (Tryd.func5.symm.trans hfn)).symm
      exact ⟨by kernel_rfl, fun j t ht => by
        rw [Tryd.params5] at ht
        have hm : t ∈ ([22] : List Nat) := by simpa using Array.mem_of_getElem? ht
        have hall : (([22] : List Nat).all fun u => !Tryd.prog.wantsStandIn u) = true := by kernel_rfl
        exact (show Tryd.prog.wantsStandIn t = false by simpa using List.all_eq_true.1 hall t hm)⟩)
    (by kernel_rfl)
#print axioms treeKids_card
end Go.Proofs.YtkpcmbgnaenbhaaDoor
