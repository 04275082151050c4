/- The row and the card of 'TreeLoads': for every input the call returns true, and each argument reads as it did. -/
import Derived.Test.YtkpcmbgnaenbhaaGreatDoorAvG2
import Derived.Test.YtkpcmbgnaenbhaaGreatDoorAvG44
namespace Go.Proofs.YtkpcmbgnaenbhaaGreatDoor
open Go.ChangeShapes Go.WideShapes Go.ChangeAt Go.RowKit Av

theorem treeLoads_spec {H : Type} (ds : List (DataW H)) (h : ds.length = Tryz.f6.params.toList.length) : Rows.treeLoadsSpec.fn H ds = { results := [.lit (.bool true)], args := ds } := by
  rw [Tryz.params6] at h
  match ds, h with
  | [d1, d2], _ => rfl

set_option maxRecDepth 100000 in
theorem treeLoads_lifted (os : Os) (started : os.Started) (H : Type) (enc : TypeId × Value → H) :
    ReturnsInHanded {} Tryz.checked os 6 .any (fun w args => (Rows.treeLoadsSpec.pre enc Tryz.prog Tryz.f6 [] false w args ∧ laidMetH Tryz.prog Rows.treeLoadsRow.laid w) ∧ sizedMet enc Tryz.prog Tryz.f6 (OpenSpec.ofChange Rows.treeLoadsSpec) false w args)
      (Rows.treeLoadsSpec.post enc Tryz.prog Tryz.f6 false true false false) :=
  law_lifted_laid started (by kernel_rfl) Tryz.func6 rfl (by kernel_rfl) (by kernel_rfl) (by kernel_rfl) treeLoads_spec
    (ChangeSpec.witness_shaped (enc := enc) (C := Tryz.checked) (os := os) (X := fun w _ => laidMetH Tryz.prog Rows.treeLoadsRow.laid w) false (World.laidAll Tryz.prog os Rows.treeLoadsRow.laid) #[.slice none 0 0, .int .i64 0] 8 (World.laidAll_os _ _ _)
      (World.shaped_of_ZipB (by kernel_rfl) (by kernel_rfl)) (by kernel_rfl) (by kernel_rfl) (by kernel_rfl)
      (by rw [MakeChecks.laidMetH_plain _ _ _ (by kernel_rfl)]; exact laidMet_laidAll _ (by kernel_rfl) (by kernel_rfl)))
    treeLoads_con

theorem treeLoads_row : Rows.TreeLoadsSaid :=
  OpenClaim.holds_of_wide 6 Tryz.f6 rfl rfl rfl rfl rfl rfl rfl ⟨rfl, rfl, rfl, rfl, rfl⟩ rfl rfl rfl rfl rfl (by kernel_rfl) Tryz.func6 (by kernel_rfl)
    (of_decide_eq_true (by kernel_rfl)) (by unfold Func.isWrapper; first | (rw [if_pos (by decide +kernel)]; kernel_rfl) | (rw [if_neg (by decide +kernel)]; exact ⟨rfl, rfl⟩))
    (fun os started H enc _ => treeLoads_lifted os started H enc)

theorem treeLoads_named : Tryz.prog.funcNamed Rows.treeLoadsRow.func = some 6 := by kernel_rfl
theorem treeLoads_card : Rows.TreeLoadsCardSaid :=
  Claim7.holds_tied_plain_at .later [] [.data, .data, .data, .data, .pinned] true (true, "4dde13030899f662bd2011087b8a3e031376c2bddc2d02206ae72ad34aa3b3a6") false treeLoads_row (fun _ h => by cases h) (by kernel_rfl) (fun _ h => by cases h) treeLoads_row_tie rfl ⟨rfl, rfl⟩ (by kernel_rfl) rfl
    (fun f fn hf hfn => by
      obtain rfl : f = 6 := Option.some.inj (treeLoads_named.symm.trans hf) |>.symm
      obtain rfl : fn = Tryz.f6 := (Option.some.inj (Tryz.func6.symm.trans hfn)).symm
      exact ⟨by kernel_rfl, fun j t ht => by
        rw [Tryz.params6] at ht
        have hm : t ∈ ([22, 3] : List Nat) := by simpa using Array.mem_of_getElem? ht
        have hall : (([22, 3] : List Nat).all fun u => !Tryz.prog.wantsStandIn u) = true := by kernel_rfl
        exact (show Tryz.prog.wantsStandIn t = false by simpa using List.all_eq_true.1 hall t hm)⟩)
    (by kernel_rfl)
#print axioms treeLoads_card
end Go.Proofs.YtkpcmbgnaenbhaaGreatDoor
