/- The row and the card of 'TreeNumbers': for every input the call returns true, and each argument reads as it did. -/
import Derived.Test.YtkpcmbgnaenbhaaDoorAvFrameL
import Derived.Test.YtkpcmbgnaenbhaaDoorAvLaw11Z
namespace Go.Proofs.YtkpcmbgnaenbhaaDoor
open Go.ChangeShapes Go.WideShapes Go.ChangeAt Go.RowKit Av

theorem treeNumbers_spec {H : Type} (ds : List (DataW H)) (h : ds.length = Tryd.f3.params.toList.length) : Rows.treeNumbersSpec.fn H ds = { results := [.lit (.bool true)], args := ds } := by
  rw [Tryd.params3] at h
  match ds, h with
  | [d1], _ => rfl

set_option maxRecDepth 100000 in
theorem treeNumbers_lifted (os : Os) (started : os.Started) (H : Type) (enc : TypeId × Value → H) :
    ReturnsInHanded {} Tryd.checked os 3 .any (fun w args => (Rows.treeNumbersSpec.pre enc Tryd.prog Tryd.f3 [] false w args ∧ laidMetH Tryd.prog Rows.treeNumbersRow.laid w) ∧ sizedMet enc Tryd.prog Tryd.f3 (OpenSpec.ofChange Rows.treeNumbersSpec) false w args)
      (Rows.treeNumbersSpec.post enc Tryd.prog Tryd.f3 false true false false) :=
  law_lifted_laid started (by kernel_rfl) Tryd.func3 rfl (by kernel_rfl) (by kernel_rfl) (by kernel_rfl) treeNumbers_spec
    (ChangeSpec.witness_shaped (enc := enc) (C := Tryd.checked) (os := os) (X := fun w _ => laidMetH Tryd.prog Rows.treeNumbersRow.laid w) false (World.laidAll Tryd.prog os Rows.treeNumbersRow.laid) #[.slice none 0 0] 8 (World.laidAll_os _ _ _)
      (World.shaped_of_ZipB (by kernel_rfl) (by kernel_rfl)) (by kernel_rfl) (by kernel_rfl) (by kernel_rfl)
      (by rw [MakeChecks.laidMetH_plain _ _ _ (by kernel_rfl)]; exact laidMet_laidAll _ (by kernel_rfl) (by kernel_rfl)))
    treeNumbers_con

theorem treeNumbers_row : Rows.TreeNumbersSaid :=
  OpenClaim.holds_of_wide 3 Tryd.f3 rfl rfl rfl rfl rfl rfl rfl ⟨rfl, rfl, rfl, rfl, rfl⟩ rfl rfl rfl rfl rfl (by kernel_rfl) Tryd.func3 (by kernel_rfl)
    (of_decide_eq_true (by kernel_rfl)) (by unfold Func.isWrapper; first | (rw [if_pos (by decide +kernel)]; kernel_rfl) | (rw [if_neg (by decide +kernel)]; exact ⟨rfl, rfl⟩))
    (fun os started H enc _ => treeNumbers_lifted os started H enc)

theorem treeNumbers_named : Tryd.prog.funcNamed Rows.treeNumbersRow.func = some 3 := by kernel_rfl
theorem treeNumbers_card : Rows.TreeNumbersCardSaid :=
  Claim7.holds_tied_plain_at .later [] [.data, .data, .data, .data, .pinned] true (true, "15981edcb429891d0f23de3c8a11dead45d3ad1f0035c495f4d359ed6fcad197") false treeNumbers_row (fun _ h => by cases h) (by kernel_rfl) (fun _ h => by cases h) treeNumbers_row_tie rfl ⟨rfl, rfl⟩ (by kernel_rfl) rfl
    (fun f fn hf hfn => by
      obtain rfl : f = 3 := Option.some.inj (treeNumbers_named.symm.trans hf) |>.symm
      obtain rfl : fn = Tryd.f3 := (Option.some.inj (Tryd.func3.symm.trans hfn)).symm
      exact ⟨by kernel_rfl, fun j t ht => by
        rw [Tryd.params3] at ht
        have hm : t ∈ ([22] : List Nat) := by simpa using Array.mem_of_getElem? ht
        have hall : (([22] : List Nat).all fun u => !Tryd.prog.wantsStandIn u) = true := by kernel_rfl
        exact (show Tryd.prog.wantsStandIn t = false by simpa using List.all_eq_true.1 hall t hm)⟩)
    (by kernel_rfl)
#print axioms treeNumbers_card
end Go.Proofs.YtkpcmbgnaenbhaaDoor
