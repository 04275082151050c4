/- The row and the card of 'SoloOrder': for every input the call returns true, and each argument reads as it did. -/
import Derived.Test.YtnlefnhdhigecaaGreatDoorAvG38
import Derived.Test.YtnlefnhdhigecaaGreatDoorAvG39
import Derived.Test.YtnlefnhdhigecaaGreatDoorJfSoloOrder
namespace Go.Proofs.YtnlefnhdhigecaaGreatDoor
open Go.ChangeShapes Go.WideShapes Go.ChangeAt Go.RowKit Av

theorem soloOrder_spec {H : Type} (ds : List (DataW H)) (h : ds.length = Tryz.f4.params.toList.length) : Rows.soloOrderSpec.fn H ds = { results := [.lit (.bool true)], args := ds } := by
  rw [Tryz.params4] at h
  match ds, h with
  | [d1], _ => rfl

set_option maxRecDepth 100000 in
theorem soloOrder_lifted (os : Os) (started : os.Started) (H : Type) (enc : TypeId × Value → H) :
    ReturnsInHanded {} Tryz.checked os 4 .any (fun w args => (Rows.soloOrderSpec.pre enc Tryz.prog Tryz.f4 [] false w args ∧ laidMetH Tryz.prog Rows.soloOrderRow.laid w) ∧ sizedMet enc Tryz.prog Tryz.f4 (OpenSpec.ofChange Rows.soloOrderSpec) false w args)
      (Rows.soloOrderSpec.post enc Tryz.prog Tryz.f4 false true false false) :=
  law_lifted_laid started (by kernel_rfl) Tryz.func4 rfl (by kernel_rfl) (by kernel_rfl) (by kernel_rfl) soloOrder_spec
    (ChangeSpec.witness_shaped (enc := enc) (C := Tryz.checked) (os := os) (X := fun w _ => laidMetH Tryz.prog Rows.soloOrderRow.laid w) false (World.laidAll Tryz.prog os Rows.soloOrderRow.laid) #[.slice none 0 0] 8 (World.laidAll_os _ _ _)
      (World.shaped_of_ZipB (by kernel_rfl) (by kernel_rfl)) (by kernel_rfl) (by kernel_rfl) (by kernel_rfl)
      (by rw [MakeChecks.laidMetH_plain _ _ _ (by kernel_rfl)]; exact laidMet_laidAll _ (by kernel_rfl) (by kernel_rfl)))
    soloOrder_con

theorem soloOrder_row : Rows.SoloOrderSaid :=
  OpenClaim.holds_of_wide 4 Tryz.f4 rfl rfl rfl rfl rfl rfl rfl ⟨rfl, rfl, rfl, rfl, rfl⟩ rfl rfl rfl rfl rfl (by kernel_rfl) Tryz.func4 soloOrder_jf
    (of_decide_eq_true (by kernel_rfl)) (by unfold Func.isWrapper; first | (rw [if_pos (by decide +kernel)]; kernel_rfl) | (rw [if_neg (by decide +kernel)]; exact ⟨rfl, rfl⟩))
    (fun os started H enc _ => soloOrder_lifted os started H enc)

theorem soloOrder_named : Tryz.prog.funcNamed Rows.soloOrderRow.func = some 4 := by kernel_rfl
theorem soloOrder_card : Rows.SoloOrderCardSaid :=
  Claim7.holds_tied_plain_at .later [] [.data, .data, .data, .data, .pinned] true (true, "9ce38cd0acd78ddf4b93e191045823089ad3b0909ad73fde1580193d20591027") true soloOrder_row (fun _ h => by cases h) (by kernel_rfl) (fun _ h => by cases h) soloOrder_row_tie rfl ⟨rfl, rfl⟩ (by kernel_rfl) rfl
    (fun f fn hf hfn => by
      obtain rfl : f = 4 := Option.some.inj (soloOrder_named.symm.trans hf) |>.symm
      obtain rfl : fn = Tryz.f4 := (Option.some.inj (Tryz.func4.symm.trans hfn)).symm
      exact ⟨by kernel_rfl, fun j t ht => by
        rw [Tryz.params4] at ht
        have hm : t ∈ ([58] : List Nat) := by simpa using Array.mem_of_getElem? ht
        have hall : (([58] : List Nat).all fun u => !Tryz.prog.wantsStandIn u) = true := by kernel_rfl
        exact (show Tryz.prog.wantsStandIn t = false by simpa using List.all_eq_true.1 hall t hm)⟩)
    (by kernel_rfl)
#print axioms soloOrder_card
end Go.Proofs.YtnlefnhdhigecaaGreatDoor
