/- The row and the card of 'SoloGone': for every input the call returns true, and each argument reads as it did. -/
import Derived.Test.YtnkhmkcpdgmjmaaGreatDoorAvG40
import Derived.Test.YtnkhmkcpdgmjmaaGreatDoorAvG42
import Derived.Test.YtnkhmkcpdgmjmaaGreatDoorJfSoloGone
namespace Go.Proofs.YtnkhmkcpdgmjmaaGreatDoor
open Go.ChangeShapes Go.WideShapes Go.ChangeAt Go.RowKit Av

theorem soloGone_spec {H : Type} (ds : List (DataW H)) (h : ds.length = Tryz.f4.params.toList.length) : Rows.soloGoneSpec.fn H ds = { results := [.lit (.bool true)], args := ds } := by
  rw [Tryz.params4] at h
  match ds, h with
  | [d1, d2, d3], _ => rfl

set_option maxRecDepth 100000 in
theorem soloGone_lifted (os : Os) (started : os.Started) (H : Type) (enc : TypeId × Value → H) :
    ReturnsInHanded {} Tryz.checked os 4 .any (fun w args => (Rows.soloGoneSpec.pre enc Tryz.prog Tryz.f4 [] false w args ∧ laidMetH Tryz.prog Rows.soloGoneRow.laid w) ∧ sizedMet enc Tryz.prog Tryz.f4 (OpenSpec.ofChange Rows.soloGoneSpec) false w args)
      (Rows.soloGoneSpec.post enc Tryz.prog Tryz.f4 false true false false) :=
  law_lifted_laid started (by kernel_rfl) Tryz.func4 rfl (by kernel_rfl) (by kernel_rfl) (by kernel_rfl) soloGone_spec
    (ChangeSpec.witness_shaped (enc := enc) (C := Tryz.checked) (os := os) (X := fun w _ => laidMetH Tryz.prog Rows.soloGoneRow.laid w) false (World.laidAll Tryz.prog os Rows.soloGoneRow.laid) #[.slice none 0 0, .int .i64 1, .bool false] 8 (World.laidAll_os _ _ _)
      (World.shaped_of_ZipB (by kernel_rfl) (by kernel_rfl)) (by kernel_rfl) (by kernel_rfl) (by kernel_rfl)
      (by rw [MakeChecks.laidMetH_plain _ _ _ (by kernel_rfl)]; exact laidMet_laidAll _ (by kernel_rfl) (by kernel_rfl)))
    soloGone_con

theorem soloGone_row : Rows.SoloGoneSaid :=
  OpenClaim.holds_of_wide 4 Tryz.f4 rfl rfl rfl rfl rfl rfl rfl ⟨rfl, rfl, rfl, rfl, rfl⟩ rfl rfl rfl rfl rfl (by kernel_rfl) Tryz.func4 soloGone_jf
    (of_decide_eq_true (by kernel_rfl)) (by unfold Func.isWrapper; first | (rw [if_pos (by decide +kernel)]; kernel_rfl) | (rw [if_neg (by decide +kernel)]; exact ⟨rfl, rfl⟩))
    (fun os started H enc _ => soloGone_lifted os started H enc)

theorem soloGone_named : Tryz.prog.funcNamed Rows.soloGoneRow.func = some 4 := by kernel_rfl
theorem soloGone_card : Rows.SoloGoneCardSaid :=
  Claim7.holds_tied_plain_at .later [] [.data, .data, .data, .data, .pinned] true (true, "b10a43fe036c9506ac59342f66749becbd40ff19115b83e7a6d3518b02096477") true soloGone_row (fun _ h => by cases h) (by kernel_rfl) (fun _ h => by cases h) soloGone_row_tie rfl ⟨rfl, rfl⟩ (by kernel_rfl) rfl
    (fun f fn hf hfn => by
      obtain rfl : f = 4 := Option.some.inj (soloGone_named.symm.trans hf) |>.symm
      obtain rfl : fn = Tryz.f4 := (Option.some.inj (Tryz.func4.symm.trans hfn)).symm
      exact ⟨by kernel_rfl, fun j t ht => by
        rw [Tryz.params4] at ht
        have hm : t ∈ ([58, 2, 4] : List Nat) := by simpa using Array.mem_of_getElem? ht
        have hall : (([58, 2, 4] : List Nat).all fun u => !Tryz.prog.wantsStandIn u) = true := by kernel_rfl
        exact (show Tryz.prog.wantsStandIn t = false by simpa using List.all_eq_true.1 hall t hm)⟩)
    (by kernel_rfl)
#print axioms soloGone_card
end Go.Proofs.YtnkhmkcpdgmjmaaGreatDoor
