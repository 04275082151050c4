/- The row and the card of 'SoloKnown': for every input the call returns true, and each argument reads as it did. -/
import Derived.Test.YtnkhmkcpdgmjmaaGreatDoorAvG40
import Derived.Test.YtnkhmkcpdgmjmaaGreatDoorAvG42
import Derived.Test.YtnkhmkcpdgmjmaaGreatDoorJfSoloKnown
namespace Go.Proofs.YtnkhmkcpdgmjmaaGreatDoor
open Go.ChangeShapes Go.WideShapes Go.ChangeAt Go.RowKit Av

theorem soloKnown_spec {H : Type} (ds : List (DataW H)) (h : ds.length = Tryz.f5.params.toList.length) : Rows.soloKnownSpec.fn H ds = { results := [.lit (.bool true)], args := ds } := by
  rw [Tryz.params5] at h
  match ds, h with
  | [], _ => rfl

set_option maxRecDepth 100000 in
theorem soloKnown_lifted (os : Os) (started : os.Started) (H : Type) (enc : TypeId × Value → H) :
    ReturnsInHanded {} Tryz.checked os 5 .any (fun w args => (Rows.soloKnownSpec.pre enc Tryz.prog Tryz.f5 [] false w args ∧ laidMetH Tryz.prog Rows.soloKnownRow.laid w) ∧ sizedMet enc Tryz.prog Tryz.f5 (OpenSpec.ofChange Rows.soloKnownSpec) false w args)
      (Rows.soloKnownSpec.post enc Tryz.prog Tryz.f5 false true false false) :=
  law_lifted_laid started (by kernel_rfl) Tryz.func5 rfl (by kernel_rfl) (by kernel_rfl) (by kernel_rfl) soloKnown_spec
    (ChangeSpec.witness_shaped (enc := enc) (C := Tryz.checked) (os := os) (X := fun w _ => laidMetH Tryz.prog Rows.soloKnownRow.laid w) false (World.laidAll Tryz.prog os Rows.soloKnownRow.laid) #[] 8 (World.laidAll_os _ _ _)
      (World.shaped_of_ZipB (by kernel_rfl) (by kernel_rfl)) (by kernel_rfl) (by kernel_rfl) (by kernel_rfl)
      (by rw [MakeChecks.laidMetH_plain _ _ _ (by kernel_rfl)]; exact laidMet_laidAll _ (by kernel_rfl) (by kernel_rfl)))
    soloKnown_con

theorem soloKnown_row : Rows.SoloKnownSaid :=
  OpenClaim.holds_of_wide 5 Tryz.f5 rfl rfl rfl rfl rfl rfl rfl ⟨rfl, rfl, rfl, rfl, rfl⟩ rfl rfl rfl rfl rfl (by kernel_rfl) Tryz.func5 soloKnown_jf
    (of_decide_eq_true (by kernel_rfl)) (by unfold Func.isWrapper; first | (rw [if_pos (by decide +kernel)]; kernel_rfl) | (rw [if_neg (by decide +kernel)]; exact ⟨rfl, rfl⟩))
    (fun os started H enc _ => soloKnown_lifted os started H enc)

theorem soloKnown_named : Tryz.prog.funcNamed Rows.soloKnownRow.func = some 5 := by kernel_rfl
theorem soloKnown_card : Rows.SoloKnownCardSaid :=
  Claim7.holds_tied_plain_at .later [] [.data, .data, .data, .data, .pinned] true (true, "b10a43fe036c9506ac59342f66749becbd40ff19115b83e7a6d3518b02096477") true soloKnown_row (fun _ h => by cases h) (by kernel_rfl) (fun _ h => by cases h) soloKnown_row_tie rfl ⟨rfl, rfl⟩ (by kernel_rfl) rfl
    (fun f fn hf hfn => by
      obtain rfl : f = 5 := Option.some.inj (soloKnown_named.symm.trans hf) |>.symm
      obtain rfl : fn = Tryz.f5 := (Option.some.inj (Tryz.func5.symm.trans hfn)).symm
      exact ⟨by kernel_rfl, fun j t ht => by
        rw [Tryz.params5] at ht
        have hm : t ∈ ([] : List Nat) := by simpa using Array.mem_of_getElem? ht
        have hall : (([] : List Nat).all fun u => !Tryz.prog.wantsStandIn u) = true := by kernel_rfl
        exact (show Tryz.prog.wantsStandIn t = false by simpa using List.all_eq_true.1 hall t hm)⟩)
    (by kernel_rfl)
#print axioms soloKnown_card
end Go.Proofs.YtnkhmkcpdgmjmaaGreatDoor
