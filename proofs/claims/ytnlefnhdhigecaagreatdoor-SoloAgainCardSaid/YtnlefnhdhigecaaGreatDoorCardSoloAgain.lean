/- The row and the card of 'SoloAgain': for every input the call returns true, and each argument reads as it did. -/
import Derived.Test.YtnlefnhdhigecaaGreatDoorAvG38
import Derived.Test.YtnlefnhdhigecaaGreatDoorAvG42
import Derived.Test.YtnlefnhdhigecaaGreatDoorJfSoloAgain
namespace Go.Proofs.YtnlefnhdhigecaaGreatDoor
open Go.ChangeShapes Go.WideShapes Go.ChangeAt Go.RowKit Av

theorem soloAgain_spec {H : Type} (ds : List (DataW H)) (h : ds.length = Tryz.f6.params.toList.length) : Rows.soloAgainSpec.fn H ds = { results := [.lit (.bool true)], args := ds } := by
  rw [Tryz.params6] at h
  match ds, h with
  | [d1, d2, d3], _ => rfl

set_option maxRecDepth 100000 in
theorem soloAgain_lifted (os : Os) (started : os.Started) (H : Type) (enc : TypeId × Value → H) :
    ReturnsInHanded {} Tryz.checked os 6 .any (fun w args => (Rows.soloAgainSpec.pre enc Tryz.prog Tryz.f6 [] false w args ∧ laidMetH Tryz.prog Rows.soloAgainRow.laid w) ∧ sizedMet enc Tryz.prog Tryz.f6 (OpenSpec.ofChange Rows.soloAgainSpec) false w args)
      (Rows.soloAgainSpec.post enc Tryz.prog Tryz.f6 false true false false) :=
  law_lifted_laid started (by kernel_rfl) Tryz.func6 rfl (by kernel_rfl) (by kernel_rfl) (by kernel_rfl) soloAgain_spec
    (ChangeSpec.witness_shaped (enc := enc) (C := Tryz.checked) (os := os) (X := fun w _ => laidMetH Tryz.prog Rows.soloAgainRow.laid w) false (World.laidAll Tryz.prog os Rows.soloAgainRow.laid) #[.slice none 0 0, .slice none 0 0, .int .i64 0] 8 (World.laidAll_os _ _ _)
      (World.shaped_of_ZipB (by kernel_rfl) (by kernel_rfl)) (by kernel_rfl) (by kernel_rfl) (by kernel_rfl)
      (by rw [MakeChecks.laidMetH_plain _ _ _ (by kernel_rfl)]; exact laidMet_laidAll _ (by kernel_rfl) (by kernel_rfl)))
    soloAgain_con

theorem soloAgain_row : Rows.SoloAgainSaid :=
  OpenClaim.holds_of_wide 6 Tryz.f6 rfl rfl rfl rfl rfl rfl rfl ⟨rfl, rfl, rfl, rfl, rfl⟩ rfl rfl rfl rfl rfl (by kernel_rfl) Tryz.func6 soloAgain_jf
    (of_decide_eq_true (by kernel_rfl)) (by unfold Func.isWrapper; first | (rw [if_pos (by decide +kernel)]; kernel_rfl) | (rw [if_neg (by decide +kernel)]; exact ⟨rfl, rfl⟩))
    (fun os started H enc _ => soloAgain_lifted os started H enc)

theorem soloAgain_named : Tryz.prog.funcNamed Rows.soloAgainRow.func = some 6 := by kernel_rfl
theorem soloAgain_card : Rows.SoloAgainCardSaid :=
  Claim7.holds_tied_plain_at .later [] [.data, .data, .data, .data, .pinned] true (true, "9ce38cd0acd78ddf4b93e191045823089ad3b0909ad73fde1580193d20591027") true soloAgain_row (fun _ h => by cases h) (by kernel_rfl) (fun _ h => by cases h) soloAgain_row_tie rfl ⟨rfl, rfl⟩ (by kernel_rfl) rfl
    (fun f fn hf hfn => by
      obtain rfl : f = 6 := Option.some.inj (soloAgain_named.symm.trans hf) |>.symm
      obtain rfl : fn = Tryz.f6 := (Option.some.inj (Tryz.func6.symm.trans hfn)).symm
      exact ⟨by kernel_rfl, fun j t ht => by
        rw [Tryz.params6] at ht
        have hm : t ∈ ([69, 78, 3] : List Nat) := by simpa using Array.mem_of_getElem? ht
        have hall : (([69, 78, 3] : List Nat).all fun u => !Tryz.prog.wantsStandIn u) = true := by kernel_rfl
        exact (show Tryz.prog.wantsStandIn t = false by simpa using List.all_eq_true.1 hall t hm)⟩)
    (by kernel_rfl)
#print axioms soloAgain_card
end Go.Proofs.YtnlefnhdhigecaaGreatDoor
