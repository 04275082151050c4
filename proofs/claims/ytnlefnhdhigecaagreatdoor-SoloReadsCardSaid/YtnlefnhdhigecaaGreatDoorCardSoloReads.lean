/- The row and the card of 'SoloReads': for every input the call returns true, and each argument reads as it did. -/
import Derived.Test.YtnlefnhdhigecaaGreatDoorAvG38
import Derived.Test.YtnlefnhdhigecaaGreatDoorAvG41
import Derived.Test.YtnlefnhdhigecaaGreatDoorJfSoloReads
namespace Go.Proofs.YtnlefnhdhigecaaGreatDoor
open Go.ChangeShapes Go.WideShapes Go.ChangeAt Go.RowKit Av

theorem soloReads_spec {H : Type} (ds : List (DataW H)) (h : ds.length = Tryz.f7.params.toList.length) : Rows.soloReadsSpec.fn H ds = { results := [.lit (.bool true)], args := ds } := by
  rw [Tryz.params7] at h
  match ds, h with
  | [d1, d2], _ => rfl

set_option maxRecDepth 100000 in
theorem soloReads_lifted (os : Os) (started : os.Started) (H : Type) (enc : TypeId × Value → H) :
    ReturnsInHanded {} Tryz.checked os 7 .any (fun w args => (Rows.soloReadsSpec.pre enc Tryz.prog Tryz.f7 [] false w args ∧ laidMetH Tryz.prog Rows.soloReadsRow.laid w) ∧ sizedMet enc Tryz.prog Tryz.f7 (OpenSpec.ofChange Rows.soloReadsSpec) false w args)
      (Rows.soloReadsSpec.post enc Tryz.prog Tryz.f7 false true false false) :=
  law_lifted_laid started (by kernel_rfl) Tryz.func7 rfl (by kernel_rfl) (by kernel_rfl) (by kernel_rfl) soloReads_spec
    (ChangeSpec.witness_shaped (enc := enc) (C := Tryz.checked) (os := os) (X := fun w _ => laidMetH Tryz.prog Rows.soloReadsRow.laid w) false (World.laidAll Tryz.prog os Rows.soloReadsRow.laid) #[.slice none 0 0, .slice none 0 0] 8 (World.laidAll_os _ _ _)
      (World.shaped_of_ZipB (by kernel_rfl) (by kernel_rfl)) (by kernel_rfl) (by kernel_rfl) (by kernel_rfl)
      (by rw [MakeChecks.laidMetH_plain _ _ _ (by kernel_rfl)]; exact laidMet_laidAll _ (by kernel_rfl) (by kernel_rfl)))
    soloReads_con

theorem soloReads_row : Rows.SoloReadsSaid :=
  OpenClaim.holds_of_wide 7 Tryz.f7 rfl rfl rfl rfl rfl rfl rfl ⟨rfl, rfl, rfl, rfl, rfl⟩ rfl rfl rfl rfl rfl (by kernel_rfl) Tryz.func7 soloReads_jf
    (of_decide_eq_true (by kernel_rfl)) (by unfold Func.isWrapper; first | (rw [if_pos (by decide +kernel)]; kernel_rfl) | (rw [if_neg (by decide +kernel)]; exact ⟨rfl, rfl⟩))
    (fun os started H enc _ => soloReads_lifted os started H enc)

theorem soloReads_named : Tryz.prog.funcNamed Rows.soloReadsRow.func = some 7 := by kernel_rfl
theorem soloReads_card : Rows.SoloReadsCardSaid :=
  Claim7.holds_tied_plain_at .later [] [.data, .data, .data, .data, .pinned] true (true, "9ce38cd0acd78ddf4b93e191045823089ad3b0909ad73fde1580193d20591027") true soloReads_row (fun _ h => by cases h) (by kernel_rfl) (fun _ h => by cases h) soloReads_row_tie rfl ⟨rfl, rfl⟩ (by kernel_rfl) rfl
    (fun f fn hf hfn => by
      obtain rfl : f = 7 := Option.some.inj (soloReads_named.symm.trans hf) |>.symm
      obtain rfl : fn = Tryz.f7 := (Option.some.inj (Tryz.func7.symm.trans hfn)).symm
      exact ⟨by kernel_rfl, fun j t ht => by
        rw [Tryz.params7] at ht
        have hm : t ∈ ([78, 69] : List Nat) := by simpa using Array.mem_of_getElem? ht
        have hall : (([78, 69] : List Nat).all fun u => !Tryz.prog.wantsStandIn u) = true := by kernel_rfl
        exact (show Tryz.prog.wantsStandIn t = false by simpa using List.all_eq_true.1 hall t hm)⟩)
    (by kernel_rfl)
#print axioms soloReads_card
end Go.Proofs.YtnlefnhdhigecaaGreatDoor
