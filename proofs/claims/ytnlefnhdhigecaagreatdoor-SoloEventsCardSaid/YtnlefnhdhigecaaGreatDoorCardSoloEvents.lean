/- The row and the card of 'SoloEvents': for every input the call returns true, and each argument reads as it did. -/
import Derived.Test.YtnlefnhdhigecaaGreatDoorAvG38
import Derived.Test.YtnlefnhdhigecaaGreatDoorAvG40
import Derived.Test.YtnlefnhdhigecaaGreatDoorJfSoloEvents
namespace Go.Proofs.YtnlefnhdhigecaaGreatDoor
open Go.ChangeShapes Go.WideShapes Go.ChangeAt Go.RowKit Av

theorem soloEvents_spec {H : Type} (ds : List (DataW H)) (h : ds.length = Tryz.f5.params.toList.length) : Rows.soloEventsSpec.fn H ds = { results := [.lit (.bool true)], args := ds } := by
  rw [Tryz.params5] at h
  match ds, h with
  | [d1, d2], _ => rfl

set_option maxRecDepth 100000 in
theorem soloEvents_lifted (os : Os) (started : os.Started) (H : Type) (enc : TypeId × Value → H) :
    ReturnsInHanded {} Tryz.checked os 5 .any (fun w args => (Rows.soloEventsSpec.pre enc Tryz.prog Tryz.f5 [] false w args ∧ laidMetH Tryz.prog Rows.soloEventsRow.laid w) ∧ sizedMet enc Tryz.prog Tryz.f5 (OpenSpec.ofChange Rows.soloEventsSpec) false w args)
      (Rows.soloEventsSpec.post enc Tryz.prog Tryz.f5 false true false false) :=
  law_lifted_laid started (by kernel_rfl) Tryz.func5 rfl (by kernel_rfl) (by kernel_rfl) (by kernel_rfl) soloEvents_spec
    (ChangeSpec.witness_shaped (enc := enc) (C := Tryz.checked) (os := os) (X := fun w _ => laidMetH Tryz.prog Rows.soloEventsRow.laid w) false (World.laidAll Tryz.prog os Rows.soloEventsRow.laid) #[.int .i64 0, .bool false] 8 (World.laidAll_os _ _ _)
      (World.shaped_of_ZipB (by kernel_rfl) (by kernel_rfl)) (by kernel_rfl) (by kernel_rfl) (by kernel_rfl)
      (by rw [MakeChecks.laidMetH_plain _ _ _ (by kernel_rfl)]; exact laidMet_laidAll _ (by kernel_rfl) (by kernel_rfl)))
    soloEvents_con

theorem soloEvents_row : Rows.SoloEventsSaid :=
  OpenClaim.holds_of_wide 5 Tryz.f5 rfl rfl rfl rfl rfl rfl rfl ⟨rfl, rfl, rfl, rfl, rfl⟩ rfl rfl rfl rfl rfl (by kernel_rfl) Tryz.func5 soloEvents_jf
    (of_decide_eq_true (by kernel_rfl)) (by unfold Func.isWrapper; first | (rw [if_pos (by decide +kernel)]; kernel_rfl) | (rw [if_neg (by decide +kernel)]; exact ⟨rfl, rfl⟩))
    (fun os started H enc _ => soloEvents_lifted os started H enc)

theorem soloEvents_named : Tryz.prog.funcNamed Rows.soloEventsRow.func = some 5 := by kernel_rfl
theorem soloEvents_card : Rows.SoloEventsCardSaid :=
  Claim7.holds_tied_plain_at .later [] [.data, .data, .data, .data, .pinned] true (true, "9ce38cd0acd78ddf4b93e191045823089ad3b0909ad73fde1580193d20591027") true soloEvents_row (fun _ h => by cases h) (by kernel_rfl) (fun _ h => by cases h) soloEvents_row_tie rfl ⟨rfl, rfl⟩ (by kernel_rfl) rfl
    (fun f fn hf hfn => by
      obtain rfl : f = 5 := Option.some.inj (soloEvents_named.symm.trans hf) |>.symm
      obtain rfl : fn = Tryz.f5 := (Option.some.inj (Tryz.func5.symm.trans hfn)).symm
      exact ⟨by kernel_rfl, fun j t ht => by
        rw [Tryz.params5] at ht
        have hm : t ∈ ([3, 4] : List Nat) := by simpa using Array.mem_of_getElem? ht
        have hall : (([3, 4] : List Nat).all fun u => !Tryz.prog.wantsStandIn u) = true := by kernel_rfl
        exact (show Tryz.prog.wantsStandIn t = false by simpa using List.all_eq_true.1 hall t hm)⟩)
    (by kernel_rfl)
#print axioms soloEvents_card
end Go.Proofs.YtnlefnhdhigecaaGreatDoor
