/- The row and the card of 'LockPlays': for every input the call returns true, and each argument reads as it did. -/
import Derived.Test.YtdaoamnemkiloaaDoorAvFrame
import Derived.Test.YtdaoamnemkiloaaDoorAvLaw17W
namespace Go.Proofs.YtdaoamnemkiloaaDoor
open Go.ChangeShapes Go.WideShapes Go.ChangeAt Go.RowKit Av

theorem lockPlays_spec {H : Type} (ds : List (DataW H)) (h : ds.length = Tryd.f5.params.toList.length) : Rows.lockPlaysSpec.fn H ds = { results := [.lit (.bool true)], args := ds } := by
  rw [Tryd.params5] at h
  match ds, h with
  | [d1, d2], _ => rfl

set_option maxRecDepth 100000 in
theorem lockPlays_lifted (os : Os) (started : os.Started) (H : Type) (enc : TypeId × Value → H) :
    ReturnsInHanded {} Tryd.checked os 5 .any (fun w args => (Rows.lockPlaysSpec.pre enc Tryd.prog Tryd.f5 [] false w args ∧ laidMetH Tryd.prog Rows.lockPlaysRow.laid w) ∧ sizedMet enc Tryd.prog Tryd.f5 (OpenSpec.ofChange Rows.lockPlaysSpec) false w args)
      (Rows.lockPlaysSpec.post enc Tryd.prog Tryd.f5 false true false false) :=
  law_lifted started (by kernel_rfl) Tryd.func5 rfl (by kernel_rfl) (by kernel_rfl) lockPlays_spec
    (ChangeSpec.witness_shaped (enc := enc) (C := Tryd.checked) (os := os) (X := fun w _ => laidMetH Tryd.prog Rows.lockPlaysRow.laid w) false (World.laidAll Tryd.prog os Rows.lockPlaysRow.laid) #[.slice none 0 0, .string ⟨#[]⟩] 8 (World.laidAll_os _ _ _)
      (World.shaped_of_ZipB (by kernel_rfl) (by kernel_rfl)) (by kernel_rfl) (by kernel_rfl) (by kernel_rfl)
      (by rw [MakeChecks.laidMetH_plain _ _ _ (by kernel_rfl)]; exact laidMet_laidAll _ (by kernel_rfl) (by kernel_rfl)))
    lockPlays_con

theorem lockPlays_row : Rows.LockPlaysSaid :=
  OpenClaim.holds_of_wide 5 Tryd.f5 rfl rfl rfl rfl rfl rfl rfl ⟨rfl, rfl, rfl, rfl, rfl⟩ rfl rfl rfl rfl rfl (by kernel_rfl) Tryd.func5 (by kernel_rfl)
    (of_decide_eq_true (by kernel_rfl)) (by unfold Func.isWrapper; first | (rw [if_pos (by decide +kernel)]; kernel_rfl) | (rw [if_neg (by decide +kernel)]; exact ⟨rfl, rfl⟩))
    (fun os started H enc _ => lockPlays_lifted os started H enc)

theorem lockPlays_named : Tryd.prog.funcNamed Rows.lockPlaysRow.func = some 5 := by kernel_rfl
theorem lockPlays_card : Rows.LockPlaysCardSaid :=
  Claim7.holds_tied_plain_at .later [] [.data, .pinned] true (true, "b696231d99e4c40207d08ce85cd50b988a36e9bb10acec952a2aefab0b258c44") false lockPlays_row (fun _ h => by cases h) (by kernel_rfl) (fun _ h => by cases h) lockPlays_row_tie rfl ⟨rfl, rfl⟩ (by kernel_rfl) rfl
    (fun f fn hf hfn => by
      obtain rfl : f = 5 := Option.some.inj (lockPlays_named.symm.trans hf) |>.symm
      obtain rfl : fn = Tryd.f5 := (Option.some.inj (Tryd.func5.symm.trans hfn)).symm
      exact ⟨by kernel_rfl, fun j t ht => by
        rw [Tryd.params5] at ht
        have hm : t ∈ ([36, 9] : List Nat) := by simpa using Array.mem_of_getElem? ht
        have hall : (([36, 9] : List Nat).all fun u => !Tryd.prog.wantsStandIn u) = true := by kernel_rfl
        exact (show Tryd.prog.wantsStandIn t = false by simpa using List.all_eq_true.1 hall t hm)⟩)
    (by kernel_rfl)
#print axioms lockPlays_card
end Go.Proofs.YtdaoamnemkiloaaDoor
