/- The row and the card of 'LockApart': for every input the call returns true, and each argument reads as it did. -/
import Derived.Test.YtgaeeijpeidncaaDoorAvFrame
import Derived.Test.YtgaeeijpeidncaaDoorAvLaw17U
namespace Go.Proofs.YtgaeeijpeidncaaDoor
open Go.ChangeShapes Go.WideShapes Go.ChangeAt Go.RowKit Av

theorem lockApart_spec {H : Type} (ds : List (DataW H)) (h : ds.length = Tryd.f6.params.toList.length) : Rows.lockApartSpec.fn H ds = { results := [.lit (.bool true)], args := ds } := by
  rw [Tryd.params6] at h
  match ds, h with
  | [d1], _ => rfl

set_option maxRecDepth 100000 in
theorem lockApart_lifted (os : Os) (started : os.Started) (H : Type) (enc : TypeId × Value → H) :
    ReturnsInHanded {} Tryd.checked os 6 .any (fun w args => (Rows.lockApartSpec.pre enc Tryd.prog Tryd.f6 [] false w args ∧ laidMetH Tryd.prog Rows.lockApartRow.laid w) ∧ sizedMet enc Tryd.prog Tryd.f6 (OpenSpec.ofChange Rows.lockApartSpec) false w args)
      (Rows.lockApartSpec.post enc Tryd.prog Tryd.f6 false true false false) :=
  law_lifted started (by kernel_rfl) Tryd.func6 rfl (by kernel_rfl) (by kernel_rfl) lockApart_spec
    (ChangeSpec.witness_shaped (enc := enc) (C := Tryd.checked) (os := os) (X := fun w _ => laidMetH Tryd.prog Rows.lockApartRow.laid w) false (World.laidAll Tryd.prog os Rows.lockApartRow.laid) #[.slice none 0 0] 8 (World.laidAll_os _ _ _)
      (World.shaped_of_ZipB (by kernel_rfl) (by kernel_rfl)) (by kernel_rfl) (by kernel_rfl) (by kernel_rfl)
      (by rw [MakeChecks.laidMetH_plain _ _ _ (by kernel_rfl)]; exact laidMet_laidAll _ (by kernel_rfl) (by kernel_rfl)))
    lockApart_con

theorem lockApart_row : Rows.LockApartSaid :=
  OpenClaim.holds_of_wide 6 Tryd.f6 rfl rfl rfl rfl rfl rfl rfl ⟨rfl, rfl, rfl, rfl, rfl⟩ rfl rfl rfl rfl rfl (by kernel_rfl) Tryd.func6 (by kernel_rfl)
    (of_decide_eq_true (by kernel_rfl)) (by unfold Func.isWrapper; first | (rw [if_pos (by decide +kernel)]; kernel_rfl) | (rw [if_neg (by decide +kernel)]; exact ⟨rfl, rfl⟩))
    (fun os started H enc _ => lockApart_lifted os started H enc)

theorem lockApart_named : Tryd.prog.funcNamed Rows.lockApartRow.func = some 6 := by kernel_rfl
theorem lockApart_card : Rows.LockApartCardSaid :=
  Claim7.holds_tied_plain_at .later [] [.data, .pinned] true (true, "b696231d99e4c40207d08ce85cd50b988a36e9bb10acec952a2aefab0b258c44") false lockApart_row (fun _ h => by cases h) (by kernel_rfl) (fun _ h => by cases h) lockApart_row_tie rfl ⟨rfl, rfl⟩ (by kernel_rfl) rfl
    (fun f fn hf hfn => by
      obtain rfl : f = 6 := Option.some.inj (lockApart_named.symm.trans hf) |>.symm
      obtain rfl : fn = Tryd.f6 := (Option.some.inj (Tryd.func6.symm.trans hfn)).symm
      exact ⟨by kernel_rfl, fun j t ht => by
        rw [Tryd.params6] at ht
        have hm : t ∈ ([36] : List Nat) := by simpa using Array.mem_of_getElem? ht
        have hall : (([36] : List Nat).all fun u => !Tryd.prog.wantsStandIn u) = true := by kernel_rfl
        exact (show Tryd.prog.wantsStandIn t = false by simpa using List.all_eq_true.1 hall t hm)⟩)
    (by kernel_rfl)
#print axioms lockApart_card
end Go.Proofs.YtgaeeijpeidncaaDoor
