/- The row and the card of 'LockFar': for every input the call returns true, and each argument reads as it did. -/
import Derived.Test.YtgaeeijpeidncaaDoorAvFrame
import Derived.Test.YtgaeeijpeidncaaDoorAvLaw17G
namespace Go.Proofs.YtgaeeijpeidncaaDoor
open Go.ChangeShapes Go.WideShapes Go.ChangeAt Go.RowKit Av

theorem lockFar_spec {H : Type} (ds : List (DataW H)) (h : ds.length = Tryd.f3.params.toList.length) : Rows.lockFarSpec.fn H ds = { results := [.lit (.bool true)], args := ds } := by
  rw [Tryd.params3] at h
  match ds, h with
  | [d1, d2], _ => rfl

set_option maxRecDepth 100000 in
theorem lockFar_lifted (os : Os) (started : os.Started) (H : Type) (enc : TypeId × Value → H) :
    ReturnsInHanded {} Tryd.checked os 3 .any (fun w args => (Rows.lockFarSpec.pre enc Tryd.prog Tryd.f3 [] false w args ∧ laidMetH Tryd.prog Rows.lockFarRow.laid w) ∧ sizedMet enc Tryd.prog Tryd.f3 (OpenSpec.ofChange Rows.lockFarSpec) false w args)
      (Rows.lockFarSpec.post enc Tryd.prog Tryd.f3 false true false false) :=
  law_lifted started (by kernel_rfl) Tryd.func3 rfl (by kernel_rfl) (by kernel_rfl) lockFar_spec
    (ChangeSpec.witness_shaped (enc := enc) (C := Tryd.checked) (os := os) (X := fun w _ => laidMetH Tryd.prog Rows.lockFarRow.laid w) false (World.laidAll Tryd.prog os Rows.lockFarRow.laid) #[.slice none 0 0, .slice none 0 0] 8 (World.laidAll_os _ _ _)
      (World.shaped_of_ZipB (by kernel_rfl) (by kernel_rfl)) (by kernel_rfl) (by kernel_rfl) (by kernel_rfl)
      (by rw [MakeChecks.laidMetH_plain _ _ _ (by kernel_rfl)]; exact laidMet_laidAll _ (by kernel_rfl) (by kernel_rfl)))
    lockFar_con

theorem lockFar_row : Rows.LockFarSaid :=
  OpenClaim.holds_of_wide 3 Tryd.f3 rfl rfl rfl rfl rfl rfl rfl ⟨rfl, rfl, rfl, rfl, rfl⟩ rfl rfl rfl rfl rfl (by kernel_rfl) Tryd.func3 (by kernel_rfl)
    (of_decide_eq_true (by kernel_rfl)) (by unfold Func.isWrapper; first | (rw [if_pos (by decide +kernel)]; kernel_rfl) | (rw [if_neg (by decide +kernel)]; exact ⟨rfl, rfl⟩))
    (fun os started H enc _ => lockFar_lifted os started H enc)

theorem lockFar_named : Tryd.prog.funcNamed Rows.lockFarRow.func = some 3 := by kernel_rfl
theorem lockFar_card : Rows.LockFarCardSaid :=
  Claim7.holds_tied_plain_at .later [] [.data, .pinned] true (true, "b696231d99e4c40207d08ce85cd50b988a36e9bb10acec952a2aefab0b258c44") false lockFar_row (fun _ h => by cases h) (by kernel_rfl) (fun _ h => by cases h) lockFar_row_tie rfl ⟨rfl, rfl⟩ (by kernel_rfl) rfl
    (fun f fn hf hfn => by
      obtain rfl : f = 3 := Option.some.inj (lockFar_named.symm.trans hf) |>.symm
      obtain rfl : fn = Tryd.f3 := (Option.some.inj (Tryd.func3.symm.trans hfn)).symm
      exact ⟨by kernel_rfl, fun j t ht => by
        rw [Tryd.params3] at ht
        have hm : t ∈ ([22, 22] : List Nat) := by simpa using Array.mem_of_getElem? ht
        have hall : (([22, 22] : List Nat).all fun u => !Tryd.prog.wantsStandIn u) = true := by kernel_rfl
        exact (show Tryd.prog.wantsStandIn t = false by simpa using List.all_eq_true.1 hall t hm)⟩)
    (by kernel_rfl)
#print axioms lockFar_card
end Go.Proofs.YtgaeeijpeidncaaDoor
