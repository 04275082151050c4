/- The row and the card of 'LockFrees': for every input the call returns true, and each argument reads as it did. -/
import Derived.Test.YtgaeeijpeidncaaDoorAvFrame
import Derived.Test.YtgaeeijpeidncaaDoorAvLaw17S
namespace Go.Proofs.YtgaeeijpeidncaaDoor
open Go.ChangeShapes Go.WideShapes Go.ChangeAt Go.RowKit Av

theorem lockFrees_spec {H : Type} (ds : List (DataW H)) (h : ds.length = Tryd.f7.params.toList.length) : Rows.lockFreesSpec.fn H ds = { results := [.lit (.bool true)], args := ds } := by
  rw [Tryd.params7] at h
  match ds, h with
  | [d1, d2, d3], _ => rfl

set_option maxRecDepth 100000 in
theorem lockFrees_lifted (os : Os) (started : os.Started) (H : Type) (enc : TypeId × Value → H) :
    ReturnsInHanded {} Tryd.checked os 7 .any (fun w args => (Rows.lockFreesSpec.pre enc Tryd.prog Tryd.f7 [] false w args ∧ laidMetH Tryd.prog Rows.lockFreesRow.laid w) ∧ sizedMet enc Tryd.prog Tryd.f7 (OpenSpec.ofChange Rows.lockFreesSpec) false w args)
      (Rows.lockFreesSpec.post enc Tryd.prog Tryd.f7 false true false false) :=
  law_lifted started (by kernel_rfl) Tryd.func7 rfl (by kernel_rfl) (by kernel_rfl) lockFrees_spec
    (ChangeSpec.witness_shaped (enc := enc) (C := Tryd.checked) (os := os) (X := fun w _ => laidMetH Tryd.prog Rows.lockFreesRow.laid w) false (World.laidAll Tryd.prog os Rows.lockFreesRow.laid) #[.slice none 0 0, .int .i64 0, .slice none 0 0] 8 (World.laidAll_os _ _ _)
      (World.shaped_of_ZipB (by kernel_rfl) (by kernel_rfl)) (by kernel_rfl) (by kernel_rfl) (by kernel_rfl)
      (by rw [MakeChecks.laidMetH_plain _ _ _ (by kernel_rfl)]; exact laidMet_laidAll _ (by kernel_rfl) (by kernel_rfl)))
    lockFrees_con

theorem lockFrees_row : Rows.LockFreesSaid :=
  OpenClaim.holds_of_wide 7 Tryd.f7 rfl rfl rfl rfl rfl rfl rfl ⟨rfl, rfl, rfl, rfl, rfl⟩ rfl rfl rfl rfl rfl (by kernel_rfl) Tryd.func7 (by kernel_rfl)
    (of_decide_eq_true (by kernel_rfl)) (by unfold Func.isWrapper; first | (rw [if_pos (by decide +kernel)]; kernel_rfl) | (rw [if_neg (by decide +kernel)]; exact ⟨rfl, rfl⟩))
    (fun os started H enc _ => lockFrees_lifted os started H enc)

theorem lockFrees_named : Tryd.prog.funcNamed Rows.lockFreesRow.func = some 7 := by kernel_rfl
theorem lockFrees_card : Rows.LockFreesCardSaid :=
  Claim7.holds_tied_plain_at .later [] [.data, .pinned] true (true, "b696231d99e4c40207d08ce85cd50b988a36e9bb10acec952a2aefab0b258c44") false lockFrees_row (fun _ h => by cases h) (by kernel_rfl) (fun _ h => by cases h) lockFrees_row_tie rfl ⟨rfl, rfl⟩ (by kernel_rfl) rfl
    (fun f fn hf hfn => by
      obtain rfl : f = 7 := Option.some.inj (lockFrees_named.symm.trans hf) |>.symm
      obtain rfl : fn = Tryd.f7 := (Option.some.inj (Tryd.func7.symm.trans hfn)).symm
      exact ⟨by kernel_rfl, fun j t ht => by
        rw [Tryd.params7] at ht
        have hm : t ∈ ([36, 2, 22] : List Nat) := by simpa using Array.mem_of_getElem? ht
        have hall : (([36, 2, 22] : List Nat).all fun u => !Tryd.prog.wantsStandIn u) = true := by kernel_rfl
        exact (show Tryd.prog.wantsStandIn t = false by simpa using List.all_eq_true.1 hall t hm)⟩)
    (by kernel_rfl)
#print axioms lockFrees_card
end Go.Proofs.YtgaeeijpeidncaaDoor
