/- The row and the card of 'PathKnown': for every input the call returns true, and each argument reads as it did. -/
import Derived.Test.YtpiejhfmokmaaaaDoorAvFrameL
import Derived.Test.YtpiejhfmokmaaaaDoorAvLaw1X
namespace Go.Proofs.YtpiejhfmokmaaaaDoor
open Go.ChangeShapes Go.WideShapes Go.ChangeAt Go.RowKit Av

theorem pathKnown_spec {H : Type} (ds : List (DataW H)) (h : ds.length = Tryd.f8.params.toList.length) : Rows.pathKnownSpec.fn H ds = { results := [.lit (.bool true)], args := ds } := by
  rw [Tryd.params8] at h
  match ds, h with
  | [], _ => rfl

set_option maxRecDepth 100000 in
theorem pathKnown_lifted (os : Os) (started : os.Started) (H : Type) (enc : TypeId × Value → H) :
    ReturnsInHanded {} Tryd.checked os 8 .any (fun w args => (Rows.pathKnownSpec.pre enc Tryd.prog Tryd.f8 [] false w args ∧ laidMetH Tryd.prog Rows.pathKnownRow.laid w) ∧ sizedMet enc Tryd.prog Tryd.f8 (OpenSpec.ofChange Rows.pathKnownSpec) false w args)
      (Rows.pathKnownSpec.post enc Tryd.prog Tryd.f8 false true false false) :=
  law_lifted_laid started (by kernel_rfl) Tryd.func8 rfl (by kernel_rfl) (by kernel_rfl) (by kernel_rfl) pathKnown_spec
    (ChangeSpec.witness_shaped (enc := enc) (C := Tryd.checked) (os := os) (X := fun w _ => laidMetH Tryd.prog Rows.pathKnownRow.laid w) false (World.laidAll Tryd.prog os Rows.pathKnownRow.laid) #[] 8 (World.laidAll_os _ _ _)
      (World.shaped_of_ZipB (by kernel_rfl) (by kernel_rfl)) (by kernel_rfl) (by kernel_rfl) (by kernel_rfl)
      (by rw [MakeChecks.laidMetH_plain _ _ _ (by kernel_rfl)]; exact laidMet_laidAll _ (by kernel_rfl) (by kernel_rfl)))
    pathKnown_con

theorem pathKnown_row : Rows.PathKnownSaid :=
  OpenClaim.holds_of_wide 8 Tryd.f8 rfl rfl rfl rfl rfl rfl rfl ⟨rfl, rfl, rfl, rfl, rfl⟩ rfl rfl rfl rfl rfl (by kernel_rfl) Tryd.func8 (by kernel_rfl)
    (of_decide_eq_true (by kernel_rfl)) (by unfold Func.isWrapper; first | (rw [if_pos (by decide +kernel)]; kernel_rfl) | (rw [if_neg (by decide +kernel)]; exact ⟨rfl, rfl⟩))
    (fun os started H enc _ => pathKnown_lifted os started H enc)

theorem pathKnown_named : Tryd.prog.funcNamed Rows.pathKnownRow.func = some 8 := by kernel_rfl
theorem pathKnown_card : Rows.PathKnownCardSaid :=
  Claim7.holds_tied_plain_at .later [] [.data, .data, .data, .data, .pinned] true (true, "af4f6c713dee143bc993b193b5b3268af67652740cad601683f07046889d4dba") false pathKnown_row (fun _ h => by cases h) (by kernel_rfl) (fun _ h => by cases h) pathKnown_row_tie rfl ⟨rfl, rfl⟩ (by kernel_rfl) rfl
    (fun f fn hf hfn => by
      obtain rfl : f = 8 := Option.some.inj (pathKnown_named.symm.trans hf) |>.symm
      obtain rfl : fn = Tryd.f8 := (Option.some.inj (Tryd.func8.symm.trans hfn)).symm
      exact ⟨by kernel_rfl, fun j t ht => by
        rw [Tryd.params8] at ht
        have hm : t ∈ ([] : List Nat) := by simpa using Array.mem_of_getElem? ht
        have hall : (([] : List Nat).all fun u => !Tryd.prog.wantsStandIn u) = true := by kernel_rfl
        exact (show Tryd.prog.wantsStandIn t = false by simpa using List.all_eq_true.1 hall t hm)⟩)
    (by kernel_rfl)
#print axioms pathKnown_card
end Go.Proofs.YtpiejhfmokmaaaaDoor
