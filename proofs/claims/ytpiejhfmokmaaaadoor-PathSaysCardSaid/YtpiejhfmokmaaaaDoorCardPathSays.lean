/- The row and the card of 'PathSays': for every input the call returns true, and each argument reads as it did. -/
import Derived.Test.YtpiejhfmokmaaaaDoorAvFrameL
import Derived.Test.YtpiejhfmokmaaaaDoorAvLaw1Y
namespace Go.Proofs.YtpiejhfmokmaaaaDoor
open Go.ChangeShapes Go.WideShapes Go.ChangeAt Go.RowKit Av

theorem pathSays_spec {H : Type} (ds : List (DataW H)) (h : ds.length = Tryd.f3.params.toList.length) : Rows.pathSaysSpec.fn H ds = { results := [.lit (.bool true)], args := ds } := by
  rw [Tryd.params3] at h
  match ds, h with
  | [d1, d2, d3], _ => rfl

set_option maxRecDepth 100000 in
theorem pathSays_lifted (os : Os) (started : os.Started) (H : Type) (enc : TypeId × Value → H) :
    ReturnsInHanded {} Tryd.checked os 3 .any (fun w args => (Rows.pathSaysSpec.pre enc Tryd.prog Tryd.f3 [] false w args ∧ laidMetH Tryd.prog Rows.pathSaysRow.laid w) ∧ sizedMet enc Tryd.prog Tryd.f3 (OpenSpec.ofChange Rows.pathSaysSpec) false w args)
      (Rows.pathSaysSpec.post enc Tryd.prog Tryd.f3 false true false false) :=
  law_lifted_laid started (by kernel_rfl) Tryd.func3 rfl (by kernel_rfl) (by kernel_rfl) (by kernel_rfl) pathSays_spec
    (ChangeSpec.witness_shaped (enc := enc) (C := Tryd.checked) (os := os) (X := fun w _ => laidMetH Tryd.prog Rows.pathSaysRow.laid w) false (World.laidAll Tryd.prog os Rows.pathSaysRow.laid) #[.string ByteArray.empty, .string ByteArray.empty, .int .i64 0] 8 (World.laidAll_os _ _ _)
      (World.shaped_of_ZipB (by kernel_rfl) (by kernel_rfl)) (by kernel_rfl) (by kernel_rfl) (by kernel_rfl)
      (by rw [MakeChecks.laidMetH_plain _ _ _ (by kernel_rfl)]; exact laidMet_laidAll _ (by kernel_rfl) (by kernel_rfl)))
    pathSays_con

theorem pathSays_row : Rows.PathSaysSaid :=
  OpenClaim.holds_of_wide 3 Tryd.f3 rfl rfl rfl rfl rfl rfl rfl ⟨rfl, rfl, rfl, rfl, rfl⟩ rfl rfl rfl rfl rfl (by kernel_rfl) Tryd.func3 (by kernel_rfl)
    (of_decide_eq_true (by kernel_rfl)) (by unfold Func.isWrapper; first | (rw [if_pos (by decide +kernel)]; kernel_rfl) | (rw [if_neg (by decide +kernel)]; exact ⟨rfl, rfl⟩))
    (fun os started H enc _ => pathSays_lifted os started H enc)

theorem pathSays_named : Tryd.prog.funcNamed Rows.pathSaysRow.func = some 3 := by kernel_rfl
theorem pathSays_card : Rows.PathSaysCardSaid :=
  Claim7.holds_tied_plain_at .later [] [.data, .data, .data, .data, .pinned] true (true, "af4f6c713dee143bc993b193b5b3268af67652740cad601683f07046889d4dba") false pathSays_row (fun _ h => by cases h) (by kernel_rfl) (fun _ h => by cases h) pathSays_row_tie rfl ⟨rfl, rfl⟩ (by kernel_rfl) rfl
    (fun f fn hf hfn => by
      obtain rfl : f = 3 := Option.some.inj (pathSays_named.symm.trans hf) |>.symm
      obtain rfl : fn = Tryd.f3 := (Option.some.inj (Tryd.func3.symm.trans hfn)).symm
      exact ⟨by kernel_rfl, fun j t ht => by
        rw [Tryd.params3] at ht
        have hm : t ∈ ([9, 9, 3] : List Nat) := by simpa using Array.mem_of_getElem? ht
        have hall : (([9, 9, 3] : List Nat).all fun u => !Tryd.prog.wantsStandIn u) = true := by kernel_rfl
        exact (show Tryd.prog.wantsStandIn t = false by simpa using List.all_eq_true.1 hall t hm)⟩)
    (by kernel_rfl)
#print axioms pathSays_card
end Go.Proofs.YtpiejhfmokmaaaaDoor
