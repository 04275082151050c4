/- The row and the card of 'ScriptAgain': for every input the call returns true, and each argument reads as it did. -/
import Derived.Test.YtnlefnhdhigecaaGreatDoorAvG36
import Derived.Test.YtnlefnhdhigecaaGreatDoorAvG40
import Derived.Test.YtnlefnhdhigecaaGreatDoorJfScriptAgain
namespace Go.Proofs.YtnlefnhdhigecaaGreatDoor
open Go.ChangeShapes Go.WideShapes Go.ChangeAt Go.RowKit Av

theorem scriptAgain_spec {H : Type} (ds : List (DataW H)) (h : ds.length = Tryz.f12.params.toList.length) : Rows.scriptAgainSpec.fn H ds = { results := [.lit (.bool true)], args := ds } := by
  rw [Tryz.params12] at h
  match ds, h with
  | [d1], _ => rfl

set_option maxRecDepth 100000 in
theorem scriptAgain_lifted (os : Os) (started : os.Started) (H : Type) (enc : TypeId × Value → H) :
    ReturnsInHanded {} Tryz.checked os 12 .any (fun w args => (Rows.scriptAgainSpec.pre enc Tryz.prog Tryz.f12 [] false w args ∧ laidMetH Tryz.prog Rows.scriptAgainRow.laid w) ∧ sizedMet enc Tryz.prog Tryz.f12 (OpenSpec.ofChange Rows.scriptAgainSpec) false w args)
      (Rows.scriptAgainSpec.post enc Tryz.prog Tryz.f12 false true false false) :=
  law_lifted_laid started (by kernel_rfl) Tryz.func12 rfl (by kernel_rfl) (by kernel_rfl) (by kernel_rfl) scriptAgain_spec
    (ChangeSpec.witness_shaped (enc := enc) (C := Tryz.checked) (os := os) (X := fun w _ => laidMetH Tryz.prog Rows.scriptAgainRow.laid w) false (World.laidAll Tryz.prog os Rows.scriptAgainRow.laid) #[.string ⟨#[]⟩] 8 (World.laidAll_os _ _ _)
      (World.shaped_of_ZipB (by kernel_rfl) (by kernel_rfl)) (by kernel_rfl) (by kernel_rfl) (by kernel_rfl)
      (by rw [MakeChecks.laidMetH_plain _ _ _ (by kernel_rfl)]; exact laidMet_laidAll _ (by kernel_rfl) (by kernel_rfl)))
    scriptAgain_con

theorem scriptAgain_row : Rows.ScriptAgainSaid :=
  OpenClaim.holds_of_wide 12 Tryz.f12 rfl rfl rfl rfl rfl rfl rfl ⟨rfl, rfl, rfl, rfl, rfl⟩ rfl rfl rfl rfl rfl (by kernel_rfl) Tryz.func12 scriptAgain_jf
    (of_decide_eq_true (by kernel_rfl)) (by unfold Func.isWrapper; first | (rw [if_pos (by decide +kernel)]; kernel_rfl) | (rw [if_neg (by decide +kernel)]; exact ⟨rfl, rfl⟩))
    (fun os started H enc _ => scriptAgain_lifted os started H enc)

theorem scriptAgain_named : Tryz.prog.funcNamed Rows.scriptAgainRow.func = some 12 := by kernel_rfl
theorem scriptAgain_card : Rows.ScriptAgainCardSaid :=
  Claim7.holds_tied_plain_at .later [] [.data, .data, .data, .data, .sentinel, .sentinel, .pinned] true (true, "9ce38cd0acd78ddf4b93e191045823089ad3b0909ad73fde1580193d20591027") true scriptAgain_row (fun _ h => by cases h) (by as_aux_lemma => kernel_rfl) (fun _ h => by cases h) scriptAgain_row_tie rfl ⟨rfl, rfl⟩ (by as_aux_lemma => kernel_rfl) rfl
    (fun f fn hf hfn => by
      obtain rfl : f = 12 := Option.some.inj (scriptAgain_named.symm.trans hf) |>.symm
      obtain rfl : fn = Tryz.f12 := (Option.some.inj (Tryz.func12.symm.trans hfn)).symm
      exact ⟨by as_aux_lemma => kernel_rfl, fun j t ht => by
        rw [Tryz.params12] at ht
        have hm : t ∈ ([9] : List Nat) := by simpa using Array.mem_of_getElem? ht
        have hall : (([9] : List Nat).all fun u => !Tryz.prog.wantsStandIn u) = true := by as_aux_lemma => kernel_rfl
        exact (show Tryz.prog.wantsStandIn t = false by simpa using List.all_eq_true.1 hall t hm)⟩)
    (by as_aux_lemma => kernel_rfl)
#print axioms scriptAgain_card
end Go.Proofs.YtnlefnhdhigecaaGreatDoor
