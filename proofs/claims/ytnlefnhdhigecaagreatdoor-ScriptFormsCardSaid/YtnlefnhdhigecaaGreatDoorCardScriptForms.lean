/- The row and the card of 'ScriptForms': for every input the call returns true, and each argument reads as it did. -/
import Derived.Test.YtnlefnhdhigecaaGreatDoorAvG36
import Derived.Test.YtnlefnhdhigecaaGreatDoorAvG40
import Derived.Test.YtnlefnhdhigecaaGreatDoorJfScriptForms
namespace Go.Proofs.YtnlefnhdhigecaaGreatDoor
open Go.ChangeShapes Go.WideShapes Go.ChangeAt Go.RowKit Av

theorem scriptForms_spec {H : Type} (ds : List (DataW H)) (h : ds.length = Tryz.f10.params.toList.length) : Rows.scriptFormsSpec.fn H ds = { results := [.lit (.bool true)], args := ds } := by
  rw [Tryz.params10] at h
  match ds, h with
  | [d1, d2], _ => rfl

set_option maxRecDepth 100000 in
theorem scriptForms_lifted (os : Os) (started : os.Started) (H : Type) (enc : TypeId × Value → H) :
    ReturnsInHanded {} Tryz.checked os 10 .any (fun w args => (Rows.scriptFormsSpec.pre enc Tryz.prog Tryz.f10 [] false w args ∧ laidMetH Tryz.prog Rows.scriptFormsRow.laid w) ∧ sizedMet enc Tryz.prog Tryz.f10 (OpenSpec.ofChange Rows.scriptFormsSpec) false w args)
      (Rows.scriptFormsSpec.post enc Tryz.prog Tryz.f10 false true false false) :=
  law_lifted_laid started (by kernel_rfl) Tryz.func10 rfl (by kernel_rfl) (by kernel_rfl) (by kernel_rfl) scriptForms_spec
    (ChangeSpec.witness_shaped (enc := enc) (C := Tryz.checked) (os := os) (X := fun w _ => laidMetH Tryz.prog Rows.scriptFormsRow.laid w) false (World.laidAll Tryz.prog os Rows.scriptFormsRow.laid) #[.int .i64 0, .int .i64 0] 8 (World.laidAll_os _ _ _)
      (World.shaped_of_ZipB (by kernel_rfl) (by kernel_rfl)) (by kernel_rfl) (by kernel_rfl) (by kernel_rfl)
      (by rw [MakeChecks.laidMetH_plain _ _ _ (by kernel_rfl)]; exact laidMet_laidAll _ (by kernel_rfl) (by kernel_rfl)))
    scriptForms_con

theorem scriptForms_row : Rows.ScriptFormsSaid :=
  OpenClaim.holds_of_wide 10 Tryz.f10 rfl rfl rfl rfl rfl rfl rfl ⟨rfl, rfl, rfl, rfl, rfl⟩ rfl rfl rfl rfl rfl (by kernel_rfl) Tryz.func10 scriptForms_jf
    (of_decide_eq_true (by kernel_rfl)) (by unfold Func.isWrapper; first | (rw [if_pos (by decide +kernel)]; kernel_rfl) | (rw [if_neg (by decide +kernel)]; exact ⟨rfl, rfl⟩))
    (fun os started H enc _ => scriptForms_lifted os started H enc)

theorem scriptForms_named : Tryz.prog.funcNamed Rows.scriptFormsRow.func = some 10 := by kernel_rfl
theorem scriptForms_card : Rows.ScriptFormsCardSaid :=
  Claim7.holds_tied_plain_at .later [] [.data, .data, .data, .data, .sentinel, .sentinel, .pinned] true (true, "9ce38cd0acd78ddf4b93e191045823089ad3b0909ad73fde1580193d20591027") true scriptForms_row (fun _ h => by cases h) (by as_aux_lemma => kernel_rfl) (fun _ h => by cases h) scriptForms_row_tie rfl ⟨rfl, rfl⟩ (by as_aux_lemma => kernel_rfl) rfl
    (fun f fn hf hfn => by
      obtain rfl : f = 10 := Option.some.inj (scriptForms_named.symm.trans hf) |>.symm
      obtain rfl : fn = Tryz.f10 := (Option.some.inj (Tryz.func10.symm.trans hfn)).symm
      exact ⟨by as_aux_lemma => kernel_rfl, fun j t ht => by
        rw [Tryz.params10] at ht
        have hm : t ∈ ([3, 3] : List Nat) := by simpa using Array.mem_of_getElem? ht
        have hall : (([3, 3] : List Nat).all fun u => !Tryz.prog.wantsStandIn u) = true := by as_aux_lemma => kernel_rfl
        exact (show Tryz.prog.wantsStandIn t = false by simpa using List.all_eq_true.1 hall t hm)⟩)
    (by as_aux_lemma => kernel_rfl)
#print axioms scriptForms_card
end Go.Proofs.YtnlefnhdhigecaaGreatDoor
