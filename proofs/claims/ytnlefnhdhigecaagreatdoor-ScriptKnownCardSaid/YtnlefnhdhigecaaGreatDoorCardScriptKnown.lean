/- The row and the card of 'ScriptKnown': for every input the call returns true, and each argument reads as it did. -/
import Derived.Test.YtnlefnhdhigecaaGreatDoorAvG36
import Derived.Test.YtnlefnhdhigecaaGreatDoorAvG40
import Derived.Test.YtnlefnhdhigecaaGreatDoorJfScriptKnown
namespace Go.Proofs.YtnlefnhdhigecaaGreatDoor
open Go.ChangeShapes Go.WideShapes Go.ChangeAt Go.RowKit Av

theorem scriptKnown_spec {H : Type} (ds : List (DataW H)) (h : ds.length = Tryz.f9.params.toList.length) : Rows.scriptKnownSpec.fn H ds = { results := [.lit (.bool true)], args := ds } := by
  rw [Tryz.params9] at h
  match ds, h with
  | [], _ => rfl

set_option maxRecDepth 100000 in
theorem scriptKnown_lifted (os : Os) (started : os.Started) (H : Type) (enc : TypeId × Value → H) :
    ReturnsInHanded {} Tryz.checked os 9 .any (fun w args => (Rows.scriptKnownSpec.pre enc Tryz.prog Tryz.f9 [] false w args ∧ laidMetH Tryz.prog Rows.scriptKnownRow.laid w) ∧ sizedMet enc Tryz.prog Tryz.f9 (OpenSpec.ofChange Rows.scriptKnownSpec) false w args)
      (Rows.scriptKnownSpec.post enc Tryz.prog Tryz.f9 false true false false) :=
  law_lifted_laid started (by kernel_rfl) Tryz.func9 rfl (by kernel_rfl) (by kernel_rfl) (by kernel_rfl) scriptKnown_spec
    (ChangeSpec.witness_shaped (enc := enc) (C := Tryz.checked) (os := os) (X := fun w _ => laidMetH Tryz.prog Rows.scriptKnownRow.laid w) false (World.laidAll Tryz.prog os Rows.scriptKnownRow.laid) #[] 8 (World.laidAll_os _ _ _)
      (World.shaped_of_ZipB (by kernel_rfl) (by kernel_rfl)) (by kernel_rfl) (by kernel_rfl) (by kernel_rfl)
      (by rw [MakeChecks.laidMetH_plain _ _ _ (by kernel_rfl)]; exact laidMet_laidAll _ (by kernel_rfl) (by kernel_rfl)))
    scriptKnown_con

theorem scriptKnown_row : Rows.ScriptKnownSaid :=
  OpenClaim.holds_of_wide 9 Tryz.f9 rfl rfl rfl rfl rfl rfl rfl ⟨rfl, rfl, rfl, rfl, rfl⟩ rfl rfl rfl rfl rfl (by kernel_rfl) Tryz.func9 scriptKnown_jf
    (of_decide_eq_true (by kernel_rfl)) (by unfold Func.isWrapper; first | (rw [if_pos (by decide +kernel)]; kernel_rfl) | (rw [if_neg (by decide +kernel)]; exact ⟨rfl, rfl⟩))
    (fun os started H enc _ => scriptKnown_lifted os started H enc)

theorem scriptKnown_named : Tryz.prog.funcNamed Rows.scriptKnownRow.func = some 9 := by kernel_rfl
theorem scriptKnown_card : Rows.ScriptKnownCardSaid :=
  Claim7.holds_tied_plain_at .later [] [.data, .data, .data, .data, .sentinel, .sentinel, .pinned] true (true, "9ce38cd0acd78ddf4b93e191045823089ad3b0909ad73fde1580193d20591027") true scriptKnown_row (fun _ h => by cases h) (by as_aux_lemma => kernel_rfl) (fun _ h => by cases h) scriptKnown_row_tie rfl ⟨rfl, rfl⟩ (by as_aux_lemma => kernel_rfl) rfl
    (fun f fn hf hfn => by
      obtain rfl : f = 9 := Option.some.inj (scriptKnown_named.symm.trans hf) |>.symm
      obtain rfl : fn = Tryz.f9 := (Option.some.inj (Tryz.func9.symm.trans hfn)).symm
      exact ⟨by as_aux_lemma => kernel_rfl, fun j t ht => by
        rw [Tryz.params9] at ht
        have hm : t ∈ ([] : List Nat) := by simpa using Array.mem_of_getElem? ht
        have hall : (([] : List Nat).all fun u => !Tryz.prog.wantsStandIn u) = true := by as_aux_lemma => kernel_rfl
        exact (show Tryz.prog.wantsStandIn t = false by simpa using List.all_eq_true.1 hall t hm)⟩)
    (by as_aux_lemma => kernel_rfl)
#print axioms scriptKnown_card
end Go.Proofs.YtnlefnhdhigecaaGreatDoor
