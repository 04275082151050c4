/- The row and the card of 'ScriptTurns': for every input the call returns true, and each argument reads as it did. -/
import Derived.Test.YtnlefnhdhigecaaGreatDoorAvG36
import Derived.Test.YtnlefnhdhigecaaGreatDoorAvG40
import Derived.Test.YtnlefnhdhigecaaGreatDoorJfScriptTurns
namespace Go.Proofs.YtnlefnhdhigecaaGreatDoor
open Go.ChangeShapes Go.WideShapes Go.ChangeAt Go.RowKit Av

theorem scriptTurns_spec {H : Type} (ds : List (DataW H)) (h : ds.length = Tryz.f11.params.toList.length) : Rows.scriptTurnsSpec.fn H ds = { results := [.lit (.bool true)], args := ds } := by
  rw [Tryz.params11] at h
  match ds, h with
  | [d1, d2], _ => rfl

set_option maxRecDepth 100000 in
theorem scriptTurns_lifted (os : Os) (started : os.Started) (H : Type) (enc : TypeId × Value → H) :
    ReturnsInHanded {} Tryz.checked os 11 .any (fun w args => (Rows.scriptTurnsSpec.pre enc Tryz.prog Tryz.f11 [] false w args ∧ laidMetH Tryz.prog Rows.scriptTurnsRow.laid w) ∧ sizedMet enc Tryz.prog Tryz.f11 (OpenSpec.ofChange Rows.scriptTurnsSpec) false w args)
      (Rows.scriptTurnsSpec.post enc Tryz.prog Tryz.f11 false true false false) :=
  law_lifted_laid started (by kernel_rfl) Tryz.func11 rfl (by kernel_rfl) (by kernel_rfl) (by kernel_rfl) scriptTurns_spec
    (ChangeSpec.witness_shaped (enc := enc) (C := Tryz.checked) (os := os) (X := fun w _ => laidMetH Tryz.prog Rows.scriptTurnsRow.laid w) false (World.laidAll Tryz.prog os Rows.scriptTurnsRow.laid) #[.string ⟨#[]⟩, .string ⟨#[]⟩] 8 (World.laidAll_os _ _ _)
      (World.shaped_of_ZipB (by kernel_rfl) (by kernel_rfl)) (by kernel_rfl) (by kernel_rfl) (by kernel_rfl)
      (by rw [MakeChecks.laidMetH_plain _ _ _ (by kernel_rfl)]; exact laidMet_laidAll _ (by kernel_rfl) (by kernel_rfl)))
    scriptTurns_con

theorem scriptTurns_row : Rows.ScriptTurnsSaid :=
  OpenClaim.holds_of_wide 11 Tryz.f11 rfl rfl rfl rfl rfl rfl rfl ⟨rfl, rfl, rfl, rfl, rfl⟩ rfl rfl rfl rfl rfl (by kernel_rfl) Tryz.func11 scriptTurns_jf
    (of_decide_eq_true (by kernel_rfl)) (by unfold Func.isWrapper; first | (rw [if_pos (by decide +kernel)]; kernel_rfl) | (rw [if_neg (by decide +kernel)]; exact ⟨rfl, rfl⟩))
    (fun os started H enc _ => scriptTurns_lifted os started H enc)

theorem scriptTurns_named : Tryz.prog.funcNamed Rows.scriptTurnsRow.func = some 11 := by kernel_rfl
theorem scriptTurns_card : Rows.ScriptTurnsCardSaid :=
  Claim7.holds_tied_plain_at .later [] [.data, .data, .data, .data, .sentinel, .sentinel, .pinned] true (true, "9ce38cd0acd78ddf4b93e191045823089ad3b0909ad73fde1580193d20591027") true scriptTurns_row (fun _ h => by cases h) (by as_aux_lemma => kernel_rfl) (fun _ h => by cases h) scriptTurns_row_tie rfl ⟨rfl, rfl⟩ (by as_aux_lemma => kernel_rfl) rfl
    (fun f fn hf hfn => by
      obtain rfl : f = 11 := Option.some.inj (scriptTurns_named.symm.trans hf) |>.symm
      obtain rfl : fn = Tryz.f11 := (Option.some.inj (Tryz.func11.symm.trans hfn)).symm
      exact ⟨by as_aux_lemma => kernel_rfl, fun j t ht => by
        rw [Tryz.params11] at ht
        have hm : t ∈ ([9, 9] : List Nat) := by simpa using Array.mem_of_getElem? ht
        have hall : (([9, 9] : List Nat).all fun u => !Tryz.prog.wantsStandIn u) = true := by as_aux_lemma => kernel_rfl
        exact (show Tryz.prog.wantsStandIn t = false by simpa using List.all_eq_true.1 hall t hm)⟩)
    (by as_aux_lemma => kernel_rfl)
#print axioms scriptTurns_card
end Go.Proofs.YtnlefnhdhigecaaGreatDoor
