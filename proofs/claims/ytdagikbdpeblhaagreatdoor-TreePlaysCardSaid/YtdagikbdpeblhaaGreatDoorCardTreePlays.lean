/- The row and the card of 'TreePlays': for every input the call returns true, and each argument reads as it did. -/
import Derived.Test.YtdagikbdpeblhaaGreatDoorAvG1
import Derived.Test.YtdagikbdpeblhaaGreatDoorAvG43
import Derived.Test.YtdagikbdpeblhaaGreatDoorJfTreePlays
namespace Go.Proofs.YtdagikbdpeblhaaGreatDoor
open Go.ChangeShapes Go.WideShapes Go.ChangeAt Go.RowKit Av

theorem treePlays_spec {H : Type} (ds : List (DataW H)) (h : ds.length = Tryz.f3.params.toList.length) : Rows.treePlaysSpec.fn H ds = { results := [.lit (.bool true)], args := ds } := by
  rw [Tryz.params3] at h
  match ds, h with
  | [d1, d2], _ => rfl

set_option maxRecDepth 100000 in
theorem treePlays_lifted (os : Os) (started : os.Started) (H : Type) (enc : TypeId × Value → H) :
    ReturnsInHanded {} Tryz.checked os 3 .any (fun w args => (Rows.treePlaysSpec.pre enc Tryz.prog Tryz.f3 [] false w args ∧ laidMetH Tryz.prog Rows.treePlaysRow.laid w) ∧ sizedMet enc Tryz.prog Tryz.f3 (OpenSpec.ofChange Rows.treePlaysSpec) false w args)
      (Rows.treePlaysSpec.post enc Tryz.prog Tryz.f3 false true false false) :=
  law_lifted_laid started (by kernel_rfl) Tryz.func3 rfl (by kernel_rfl) (by kernel_rfl) (by kernel_rfl) treePlays_spec
    (ChangeSpec.witness_shaped (enc := enc) (C := Tryz.checked) (os := os) (X := fun w _ => laidMetH Tryz.prog Rows.treePlaysRow.laid w) false (World.laidAll Tryz.prog os Rows.treePlaysRow.laid) #[.int .i64 0, .slice none 0 0] 8 (World.laidAll_os _ _ _)
      (World.shaped_of_ZipB (by kernel_rfl) (by kernel_rfl)) (by kernel_rfl) (by kernel_rfl) (by kernel_rfl)
      (by rw [MakeChecks.laidMetH_plain _ _ _ (by kernel_rfl)]; exact laidMet_laidAll _ (by kernel_rfl) (by kernel_rfl)))
    treePlays_con

theorem treePlays_row : Rows.TreePlaysSaid :=
  OpenClaim.holds_of_wide 3 Tryz.f3 rfl rfl rfl rfl rfl rfl rfl ⟨rfl, rfl, rfl, rfl, rfl⟩ rfl rfl rfl rfl rfl (by kernel_rfl) Tryz.func3 treePlays_jf
    (of_decide_eq_true (by kernel_rfl)) (by unfold Func.isWrapper; first | (rw [if_pos (by decide +kernel)]; kernel_rfl) | (rw [if_neg (by decide +kernel)]; exact ⟨rfl, rfl⟩))
    (fun os started H enc _ => treePlays_lifted os started H enc)

theorem treePlays_named : Tryz.prog.funcNamed Rows.treePlaysRow.func = some 3 := by kernel_rfl
theorem treePlays_card : Rows.TreePlaysCardSaid :=
  Claim7.holds_tied_plain_at .later [] [.data, .data, .data, .data, .pinned] true (true, "3842c58183a2dbb477f92173eeab892af55dde1d3a83d12055017de64ccf3108") false treePlays_row (fun _ h => by cases h) (by as_aux_lemma => kernel_rfl) (fun _ h => by cases h) treePlays_row_tie rfl ⟨rfl, rfl⟩ (by as_aux_lemma => kernel_rfl) rfl
    (fun f fn hf hfn => by
      obtain rfl : f = 3 := Option.some.inj (treePlays_named.symm.trans hf) |>.symm
      obtain rfl : fn = Tryz.f3 := (Option.some.inj (Tryz.func3.symm.trans hfn)).symm
      exact ⟨by as_aux_lemma => kernel_rfl, fun j t ht => by
        rw [Tryz.params3] at ht
        have hm : t ∈ ([3, 22] : List Nat) := by simpa using Array.mem_of_getElem? ht
        have hall : (([3, 22] : List Nat).all fun u => !Tryz.prog.wantsStandIn u) = true := by as_aux_lemma => kernel_rfl
        exact (show Tryz.prog.wantsStandIn t = false by simpa using List.all_eq_true.1 hall t hm)⟩)
    (by as_aux_lemma => kernel_rfl)
#print axioms treePlays_card
end Go.Proofs.YtdagikbdpeblhaaGreatDoor
