/- The row and the card of 'WatchKids': for every input the call returns true, and each argument reads as it did. -/
import Derived.Test.YtiplmahjmkmddaaDoorAvFrame
import Derived.Test.YtiplmahjmkmddaaDoorAvLaw13Z
namespace Go.Proofs.YtiplmahjmkmddaaDoor
open Go.ChangeShapes Go.WideShapes Go.ChangeAt Go.RowKit Av

theorem watchKids_spec {H : Type} (ds : List (DataW H)) (h : ds.length = Tryd.f4.params.toList.length) : Rows.watchKidsSpec.fn H ds = { results := [.lit (.bool true)], args := ds } := by
  rw [Tryd.params4] at h
  match ds, h with
  | [d1, d2], _ => rfl

set_option maxRecDepth 100000 in
theorem watchKids_lifted (os : Os) (started : os.Started) (H : Type) (enc : TypeId × Value → H) :
    ReturnsInHanded {} Tryd.checked os 4 .any (fun w args => (Rows.watchKidsSpec.pre enc Tryd.prog Tryd.f4 [] false w args ∧ laidMetH Tryd.prog Rows.watchKidsRow.laid w) ∧ sizedMet enc Tryd.prog Tryd.f4 (OpenSpec.ofChange Rows.watchKidsSpec) false w args)
      (Rows.watchKidsSpec.post enc Tryd.prog Tryd.f4 false true false false) :=
  law_lifted started (by kernel_rfl) Tryd.func4 rfl (by kernel_rfl) (by kernel_rfl) watchKids_spec
    (ChangeSpec.witness_shaped (enc := enc) (C := Tryd.checked) (os := os) (X := fun w _ => laidMetH Tryd.prog Rows.watchKidsRow.laid w) false (World.laidAll Tryd.prog os Rows.watchKidsRow.laid) #[.int .i64 1, .bool true] 8 (World.laidAll_os _ _ _)
      (World.shaped_of_ZipB (by kernel_rfl) (by kernel_rfl)) (by kernel_rfl) (by kernel_rfl) (by kernel_rfl)
      (by rw [MakeChecks.laidMetH_plain _ _ _ (by kernel_rfl)]; exact laidMet_laidAll _ (by kernel_rfl) (by kernel_rfl)))
    watchKids_con

theorem watchKids_row : Rows.WatchKidsSaid :=
  OpenClaim.holds_of_wide 4 Tryd.f4 rfl rfl rfl rfl rfl rfl rfl ⟨rfl, rfl, rfl, rfl, rfl⟩ rfl rfl rfl rfl rfl (by kernel_rfl) Tryd.func4 (by kernel_rfl)
    (of_decide_eq_true (by kernel_rfl)) (by unfold Func.isWrapper; first | (rw [if_pos (by decide +kernel)]; kernel_rfl) | (rw [if_neg (by decide +kernel)]; exact ⟨rfl, rfl⟩))
    (fun os started H enc _ => watchKids_lifted os started H enc)

theorem watchKids_named : Tryd.prog.funcNamed Rows.watchKidsRow.func = some 4 := by kernel_rfl
theorem watchKids_card : Rows.WatchKidsCardSaid :=
  Claim7.holds_tied_plain_at .later [] [.data, .pinned] true (true, "1ab658ffa3866006914f905ddf8d2028e0a88d1415b797a41983aeae57d11c6b") false watchKids_row (fun _ h => by cases h) (by kernel_rfl) (fun _ h => by cases h) watchKids_row_tie rfl ⟨rfl, rfl⟩ (by kernel_rfl) rfl
    (fun f fn hf hfn => by
      obtain rfl : f = 4 := Option.some.inj (watchKids_named.symm.trans hf) |>.symm
      obtain rfl : fn = Tryd.f4 := (Option.some.inj (Tryd.func4.symm.trans hfn)).symm
      exact ⟨by kernel_rfl, fun j t ht => by
        rw [Tryd.params4] at ht
        have hm : t ∈ ([3, 4] : List Nat) := by simpa using Array.mem_of_getElem? ht
        have hall : (([3, 4] : List Nat).all fun u => !Tryd.prog.wantsStandIn u) = true := by kernel_rfl
        exact (show Tryd.prog.wantsStandIn t = false by simpa using List.all_eq_true.1 hall t hm)⟩)
    (by kernel_rfl)
#print axioms watchKids_card
end Go.Proofs.YtiplmahjmkmddaaDoor
