/- The row and the card of 'WatchPlays': for every input the call returns true, and each argument reads as it did. -/
import Derived.Test.YtiplmahjmkmddaaDoorAvFrame
import Derived.Test.YtiplmahjmkmddaaDoorAvLaw13V
namespace Go.Proofs.YtiplmahjmkmddaaDoor
open Go.ChangeShapes Go.WideShapes Go.ChangeAt Go.RowKit Av

theorem watchPlays_spec {H : Type} (ds : List (DataW H)) (h : ds.length = Tryd.f6.params.toList.length) : Rows.watchPlaysSpec.fn H ds = { results := [.lit (.bool true)], args := ds } := by
  rw [Tryd.params6] at h
  match ds, h with
  | [d1, d2], _ => rfl

set_option maxRecDepth 100000 in
theorem watchPlays_lifted (os : Os) (started : os.Started) (H : Type) (enc : TypeId × Value → H) :
    ReturnsInHanded {} Tryd.checked os 6 .any (fun w args => (Rows.watchPlaysSpec.pre enc Tryd.prog Tryd.f6 [] false w args ∧ laidMetH Tryd.prog Rows.watchPlaysRow.laid w) ∧ sizedMet enc Tryd.prog Tryd.f6 (OpenSpec.ofChange Rows.watchPlaysSpec) false w args)
      (Rows.watchPlaysSpec.post enc Tryd.prog Tryd.f6 false true false false) :=
  law_lifted started (by kernel_rfl) Tryd.func6 rfl (by kernel_rfl) (by kernel_rfl) watchPlays_spec
    (ChangeSpec.witness_shaped (enc := enc) (C := Tryd.checked) (os := os) (X := fun w _ => laidMetH Tryd.prog Rows.watchPlaysRow.laid w) false (World.laidAll Tryd.prog os Rows.watchPlaysRow.laid) #[.int .i64 1, .slice none 0 0] 8 (World.laidAll_os _ _ _)
      (World.shaped_of_ZipB (by kernel_rfl) (by kernel_rfl)) (by kernel_rfl) (by kernel_rfl) (by kernel_rfl)
      (by rw [MakeChecks.laidMetH_plain _ _ _ (by kernel_rfl)]; exact laidMet_laidAll _ (by kernel_rfl) (by kernel_rfl)))
    watchPlays_con

theorem watchPlays_row : Rows.WatchPlaysSaid :=
  OpenClaim.holds_of_wide 6 Tryd.f6 rfl rfl rfl rfl rfl rfl rfl ⟨rfl, rfl, rfl, rfl, rfl⟩ rfl rfl rfl rfl rfl (by kernel_rfl) Tryd.func6 (by kernel_rfl)
    (of_decide_eq_true (by kernel_rfl)) (by unfold Func.isWrapper; first | (rw [if_pos (by decide +kernel)]; kernel_rfl) | (rw [if_neg (by decide +kernel)]; exact ⟨rfl, rfl⟩))
    (fun os started H enc _ => watchPlays_lifted os started H enc)

theorem watchPlays_named : Tryd.prog.funcNamed Rows.watchPlaysRow.func = some 6 := by kernel_rfl
theorem watchPlays_card : Rows.WatchPlaysCardSaid :=
  Claim7.holds_tied_plain_at .later [] [.data, .pinned] true (true, "1ab658ffa3866006914f905ddf8d2028e0a88d1415b797a41983aeae57d11c6b") false watchPlays_row (fun _ h => by cases h) (by kernel_rfl) (fun _ h => by cases h) watchPlays_row_tie rfl ⟨rfl, rfl⟩ (by kernel_rfl) rfl
    (fun f fn hf hfn => by
      obtain rfl : f = 6 := Option.some.inj (watchPlays_named.symm.trans hf) |>.symm
      obtain rfl : fn = Tryd.f6 := (Option.some.inj (Tryd.func6.symm.trans hfn)).symm
      exact ⟨by kernel_rfl, fun j t ht => by
        rw [Tryd.params6] at ht
        have hm : t ∈ ([3, 22] : List Nat) := by simpa using Array.mem_of_getElem? ht
        have hall : (([3, 22] : List Nat).all fun u => !Tryd.prog.wantsStandIn u) = true := by kernel_rfl
        exact (show Tryd.prog.wantsStandIn t = false by simpa using List.all_eq_true.1 hall t hm)⟩)
    (by kernel_rfl)
#print axioms watchPlays_card
end Go.Proofs.YtiplmahjmkmddaaDoor
