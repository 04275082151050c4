/- The row and the card of 'WatchOwn': for every input the call returns true, and each argument reads as it did. -/
import Derived.Test.YtiplmahjmkmddaaDoorAvFrame
import Derived.Test.YtiplmahjmkmddaaDoorAvLaw13W
namespace Go.Proofs.YtiplmahjmkmddaaDoor
open Go.ChangeShapes Go.WideShapes Go.ChangeAt Go.RowKit Av

theorem watchOwn_spec {H : Type} (ds : List (DataW H)) (h : ds.length = Tryd.f7.params.toList.length) : Rows.watchOwnSpec.fn H ds = { results := [.lit (.bool true)], args := ds } := by
  rw [Tryd.params7] at h
  match ds, h with
  | [d1, d2], _ => rfl

set_option maxRecDepth 100000 in
theorem watchOwn_lifted (os : Os) (started : os.Started) (H : Type) (enc : TypeId × Value → H) :
    ReturnsInHanded {} Tryd.checked os 7 .any (fun w args => (Rows.watchOwnSpec.pre enc Tryd.prog Tryd.f7 [] false w args ∧ laidMetH Tryd.prog Rows.watchOwnRow.laid w) ∧ sizedMet enc Tryd.prog Tryd.f7 (OpenSpec.ofChange Rows.watchOwnSpec) false w args)
      (Rows.watchOwnSpec.post enc Tryd.prog Tryd.f7 false true false false) :=
  law_lifted started (by kernel_rfl) Tryd.func7 rfl (by kernel_rfl) (by kernel_rfl) watchOwn_spec
    (ChangeSpec.witness_shaped (enc := enc) (C := Tryd.checked) (os := os) (X := fun w _ => laidMetH Tryd.prog Rows.watchOwnRow.laid w) false (World.laidAll Tryd.prog os Rows.watchOwnRow.laid) #[.slice none 0 0, .int .i64 1] 8 (World.laidAll_os _ _ _)
      (World.shaped_of_ZipB (by kernel_rfl) (by kernel_rfl)) (by kernel_rfl) (by kernel_rfl) (by kernel_rfl)
      (by rw [MakeChecks.laidMetH_plain _ _ _ (by kernel_rfl)]; exact laidMet_laidAll _ (by kernel_rfl) (by kernel_rfl)))
    watchOwn_con

theorem watchOwn_row : Rows.WatchOwnSaid :=
  OpenClaim.holds_of_wide 7 Tryd.f7 rfl rfl rfl rfl rfl rfl rfl ⟨rfl, rfl, rfl, rfl, rfl⟩ rfl rfl rfl rfl rfl (by kernel_rfl) Tryd.func7 (by kernel_rfl)
    (of_decide_eq_true (by kernel_rfl)) (by unfold Func.isWrapper; first | (rw [if_pos (by decide +kernel)]; kernel_rfl) | (rw [if_neg (by decide +kernel)]; exact ⟨rfl, rfl⟩))
    (fun os started H enc _ => watchOwn_lifted os started H enc)

theorem watchOwn_named : Tryd.prog.funcNamed Rows.watchOwnRow.func = some 7 := by kernel_rfl
theorem watchOwn_card : Rows.WatchOwnCardSaid :=
  Claim7.holds_tied_plain_at .later [] [.data, .pinned] true (true, "1ab658ffa3866006914f905ddf8d2028e0a88d1415b797a41983aeae57d11c6b") false watchOwn_row (fun _ h => by cases h) (by kernel_rfl) (fun _ h => by cases h) watchOwn_row_tie rfl ⟨rfl, rfl⟩ (by kernel_rfl) rfl
    (fun f fn hf hfn => by
      obtain rfl : f = 7 := Option.some.inj (watchOwn_named.symm.trans hf) |>.symm
      obtain rfl : fn = Tryd.f7 := (Option.some.inj (Tryd.func7.symm.trans hfn)).symm
      exact ⟨by kernel_rfl, fun j t ht => by
        rw [Tryd.params7] at ht
        have hm : t ∈ ([22, 2] : List Nat) := by simpa using Array.mem_of_getElem? ht
        have hall : (([22, 2] : List Nat).all fun u => !Tryd.prog.wantsStandIn u) = true := by kernel_rfl
        exact (show Tryd.prog.wantsStandIn t = false by simpa using List.all_eq_true.1 hall t hm)⟩)
    (by kernel_rfl)
#print axioms watchOwn_card
end Go.Proofs.YtiplmahjmkmddaaDoor
