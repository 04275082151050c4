/- The row and the card of 'WatchKnown': for every input the call returns true, and each argument reads as it did. -/
import Derived.Test.YtiplmahjmkmddaaDoorAvFrame
import Derived.Test.YtiplmahjmkmddaaDoorAvLaw13Y
namespace Go.Proofs.YtiplmahjmkmddaaDoor
open Go.ChangeShapes Go.WideShapes Go.ChangeAt Go.RowKit Av

theorem watchKnown_spec {H : Type} (ds : List (DataW H)) (h : ds.length = Tryd.f5.params.toList.length) : Rows.watchKnownSpec.fn H ds = { results := [.lit (.bool true)], args := ds } := by
  rw [Tryd.params5] at h
  match ds, h with
  | [], _ => rfl

set_option maxRecDepth 100000 in
theorem watchKnown_lifted (os : Os) (started : os.Started) (H : Type) (enc : TypeId × Value → H) :
    ReturnsInHanded {} Tryd.checked os 5 .any (fun w args => (Rows.watchKnownSpec.pre enc Tryd.prog Tryd.f5 [] false w args ∧ laidMetH Tryd.prog Rows.watchKnownRow.laid w) ∧ sizedMet enc Tryd.prog Tryd.f5 (OpenSpec.ofChange Rows.watchKnownSpec) false w args)
      (Rows.watchKnownSpec.post enc Tryd.prog Tryd.f5 false true false false) :=
  law_lifted started (by kernel_rfl) Tryd.func5 rfl (by kernel_rfl) (by kernel_rfl) watchKnown_spec
    (ChangeSpec.witness_shaped (enc := enc) (C := Tryd.checked) (os := os) (X := fun w _ => laidMetH Tryd.prog Rows.watchKnownRow.laid w) false (World.laidAll Tryd.prog os Rows.watchKnownRow.laid) #[] 8 (World.laidAll_os _ _ _)
      (World.shaped_of_ZipB (by kernel_rfl) (by kernel_rfl)) (by kernel_rfl) (by kernel_rfl) (by kernel_rfl)
      (by rw [MakeChecks.laidMetH_plain _ _ _ (by kernel_rfl)]; exact laidMet_laidAll _ (by kernel_rfl) (by kernel_rfl)))
    watchKnown_con

theorem watchKnown_row : Rows.WatchKnownSaid :=
  OpenClaim.holds_of_wide 5 Tryd.f5 rfl rfl rfl rfl rfl rfl rfl ⟨rfl, rfl, rfl, rfl, rfl⟩ rfl rfl rfl rfl rfl (by kernel_rfl) Tryd.func5 (by kernel_rfl)
    (of_decide_eq_true (by kernel_rfl)) (by unfold Func.isWrapper; first | (rw [if_pos (by decide +kernel)]; kernel_rfl) | (rw [if_neg (by decide +kernel)]; exact ⟨rfl, rfl⟩))
    (fun os started H enc _ => watchKnown_lifted os started H enc)

theorem watchKnown_named : Tryd.prog.funcNamed Rows.watchKnownRow.func = some 5 := by kernel_rfl
theorem watchKnown_card : Rows.WatchKnownCardSaid :=
  Claim7.holds_tied_plain_at .later [] [.data, .pinned] true (true, "1ab658ffa3866006914f905ddf8d2028e0a88d1415b797a41983aeae57d11c6b") false watchKnown_row (fun _ h => by cases h) (by kernel_rfl) (fun _ h => by cases h) watchKnown_row_tie rfl ⟨rfl, rfl⟩ (by kernel_rfl) rfl
    (fun f fn hf hfn => by
      obtain rfl : f = 5 := Option.some.inj (watchKnown_named.symm.trans hf) |>.symm
      obtain rfl : fn = Tryd.f5 := (Option.some.inj (Tryd.func5.symm.trans hfn)).symm
      exact ⟨by kernel_rfl, fun j t ht => by
        rw [Tryd.params5] at ht
        have hm : t ∈ ([] : List Nat) := by simpa using Array.mem_of_getElem? ht
        have hall : (([] : List Nat).all fun u => !Tryd.prog.wantsStandIn u) = true := by kernel_rfl
        exact (show Tryd.prog.wantsStandIn t = false by simpa using List.all_eq_true.1 hall t hm)⟩)
    (by kernel_rfl)
#print axioms watchKnown_card
end Go.Proofs.YtiplmahjmkmddaaDoor
