/- The row and the card of 'WatchOnce': for every input the call returns true, and each argument reads as it did. -/
import Derived.Test.YtiplmahjmkmddaaDoorAvFrame
import Derived.Test.YtiplmahjmkmddaaDoorAvLaw13X
namespace Go.Proofs.YtiplmahjmkmddaaDoor
open Go.ChangeShapes Go.WideShapes Go.ChangeAt Go.RowKit Av

theorem watchOnce_spec {H : Type} (ds : List (DataW H)) (h : ds.length = Tryd.f3.params.toList.length) : Rows.watchOnceSpec.fn H ds = { results := [.lit (.bool true)], args := ds } := by
  rw [Tryd.params3] at h
  match ds, h with
  | [d1], _ => rfl

set_option maxRecDepth 100000 in
theorem watchOnce_lifted (os : Os) (started : os.Started) (H : Type) (enc : TypeId × Value → H) :
    ReturnsInHanded {} Tryd.checked os 3 .any (fun w args => (Rows.watchOnceSpec.pre enc Tryd.prog Tryd.f3 [] false w args ∧ laidMetH Tryd.prog Rows.watchOnceRow.laid w) ∧ sizedMet enc Tryd.prog Tryd.f3 (OpenSpec.ofChange Rows.watchOnceSpec) false w args)
      (Rows.watchOnceSpec.post enc Tryd.prog Tryd.f3 false true false false) :=
  law_lifted started (by kernel_rfl) Tryd.func3 rfl (by kernel_rfl) (by kernel_rfl) watchOnce_spec
    (ChangeSpec.witness_shaped (enc := enc) (C := Tryd.checked) (os := os) (X := fun w _ => laidMetH Tryd.prog Rows.watchOnceRow.laid w) false (World.laidAll Tryd.prog os Rows.watchOnceRow.laid) #[.slice none 0 0] 8 (World.laidAll_os _ _ _)
      (World.shaped_of_ZipB (by kernel_rfl) (by kernel_rfl)) (by kernel_rfl) (by kernel_rfl) (by kernel_rfl)
      (by rw [MakeChecks.laidMetH_plain _ _ _ (by kernel_rfl)]; exact laidMet_laidAll _ (by kernel_rfl) (by kernel_rfl)))
    watchOnce_con

theorem watchOnce_row : Rows.WatchOnceSaid :=
  OpenClaim.holds_of_wide 3 Tryd.f3 rfl rfl rfl rfl rfl rfl rfl ⟨rfl, rfl, rfl, rfl, rfl⟩ rfl rfl rfl rfl rfl (by kernel_rfl) Tryd.func3 (by kernel_rfl)
    (of_decide_eq_true (by kernel_rfl)) (by unfold Func.isWrapper; first | (rw [if_pos (by decide +kernel)]; kernel_rfl) | (rw [if_neg (by decide +kernel)]; exact ⟨rfl, rfl⟩))
    (fun os started H enc _ => watchOnce_lifted os started H enc)

theorem watchOnce_named : Tryd.prog.funcNamed Rows.watchOnceRow.func = some 3 := by kernel_rfl
theorem watchOnce_card : Rows.WatchOnceCardSaid :=
  Claim7.holds_tied_plain_at .later [] [.data, .pinned] true (true, "1ab658ffa3866006914f905ddf8d2028e0a88d1415b797a41983aeae57d11c6b") false watchOnce_row (fun _ h => by cases h) (by kernel_rfl) (fun _ h => by cases h) watchOnce_row_tie rfl ⟨rfl, rfl⟩ (by kernel_rfl) rfl
    (fun f fn hf hfn => by
      obtain rfl : f = 3 := Option.some.inj (watchOnce_named.symm.trans hf) |>.symm
      obtain rfl : fn = Tryd.f3 := (Option.some.inj (Tryd.func3.symm.trans hfn)).symm
      exact ⟨by kernel_rfl, fun j t ht => by
        rw [Tryd.params3] at ht
        have hm : t ∈ ([22] : List Nat) := by simpa using Array.mem_of_getElem? ht
        have hall : (([22] : List Nat).all fun u => !Tryd.prog.wantsStandIn u) = true := by kernel_rfl
        exact (show Tryd.prog.wantsStandIn t = false by simpa using List.all_eq_true.1 hall t hm)⟩)
    (by kernel_rfl)
#print axioms watchOnce_card
end Go.Proofs.YtiplmahjmkmddaaDoor
