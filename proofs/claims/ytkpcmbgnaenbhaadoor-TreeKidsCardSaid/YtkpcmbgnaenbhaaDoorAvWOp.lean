/- Walks of package op: Good and what it calls. -/
import Derived.Test.YtkpcmbgnaenbhaaDoorAvOpLaw
import Derived.Test.YtkpcmbgnaenbhaaDoorAvWRefE
import Derived.Deep.DeepCutAuto
namespace Go.Proofs.YtkpcmbgnaenbhaaDoor
set_option maxRecDepth 100000
open Go.RowKit Av

set_option maxHeartbeats 400000 in
theorem versioned_any (k : Int) (w : World) : Calls Tryd.prog 30 #[.int .i64 k] w fun e w' => e = .returned (.bool (versionedB k)) ∧ w = w' := by
  go_enter Tryd.func30, Tryd.ntmps30
  go_wp2_with (fail)
  all_goals
    go_ret
    go_light
    refine ⟨ret_bool ?_, rfl⟩
    rw [Bool.eq_iff_iff]
    simp [versionedB, *]

set_option maxHeartbeats 800000 in
theorem formed_any (o : OpV) (w : World) (hG : GL w) (hp : o.path.size ≤ maxLen) :
    Calls Tryd.prog 20 #[o.val] w fun e w' => e = .returned (.bool (formedB o)) ∧ Ext w w' := by
  obtain ⟨k, p, d, v, f⟩ := o
  unfold OpV.val
  have HG := Lib.hid (fun W (k : Ext w W) => Good_any p W (hG.ext k) hp)
  have HF : Hid (∀ g, goodL p.data.toList = g → formedB ⟨k, p, d, v, f⟩ = (decide (1 ≤ k) && (decide (k ≤ 7) && (g && (decide (-1 ≤ v) && (decide (0 ≤ f) && decide (f ≤ 3))))))) := by
    show ∀ g, _ → _
    rintro g rfl
    rfl
  simp only
  go_enter Tryd.func20, Tryd.ntmps20
  go_wp2_with (go_at_call 29; refine (HG.out _ ((Kp.refl _ _).alloc _)).mono ?_; rintro e w1 ⟨rfl, hx⟩; have hxc := ext_cells hx)
  all_goals
    go_ret
    go_light
    refine ⟨ret_bool ?_, ?_⟩
    · rw [HF.out _ rfl, Bool.eq_iff_iff]
      simp [*]
      try (intros; omega)
    · first | exact ((Kp.refl _ _).alloc _).ext hx | exact (Kp.refl _ _).alloc _

set_option maxHeartbeats 1600000 in
theorem own_any (o : OpV) (w : World) (hd : o.data.size ≤ maxLen) :
    Calls Tryd.prog 21 #[o.val] w fun e w' => e = .returned (.bool (ownB o)) ∧ Ext w w' := by
  obtain ⟨k, p, d, v, f⟩ := o
  unfold OpV.val
  have hv := versioned_any k
  have HV := Lib.hid hv
  have hsz : decide (d.size = 0) = (d.toList == []) := by
    rw [Lib.size_eq, Lib.toList_data, Bool.eq_iff_iff, decide_eq_true_eq, beq_iff_eq, List.length_eq_zero_iff]
  have HF : Hid (ownB ⟨k, p, d, v, f⟩ = (((d.toList == []) || (decide (k = 1) || decide (k = 3))) && ((decide (v = 0) || versionedB k) && (decide (f = 0) || decide (k = 1))))) := by
    show _ = _
    unfold ownB
    simp only [hsz]
  simp only at hd ⊢
  clear hv hsz
  go_enter Tryd.func21, Tryd.ntmps21
  go_upto_region 1 with (fail)
  go_cut [0, 3] (fun s0 s wx => s0 = .agg #[.int .i64 k, .string p, .string d, .int .i64 v, .int .i64 f] ∧ s = .bool ((d.toList == []) || (decide (k = 1) || decide (k = 3))) ∧ wx = w.alloc (.cells #[.int .i64 k, .string p, .string d, .int .i64 v, .int .i64 f] 35))
  case first =>
    go_wp2_with (fail)
    all_goals
      go_meet
      go_light
      refine ⟨by simp [*], congrArg Value.bool ?_, by simp [*]⟩
      rw [Bool.eq_iff_iff]
      simp [*]
  case rest =>
    obtain ⟨rfl, rfl, rfl⟩ := hcut
    obtain ⟨b, hb⟩ : ∃ b, ((d.toList == []) || (decide (k = 1) || decide (k = 3))) = b := ⟨_, rfl⟩
    rw [hb] at HF ⊢
    clear hb
    go_wp2_with (go_at_call 30; refine (HV.out _).mono ?_; rintro e w1 ⟨rfl, rfl⟩)
    all_goals
      go_ret
      go_light
      refine ⟨ret_bool ?_, (Kp.refl _ _).alloc _⟩
      rw [HF.out, Bool.eq_iff_iff]
      simp [*]
end Go.Proofs.YtkpcmbgnaenbhaaDoor
