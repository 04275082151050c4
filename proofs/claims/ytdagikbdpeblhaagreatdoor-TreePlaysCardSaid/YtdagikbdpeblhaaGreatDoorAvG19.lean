/- Texts put together: AvWOp, AvWOpB. -/
import Derived.Test.YtdagikbdpeblhaaGreatDoorAvG2
import Derived.Test.YtdagikbdpeblhaaGreatDoorAvG18
import Derived.Deep.DeepCutAuto

/- Walks of package op: Good and what it calls. -/
namespace Go.Proofs.YtdagikbdpeblhaaGreatDoor
set_option maxRecDepth 100000
open Go.RowKit Av

set_option maxHeartbeats 400000 in
theorem versioned_any (k : Int) (w : World) : Calls Tryz.prog 162 #[.int .i64 k] w fun e w' => e = .returned (.bool (versionedB k)) ∧ w = w' := by
  go_enter Tryz.func162, Tryz.ntmps162
  go_wp2_with (fail)
  all_goals
    go_ret
    go_light
    refine ⟨ret_bool ?_, rfl⟩
    rw [Bool.eq_iff_iff]
    simp [versionedB, *]

set_option maxHeartbeats 800000 in
theorem formed_any (o : OpV) (w : World) (hG : GL w) (hp : o.path.size ≤ maxLen) :
    Calls Tryz.prog 131 #[o.val] w fun e w' => e = .returned (.bool (formedB o)) ∧ Ext w w' := by
  obtain ⟨k, p, d, v, f⟩ := o
  unfold OpV.val
  have HG := Lib.hid (fun W (k : Ext w W) => Good_any p W (hG.ext k) hp)
  have HF : Hid (∀ g, goodL p.data.toList = g → formedB ⟨k, p, d, v, f⟩ = (decide (1 ≤ k) && (decide (k ≤ 7) && (g && (decide (-1 ≤ v) && (decide (0 ≤ f) && decide (f ≤ 3))))))) := by
    show ∀ g, _ → _
    rintro g rfl
    rfl
  simp only
  go_enter Tryz.func131, Tryz.ntmps131
  go_wp2_with (go_at_call 55; refine (HG.out _ ((Kp.refl _ _).alloc _)).mono ?_; rintro e w1 ⟨rfl, hx⟩; have hxc := ext_cells hx)
  all_goals
    go_ret
    go_light
    refine ⟨ret_bool ?_, ?_⟩
    · rw [HF.out _ rfl, Bool.eq_iff_iff]
      simp [*]
      try (intros; omega)
    · first | exact ((Kp.refl _ _).alloc _).ext hx | exact (Kp.refl _ _).alloc _

set_option maxHeartbeats 1600000 in
theorem own_any (o : OpV) (w : World) (hd : o.data.size ≤ maxLen) :
    Calls Tryz.prog 132 #[o.val] w fun e w' => e = .returned (.bool (ownB o)) ∧ Ext w w' := by
  obtain ⟨k, p, d, v, f⟩ := o
  unfold OpV.val
  have hv := versioned_any k
  have HV := Lib.hid hv
  have hsz : decide (d.size = 0) = (d.toList == []) := by
    rw [Lib.size_eq, Lib.toList_data, Bool.eq_iff_iff, decide_eq_true_eq, beq_iff_eq, List.length_eq_zero_iff]
  have HF : Hid (ownB ⟨k, p, d, v, f⟩ = (((d.toList == []) || (decide (k = 1) || decide (k = 3))) && ((decide (v = 0) || versionedB k) && (decide (f = 0) || decide (k = 1))))) := by
    show _ = _
    unfold ownB
    simp only [hsz]
  simp only at hd ⊢
  clear hv hsz
  go_enter Tryz.func132, Tryz.ntmps132
  go_upto_region 1 with (fail)
  go_cut [0, 3] (fun s0 s wx => s0 = .agg #[.int .i64 k, .string p, .string d, .int .i64 v, .int .i64 f] ∧ s = .bool ((d.toList == []) || (decide (k = 1) || decide (k = 3))) ∧ wx = w.alloc (.cells #[.int .i64 k, .string p, .string d, .int .i64 v, .int .i64 f] 33))
  case first =>
    go_wp2_with (fail)
    all_goals
      go_meet
      go_light
      refine ⟨by simp [*], congrArg Value.bool ?_, by simp [*]⟩
      rw [Bool.eq_iff_iff]
      simp [*]
  case rest =>
    obtain ⟨rfl, rfl, rfl⟩ := hcut
    obtain ⟨b, hb⟩ : ∃ b, ((d.toList == []) || (decide (k = 1) || decide (k = 3))) = b := ⟨_, rfl⟩
    rw [hb] at HF ⊢
    clear hb
    go_wp2_with (go_at_call 162; refine (HV.out _).mono ?_; rintro e w1 ⟨rfl, rfl⟩)
    all_goals
      go_ret
      go_light
      refine ⟨ret_bool ?_, (Kp.refl _ _).alloc _⟩
      rw [HF.out, Bool.eq_iff_iff]
      simp [*]
end Go.Proofs.YtdagikbdpeblhaaGreatDoor

/- Walks of package op: numbered, Good. -/
namespace Go.Proofs.YtdagikbdpeblhaaGreatDoor
set_option maxRecDepth 100000
open Go.RowKit Av

theorem flags_cases {o : OpV} (h : formedB o = true) : o.flags = 0 ∨ o.flags = 1 ∨ o.flags = 2 ∨ o.flags = 3 := by
  simp only [formedB, Bool.and_eq_true, decide_eq_true_eq] at h
  omega

set_option maxHeartbeats 1600000 in
theorem numbered_any (o : OpV) (w : World) (hG : GT w) (hp : o.path.size ≤ maxLen) (h : formedB o = true) :
    Calls Tryz.prog 133 #[o.val] w fun e w' => e = .returned (.bool (numberedB o)) ∧ Ext w w' := by
  have hf := flags_cases h
  obtain ⟨k, p, d, v, f⟩ := o
  unfold OpV.val
  simp only at hp hf ⊢
  have HN := Lib.hid (fun W (k : Ext w W) => pathNumber_any p 0 W (hG.ext k) hp)
  have HP := Lib.hid (fun W (k : Ext w W) => Parts_any p W (hG.gl.ext k) hp)
  obtain ⟨n, hn⟩ : ∃ n, (partsL p.data.toList).length = n := ⟨_, rfl⟩
  obtain ⟨s, hs⟩ : ∃ s, optS (numberL p.data.toList 0) = s := ⟨_, rfl⟩
  obtain ⟨b, hb⟩ : ∃ b, (numberL p.data.toList 0).isSome = b := ⟨_, rfl⟩
  have HF : Hid (∀ (g : Int), numberedB ⟨k, p, d, v, g⟩ = (decide (g < 2) || (decide (1 < n) && b))) := by
    show ∀ g, _
    intro g
    unfold numberedB
    simp only [hn, hb]
  have he : errI (numberL p.data.toList 0) = if b then 0 else 1 := by unfold errI; rw [hb]
  rw [hs, he] at HN
  have HL := Lib.hid hn
  have hn8 : n ≤ 8 := by rw [← hn]; exact parts_len _
  clear hs he hb hn h
  rcases hf with rfl | rfl | rfl | rfl
  · go_enter Tryz.func133, Tryz.ntmps133
    go_wp2_with (fail)
    go_ret
    go_light
    exact ⟨ret_bool (by rw [HF.out]; rfl), (Kp.refl _ _).alloc _⟩
  · go_enter Tryz.func133, Tryz.ntmps133
    go_wp2_with (fail)
    go_ret
    go_light
    exact ⟨ret_bool (by rw [HF.out]; rfl), (Kp.refl _ _).alloc _⟩
  all_goals
    cases b
    all_goals
      go_enter Tryz.func133, Tryz.ntmps133
      go_wp2_with (fail)
      refine (HN.out _ ((Kp.refl _ _).alloc _)).mono ?_
      rintro e w1 ⟨rfl, hx⟩
      have hxc := ext_cells hx
      simp only [Bool.false_eq_true, if_true, if_false]
      go_wp2_with (fail)
      refine (HP.out _ (((Kp.refl _ _).alloc _).ext hx)).mono ?_
      rintro e w2 ⟨v, ps, rfl, hps, hst, hx2⟩
      obtain ⟨a', c', rfl, _, _, _⟩ := Strs.open hst
      have hl : ps.length = n := by rw [← HL.out, ← hps, List.length_map]
      rw [hl]
      clear hst hps hl
      by_cases h1 : 1 < n
      all_goals
        go_wp2_with (fail)
        go_ret
        go_light
        exact ⟨ret_bool (by rw [HF.out]; simp [h1]), (((Kp.refl _ _).alloc _).ext hx).ext hx2⟩

/-- The cells of a boxed op stay. -/
theorem box_cells {w W : World} {k : Int} {p d : ByteArray} {v f : Int} {T : TypeId} (h : Ext (w.alloc (.cells #[.int .i64 k, .string p, .string d, .int .i64 v, .int .i64 f] T)) W) :
    W.cell? ⟨w.heap.size, 0, none⟩ = some (.int .i64 k) ∧ W.cell? ⟨w.heap.size, 1, none⟩ = some (.string p) ∧ W.cell? ⟨w.heap.size, 2, none⟩ = some (.string d) ∧ W.cell? ⟨w.heap.size, 3, none⟩ = some (.int .i64 v) ∧ W.cell? ⟨w.heap.size, 4, none⟩ = some (.int .i64 f) := by
  refine ⟨?_, ?_, ?_, ?_, ?_⟩ <;> exact h.cell (by simp) (fun f => f)

set_option maxHeartbeats 1600000 in
theorem opGood_any (o : OpV) (w : World) (hG : GT w) (hp : o.path.size ≤ maxLen) (hd : o.data.size ≤ maxLen) :
    Calls Tryz.prog 93 #[o.val] w fun e w' => e = .returned (.int .i64 (goodO o)) ∧ Ext w w' := by
  have H1 := Lib.hid (fun W (k : Ext w W) => formed_any o W (hG.gl.ext k) hp)
  have H2 := Lib.hid (fun W (_ : Ext w W) => own_any o W hd)
  have H3 := Lib.hid (fun W (k : Ext w W) h => numbered_any o W (hG.ext k) hp h)
  have HF : Hid (goodO o = if formedB o then (if 1000 < o.data.size then 2 else if ownB o && numberedB o then 0 else 1) else 1) := by show _ = _; rfl
  obtain ⟨k, p, d, v, f⟩ := o
  generalize formedB ⟨k, p, d, v, f⟩ = b1 at *
  generalize ownB ⟨k, p, d, v, f⟩ = b2 at *
  generalize numberedB ⟨k, p, d, v, f⟩ = b3 at *
  generalize goodO ⟨k, p, d, v, f⟩ = g at *
  unfold OpV.val at *
  simp only at hp hd H1 H2 H3 HF ⊢
  unfold maxLen at hd
  have hE0 : Ext w (w.alloc (.cells #[.int .i64 k, .string p, .string d, .int .i64 v, .int .i64 f] 33)) := (Kp.refl _ _).alloc _
  go_enter Tryz.func93, Tryz.ntmps93
  go_wp2_with (fail)
  refine (H1.out _ hE0).mono ?_
  rintro e w1 ⟨rfl, hx1⟩
  obtain ⟨x0, x1, x2, x3, x4⟩ := box_cells hx1
  have hE1 := hE0.ext hx1
  cases b1 with
  | false =>
    go_wp2_with (fail)
    go_ret
    go_light
    exact ⟨ret_val (by rw [HF.out]; rfl), hE1⟩
  | true =>
    by_cases hbig : d.size ≤ 1000
    · go_wp2_with (fail)
      refine (H2.out _ hE1).mono ?_
      rintro e w2 ⟨rfl, hx2⟩
      obtain ⟨y0, y1, y2, y3, y4⟩ := box_cells (hx1.ext hx2)
      have hE2 := hE1.ext hx2
      have hbig' : ¬ 1000 < d.size := by omega
      cases b2 with
      | false =>
        go_wp2_with (fail)
        go_ret
        go_light
        exact ⟨ret_val (by rw [HF.out]; first | (simp [hbig']; done) | (simp [hbig']; rfl)), hE2⟩
      | true =>
        go_wp2_with (fail)
        refine (H3.out _ hE2 trivial).mono ?_
        rintro e w3 ⟨rfl, hx3⟩
        have hE3 := hE2.ext hx3
        cases b3
        all_goals
          go_wp2_with (fail)
          go_ret
          go_light
          exact ⟨ret_val (by rw [HF.out]; first | (simp [hbig']; done) | (simp [hbig']; rfl)), hE3⟩
    · have hbig' : 1000 < d.size := by omega
      go_wp2_with (fail)
      go_ret
      go_light
      exact ⟨ret_val (by rw [HF.out]; first | (simp [hbig']; done) | (simp [hbig']; rfl)), hE1⟩
end Go.Proofs.YtdagikbdpeblhaaGreatDoor
