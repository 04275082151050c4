/- Walks: order, event. -/
import Derived.Test.YtiplmahjmkmddaaDoorAvWWat
namespace Go.Proofs.YtiplmahjmkmddaaDoor
set_option maxRecDepth 100000
open Go.RowKit Av

theorem Sl.gw {w w' : World} {k n : Nat} {v : Value} {xs : List Value} (h : Sl w k v n xs) (g : Gw w w') : Sl w' k v n xs := Sl.ext h g.ext
set_option maxHeartbeats 1600000 in
theorem order_any (x y : Wt) (w : World) : Calls Tryd.prog 22 #[.agg (wcell x).toArray, .agg (wcell y).toArray] w fun e w' => e = .returned (.int .i64 (ordW x y)) ∧ Gw w w' := by
  obtain ⟨xs, xp, xk⟩ := x
  obtain ⟨ys, yp, yk⟩ := y
  obtain ⟨r1, h1⟩ : ∃ r, cmpI xs ys = r := ⟨_, rfl⟩
  obtain ⟨r2, h2⟩ : ∃ r, cmpI xk yk = r := ⟨_, rfl⟩
  obtain ⟨r3, h3⟩ : ∃ r, cmpS xp yp = r := ⟨_, rfl⟩
  obtain ⟨r, hr⟩ : ∃ r, ordW ⟨xs, xp, xk⟩ ⟨ys, yp, yk⟩ = r := ⟨_, rfl⟩
  have HO : Hid (orI [r1, r2, r3] = r) := by show _ = _; rw [← hr, ← h1, ← h2, ← h3]; rfl
  have HC1 := Lib.hid (fun W => cmpI64_any xs ys W)
  have HC2 := Lib.hid (fun W => cmpInt_any xk yk W)
  have HC3 := Lib.hid (fun W => cmpStr_any xp yp W)
  rw [hr]
  rw [h1] at HC1
  rw [h2] at HC2
  rw [h3] at HC3
  clear h1 h2 h3 hr
  go_enter Tryd.func22, Tryd.ntmps22
  go_upto_region 1 with (fail)
  obtain ⟨wX, hwX⟩ : ∃ wX, (w.alloc (.cells #[.int .i64 xs, .string xp, .int .i64 xk] 51)).alloc (.cells #[.int .i64 ys, .string yp, .int .i64 yk] 51) = wX := ⟨_, rfl⟩
  have hg : Gw w wX := by rw [← hwX]; exact ((Gw.refl w).alloc _).alloc _
  have b1 : Blk wX w.heap.size #[.int .i64 xs, .string xp, .int .i64 xk] 51 := by rw [← hwX]; exact Blk.kp (S := fun _ => False) (heap_alloc_new w _) ((Kp.refl _ _).alloc _) (fun f => f)
  have b2 : Blk wX (w.heap.size + 1) #[.int .i64 ys, .string yp, .int .i64 yk] 51 := by
    rw [← hwX]
    have := heap_alloc_new (w.alloc (.cells #[.int .i64 xs, .string xp, .int .i64 xk] 51)) (.cells #[.int .i64 ys, .string yp, .int .i64 yk] 51)
    simpa [Blk] using this
  have HG := Lib.hid hg
  have HB1 := Lib.hid b1
  have HB2 := Lib.hid b2
  simp only [hwX]
  clear hg b1 b2 hwX
  refine' wp_region_dagG ((4, .val _) :: (5, .val _) :: (6, .val _) :: (7, .val _) :: (8, .val _) :: (9, .val _) :: (10, .val _) :: (11, .val _) :: (12, .val _) :: (13, .val _) :: (14, .val _) :: (15, .val _) :: (16, .val _) :: (17, .val _) :: (18, .val _) :: (19, .val _) :: (20, ⟨fun _ => True, fun v w => Sl w 1 v 3 [.int .i64 r1, .int .i64 r2, .int .i64 r3]⟩) :: (21, .val _) :: []) (by exact ⟨fun _ _ _ _ _ => trivial, ⟨fun _ _ _ _ _ => trivial, ⟨fun _ _ _ _ _ => trivial, ⟨fun _ _ _ _ _ => trivial, ⟨fun _ _ _ _ _ => trivial, ⟨fun _ _ _ _ _ => trivial, ⟨fun _ _ _ _ _ => trivial, ⟨fun _ _ _ _ _ => trivial, ⟨fun _ _ _ _ _ => trivial, ⟨fun _ _ _ _ _ => trivial, ⟨fun _ _ _ _ _ => trivial, ⟨fun _ _ _ _ _ => trivial, ⟨fun _ _ _ _ _ => trivial, ⟨fun _ _ _ _ _ => trivial, ⟨fun _ _ _ _ _ => trivial, ⟨fun _ _ _ _ _ => trivial, ⟨fun _ _ _ hr hv => Sl.ext hv hr.ext, ⟨fun _ _ _ _ _ => trivial, trivial⟩⟩⟩⟩⟩⟩⟩⟩⟩⟩⟩⟩⟩⟩⟩⟩⟩⟩) (by kernel_rfl) (by kernel_rfl) (by kernel_rfl) ?_
  rotate_left 17
  repeat (first
    | (refine wpD_skipv ?_ ?_ ?_
       focus rfl
       focus rfl
       simp only [Act.put, List.setIfInBounds_toArray, List.set_cons_succ, List.set_cons_zero])
    | (refine' wpD_val (c := _) ?_ (fun w => Gw.refl w) ?_ (fun wq hwq hfq => ?_) ?_
       rotate_left
       focus rfl
       focus rfl
       focus (have e0 := (HB1.out.kp hwq.ext (fun f => f)).cell 0 _ rfl; have e1 := (HB1.out.kp hwq.ext (fun f => f)).cell 1 _ rfl; have e2 := (HB1.out.kp hwq.ext (fun f => f)).cell 2 _ rfl; have f0 := (HB2.out.kp hwq.ext (fun f => f)).cell 0 _ rfl; have f1 := (HB2.out.kp hwq.ext (fun f => f)).cell 1 _ rfl; have f2 := (HB2.out.kp hwq.ext (fun f => f)).cell 2 _ rfl; go_simp; first | done | rfl)
       simp only [Act.put, List.setIfInBounds_toArray, List.set_cons_succ, List.set_cons_zero])
    | (refine' wpD_con (c := _) ?_ ?_ (fun wq hwq hfq => ?_) ?_
       rotate_left
       focus rfl
       focus rfl
       focus (have e0 := (HB1.out.kp hwq.ext (fun f => f)).cell 0 _ rfl; have e1 := (HB1.out.kp hwq.ext (fun f => f)).cell 1 _ rfl; have e2 := (HB1.out.kp hwq.ext (fun f => f)).cell 2 _ rfl; have f0 := (HB2.out.kp hwq.ext (fun f => f)).cell 0 _ rfl; have f1 := (HB2.out.kp hwq.ext (fun f => f)).cell 1 _ rfl; have f2 := (HB2.out.kp hwq.ext (fun f => f)).cell 2 _ rfl; go_simp; (try (rw [dUpon_enter])); first | ((have hc := or_any v20 [r1, r2, r3] wq (hfq 20 rfl)); (with_reducible refine hc.mono ?_); rintro e w' ⟨rfl, rfl⟩; rw [HO.out]; exact DEnd.con (Gw.refl _)) | ((with_reducible refine (HC1.out _).mono ?_); rintro e w' ⟨rfl, rfl⟩; exact DEnd.con (Gw.refl _)) | ((with_reducible refine (HC2.out _).mono ?_); rintro e w' ⟨rfl, rfl⟩; exact DEnd.con (Gw.refl _)) | ((with_reducible refine (HC3.out _).mono ?_); rintro e w' ⟨rfl, rfl⟩; exact DEnd.con (Gw.refl _)))
       simp only [Act.put, List.setIfInBounds_toArray, List.set_cons_succ, List.set_cons_zero])
    | (refine wpD_made (A := fun _ => True) (V := fun v w => Sl w 1 v 3 [.int .i64 r1, .int .i64 r2, .int .i64 r3]) 20 ?_ ?_ ?_ ?_ (fun wq hwq hfq => ?_) (fun v20 h20 => ?_)
       focus rfl
       focus rfl
       focus (exact ⟨undef, trivial⟩)
       focus rfl
       focus (have e0 := (HB1.out.kp hwq.ext (fun f => f)).cell 0 _ rfl; have e1 := (HB1.out.kp hwq.ext (fun f => f)).cell 1 _ rfl; have e2 := (HB1.out.kp hwq.ext (fun f => f)).cell 2 _ rfl; have f0 := (HB2.out.kp hwq.ext (fun f => f)).cell 0 _ rfl; have f1 := (HB2.out.kp hwq.ext (fun f => f)).cell 1 _ rfl; have f2 := (HB2.out.kp hwq.ext (fun f => f)).cell 2 _ rfl; go_simp; (try (rw [dUpon_enter])); rw [dUpon_value]; exact mPost trivial (Sl.of_block (heap_alloc_new wq _) rfl (by decide) (Nat.le_refl _)) ((Gw.refl _).alloc _))
       clear h20
       simp only [Act.put, List.setIfInBounds_toArray, List.set_cons_succ, List.set_cons_zero])
    | fail)
  refine wpD_nil ?_
  intro w1 hx1 _
  go_wp2_with (fail)
  go_ret
  go_light
  exact ⟨rfl, HG.out.trans hx1⟩
set_option maxHeartbeats 1600000 in
theorem event_any (x : Wt) (p up : ByteArray) (ch : Int) (w : World) : Calls Tryd.prog 25 #[.agg (wcell x).toArray, .string p, .string up, .int .i64 ch] w fun e w' => e = .returned (.int .i64 (evG p up ch x)) ∧ Ext w w' := by
  obtain ⟨xs, xp, xk⟩ := x
  have a1 := str_eq xp p
  have a2 := str_eq xp up
  obtain ⟨r, hr⟩ : ∃ r, evG p up ch ⟨xs, xp, xk⟩ = r := ⟨_, rfl⟩
  rw [hr]
  obtain ⟨c1, hc1⟩ : ∃ c, decide (xp = p) = c := ⟨_, rfl⟩
  obtain ⟨c2, hc2⟩ : ∃ c, decide (xp = up) = c := ⟨_, rfl⟩
  obtain ⟨c3, hc3⟩ : ∃ c, decide (up = ⟨#[]⟩) = c := ⟨_, rfl⟩
  rw [hc1] at a1
  rw [hc2] at a2
  have hl3 : up.toList.isEmpty = c3 := by rw [← hc3, Lib.toList_data, Bool.eq_iff_iff, decide_eq_true_iff, List.isEmpty_iff]; exact ⟨fun h => Av.bs_inj h, fun h => by rw [h]⟩
  have HR : Hid (r = if xk = 1 ∧ c1 = true then ch else if (xk = 2 ∧ ch = 2) ∧ c1 = true then ch else if ((xk = 2 ∧ ch ≠ 3) ∧ c3 = false) ∧ c2 = true then 4 else 0) := by
    show _ = _
    rw [← hr, ← hc1, ← hc2, ← hc3]; unfold evG; simp
  clear hr hc1 hc2 hc3
  go_enter Tryd.func25, Tryd.ntmps25
  have a3 : up.toList.isEmpty = c3 := hl3
  cases c3 with
  | true =>
    have a4 : up.toList = [] := List.isEmpty_iff.1 a3
    clear hl3
    cases c1 <;> cases c2
    all_goals
      go_wp2_with (fail)
      all_goals
        go_ret
        go_light
        refine ⟨?_, (Kp.refl _ _).alloc _⟩
        have h := HR.out
        simp [*] at h
        simp [h]
  | false =>
    have a4 : ¬ up.toList = [] := fun h => by rw [h] at a3; cases a3
    clear hl3
    cases c1 <;> cases c2
    all_goals
      go_wp2_with (fail)
      all_goals
        go_ret
        go_light
        refine ⟨?_, (Kp.refl _ _).alloc _⟩
        have h := HR.out
        simp [*] at h
        simp [h]
end Go.Proofs.YtiplmahjmkmddaaDoor
