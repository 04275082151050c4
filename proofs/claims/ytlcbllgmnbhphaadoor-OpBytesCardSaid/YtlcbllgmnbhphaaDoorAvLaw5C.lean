/- Walks of package aviarylaw5: OpBytes. -/
import Derived.Test.YtlcbllgmnbhphaaDoorAvLaw5B
import Derived.Test.YtlcbllgmnbhphaaDoorAvWGetR
namespace Go.Proofs.YtlcbllgmnbhphaaDoor
set_option maxRecDepth 100000
open Go.RowKit Av

theorem sameR_self (s n : Int) (xs : List OpV) : sameR s n xs s n xs = true := by simp [sameR]
theorem opsAt_slice {w : World} {v : Value} {xs : List OpV} (h : OpsAt w v xs) : ∃ a l c, v = .slice a l c := by obtain ⟨a, c, e, _⟩ := OpsAt.open h; exact ⟨_, _, _, e⟩

set_option maxHeartbeats 1600000 in
theorem opBytes_any (s n : Int) (v vb : Value) (xs : List OpV) (bs : Bs) (w : World) (hG : GT w) (h : OpsAt w v xs) (hsz : OpsSz xs) (hb : BytesR w vb bs) :
    Calls Tryd.prog 3 #[.agg #[.int .i64 s, .int .i64 n, v], vb] w (LawOK w) := by
  obtain ⟨a, l, c, rfl⟩ := opsAt_slice h
  obtain ⟨va, vc, rfl, hvc, hvm, _⟩ := BytesR.open hb
  unfold maxLen at hvm
  obtain ⟨wA, hwA⟩ : ∃ wA, w.alloc (.cells #[.int .i64 s, .int .i64 n, .slice a l c] 24) = wA := ⟨_, rfl⟩
  have hxA : Ext w wA := by rw [← hwA]; exact (Kp.refl _ _).alloc _
  have hrA : Blk wA w.heap.size #[.int .i64 s, .int .i64 n, .slice a l c] 24 := by
    rw [← hwA]; exact heap_alloc_new w _
  have HRQ := Lib.hid (fun W (hx : Ext wA W) => blk3 (Blk.kp hrA hx (fun f => f)))
  have HOR := Lib.hid (fun W (hx : Ext wA W) => (h.ext hxA).ext hx)
  have HPR := Lib.hid (fun W (hx : Ext wA W) => put_any s n _ xs W (hG.ext (hxA.ext hx)) (HOR.out W hx) hsz)
  have HPF := Lib.hid (fun W (hx : Ext wA W) => refPut_any s n _ xs W (HOR.out W hx) hsz)
  have HGT := Lib.hid (fun hl W (hx : Ext wA W) => get_any _ bs W (hG.ext (hxA.ext hx)) (hb.ext (hxA.ext hx)) hl)
  have HGF := Lib.hid (fun hl W (hx : Ext wA W) => refGet_any _ bs W (hb.ext (hxA.ext hx)) hl)
  have HAW := Lib.hid (awake_any wA (hG.ext hxA))
  have HXA := Lib.hid hxA
  have HWA := Lib.hid hwA
  clear h hxA hrA hwA hsz hG hb
  go_enter Tryd.func3, Tryd.ntmps3
  go_upto_region 1 with (fail)
  rw [HWA.out]
  go_wp2_with (fail)
  refine HAW.out.mono ?_
  rintro e w1 ⟨rfl, hx1⟩
  obtain ⟨r0, r1, r2⟩ := HRQ.out w1 hx1
  have HX1 := Lib.hid hx1
  clear hx1 HAW HWA
  go_wp2_with (fail)
  refine (great_any _ xs w1 (HOR.out w1 HX1.out)).mono ?_
  rintro e w2 ⟨rfl, hx2⟩
  have HX2 := Lib.hid (HX1.out.ext hx2)
  clear hx2 HX1 r0 r1 r2
  cases hgr : greatB xs with
  | true =>
    clear hgr
    go_wp2_with (fail)
    go_ret
    go_light
    exact ⟨rfl, HXA.out.ext HX2.out⟩
  | false =>
    clear hgr
    by_cases hbig : 3000 < bs.length
    · have hbig' : (3000 : Int) < bs.length := by omega
      go_wp2_with (fail)
      go_ret
      go_light
      exact ⟨rfl, HXA.out.ext HX2.out⟩
    · have hbig' : ¬ (3000 : Int) < bs.length := by omega
      have hbl : bs.length ≤ 1000000000 := by omega
      have HGT' := Lib.hid (HGT.out hbl)
      have HGF' := Lib.hid (HGF.out hbl)
      have hcase : (getE bs = 0 ∧ (getR bs).isSome = true) ∨ (getE bs = 3 ∧ (getR bs).isSome = false) := by
        unfold getE
        cases getR bs with
        | none => exact .inr ⟨rfl, rfl⟩
        | some p => exact .inl ⟨rfl, rfl⟩
      obtain ⟨⟨s', n', ys⟩, hD⟩ : ∃ D, (getR bs).getD (0, 0, []) = D := ⟨_, rfl⟩
      obtain ⟨ee, hee⟩ : ∃ x, getE bs = x := ⟨_, rfl⟩
      obtain ⟨ok, hok⟩ : ∃ x, (getR bs).isSome = x := ⟨_, rfl⟩
      rw [hD, hee] at HGT'
      rw [hD, hok] at HGF'
      rw [hee, hok] at hcase
      have HCS := Lib.hid hcase
      clear HGT HGF hD hee hok hcase hbl hbig
      go_wp2_with (fail)
      refine (HGT'.out w2 HX2.out).mono ?_
      rintro e w3 ⟨q3, rfl, ho3, hx3⟩
      obtain ⟨a3, l3, c3, rfl⟩ := opsAt_slice ho3
      obtain ⟨wB, hwB⟩ : ∃ wB, w3.alloc (.cells #[.int .i64 s', .int .i64 n', .slice a3 l3 c3] 24) = wB := ⟨_, rfl⟩
      have hxB : Ext w3 wB := by rw [← hwB]; exact (Kp.refl _ _).alloc _
      have hB : Blk wB w3.heap.size #[.int .i64 s', .int .i64 n', .slice a3 l3 c3] 24 := by rw [← hwB]; exact heap_alloc_new w3 _
      have HAB := Lib.hid ((HX2.out.ext hx3).ext hxB)
      have HBB := Lib.hid hB
      have HOB := Lib.hid (ho3.ext hxB)
      have HWB := Lib.hid hwB
      clear hx3 ho3 hxB hB hwB
      go_upto_region 6 with (fail)
      rw [HWB.out]
      go_wp2_with (fail)
      refine (HGF'.out wB HAB.out).mono ?_
      rintro e w4 ⟨q4, rfl, ho4, hx4⟩
      obtain ⟨a4, l4, c4, rfl⟩ := opsAt_slice ho4
      obtain ⟨wC, hwC⟩ : ∃ wC, w4.alloc (.cells #[.int .i64 s', .int .i64 n', .slice a4 l4 c4] rqT) = wC := ⟨_, rfl⟩
      have hxC : Ext w4 wC := by rw [← hwC]; exact (Kp.refl _ _).alloc _
      have hC : Blk wC w4.heap.size #[.int .i64 s', .int .i64 n', .slice a4 l4 c4] rqT := by rw [← hwC]; exact heap_alloc_new w4 _
      have hBC := hx4.ext hxC
      have HAC := Lib.hid (HAB.out.ext hBC)
      have HCE := Lib.hid (fun W (hx : Ext wC W) => And.intro (HRQ.out W (HAC.out.ext hx)) (And.intro (blk3 (HBB.out.kp (hBC.ext hx) (fun f => f))) (blk3 (Blk.kp hC hx (fun f => f)))))
      have HP1 := Lib.hid (fun W (hx : Ext wC W) => HPR.out W (HAC.out.ext hx))
      have HP2 := Lib.hid (fun W (hx : Ext wC W) => HPF.out W (HAC.out.ext hx))
      have HSM := Lib.hid (fun W (hx : Ext wC W) => refSameR_any s' n' s' n' _ _ ys ys W (HOB.out.ext (hBC.ext hx)) ((ho4.ext hxC).ext hx))
      rw [sameR_self] at HSM
      have HWC := Lib.hid hwC
      have HCV : Hid (∀ (v : Value) (W : World), BytesR W v (putR s n xs) → (convert 25 9 v).run Tryd.prog W = .ok (.string (mkS (putR s n xs))) W) := fun v W hb => conv_bytes hb
      obtain ⟨S1, hS1⟩ : ∃ S, mkS (putR s n xs) = S := ⟨_, rfl⟩
      rw [hS1] at HCV
      obtain ⟨B1, hB1⟩ : ∃ B, putR s n xs = B := ⟨_, rfl⟩
      rw [hB1] at HCV HP1 HP2
      have HSE : Hid ((S1.toList == S1.toList) = true) := by show _ = _; simp
      clear hx4 ho4 hxC hC hwC hBC HOB HBB HWB HX2 hS1 hB1 HPR HPF HGT' HGF' HOR HRQ HAB
      go_upto_region 7 with (fail)
      rw [HWC.out]
      clear HWC
      rcases HCS.out with ⟨rfl, rfl⟩ | ⟨rfl, rfl⟩
      all_goals
        refine' wp_region_dag0 [(29, .val _), (30, ⟨fun _ => True, fun v w => BytesR w v B1⟩), (31, .val _), (32, .val _), (33, .val _), (34, ⟨fun _ => True, fun v w => BytesR w v B1⟩), (35, .val _), (36, .val _), (37, .val _), (38, .val _), (39, .val _), (40, .val _), (41, .val _), (42, .val _), (43, .val _), (44, .val _), (45, .val _), (46, .val _), (47, .val _), (48, .val _), (49, .val _), (50, .val _), (51, .val _), (52, .val _), (53, .val _), (54, .val _), (55, .val _), (4, .val _)] ⟨fun _ _ _ _ _ => trivial, ⟨fun _ _ _ hr hv => hv.ext hr, ⟨fun _ _ _ _ _ => trivial, ⟨fun _ _ _ _ _ => trivial, ⟨fun _ _ _ _ _ => trivial, ⟨fun _ _ _ hr hv => hv.ext hr, ⟨fun _ _ _ _ _ => trivial, ⟨fun _ _ _ _ _ => trivial, ⟨fun _ _ _ _ _ => trivial, ⟨fun _ _ _ _ _ => trivial, ⟨fun _ _ _ _ _ => trivial, ⟨fun _ _ _ _ _ => trivial, ⟨fun _ _ _ _ _ => trivial, ⟨fun _ _ _ _ _ => trivial, ⟨fun _ _ _ _ _ => trivial, ⟨fun _ _ _ _ _ => trivial, ⟨fun _ _ _ _ _ => trivial, ⟨fun _ _ _ _ _ => trivial, ⟨fun _ _ _ _ _ => trivial, ⟨fun _ _ _ _ _ => trivial, ⟨fun _ _ _ _ _ => trivial, ⟨fun _ _ _ _ _ => trivial, ⟨fun _ _ _ _ _ => trivial, ⟨fun _ _ _ _ _ => trivial, ⟨fun _ _ _ _ _ => trivial, ⟨fun _ _ _ _ _ => trivial, ⟨fun _ _ _ _ _ => trivial, ⟨fun _ _ _ _ _ => trivial, trivial⟩⟩⟩⟩⟩⟩⟩⟩⟩⟩⟩⟩⟩⟩⟩⟩⟩⟩⟩⟩⟩⟩⟩⟩⟩⟩⟩⟩ (by kernel_rfl) (by kernel_rfl) (by kernel_rfl) (WpD.out ?_)
        rotate_left 26
        repeat (first
          | (refine wpD_skipv ?_ ?_ ?_
             focus rfl
             focus rfl
             simp only [Act.put, List.setIfInBounds_toArray, List.set_cons_succ, List.set_cons_zero])
          | (refine' wpD_val (c := _) ?_ (fun w => Kp.refl _ w) ?_ (fun wq hwq hfq => ?_) ?_
             rotate_left
             focus rfl
             focus rfl
             focus (have cs := HCE.out wq hwq; obtain ⟨⟨r0, r1, r2⟩, ⟨q0, q1, q2⟩, x0, x1, x2⟩ := cs; have hse := HSE.out; (first | have k1 := HCV.out v30 wq (hfq 30 rfl) | have k1 := HCV.out v34 wq (hfq 34 rfl) | skip); go_simp; first | done | rfl)
             simp only [Act.put, List.setIfInBounds_toArray, List.set_cons_succ, List.set_cons_zero])
          | (refine' wpD_con (c := _) ?_ ?_ (fun wq hwq hfq => ?_) ?_
             rotate_left
             focus rfl
             focus rfl
             focus (have cs := HCE.out wq hwq; obtain ⟨⟨r0, r1, r2⟩, ⟨q0, q1, q2⟩, x0, x1, x2⟩ := cs; have hse := HSE.out; (first | have k1 := HCV.out v30 wq (hfq 30 rfl) | have k1 := HCV.out v34 wq (hfq 34 rfl) | skip); go_simp; (try (rw [dUpon_enter])); (first | ((with_reducible refine (HSM.out _ hwq).mono ?_); rintro e w' ⟨rfl, hx⟩; exact DEnd.con hx) | ((with_reducible refine (rq_any _ _ _ _ _ _).mono ?_); rintro e w' ⟨rfl, hx⟩; exact DEnd.con hx)))
             simp only [Act.put, List.setIfInBounds_toArray, List.set_cons_succ, List.set_cons_zero])
          | (refine wpD_made (A := fun _ => True) (V := fun v w => BytesR w v B1) 30 ?_ ?_ ?_ ?_ (fun wq hwq hfq => ?_) (fun v30 h30 => ?_)
             focus rfl
             focus rfl
             focus (exact ⟨undef, trivial⟩)
             focus rfl
             focus (have cs := HCE.out wq hwq; obtain ⟨⟨r0, r1, r2⟩, ⟨q0, q1, q2⟩, x0, x1, x2⟩ := cs; have hse := HSE.out; (first | have k1 := HCV.out v30 wq (hfq 30 rfl) | have k1 := HCV.out v34 wq (hfq 34 rfl) | skip); go_simp; (try (rw [dUpon_enter])); (with_reducible refine (HP1.out _ hwq).mono ?_); rintro e w' ⟨v, rfl, hb, hx⟩; exact DEnd.made trivial hb hx)
             clear h30
             simp only [Act.put, List.setIfInBounds_toArray, List.set_cons_succ, List.set_cons_zero])
          | (refine wpD_made (A := fun _ => True) (V := fun v w => BytesR w v B1) 34 ?_ ?_ ?_ ?_ (fun wq hwq hfq => ?_) (fun v34 h34 => ?_)
             focus rfl
             focus rfl
             focus (exact ⟨undef, trivial⟩)
             focus rfl
             focus (have cs := HCE.out wq hwq; obtain ⟨⟨r0, r1, r2⟩, ⟨q0, q1, q2⟩, x0, x1, x2⟩ := cs; have hse := HSE.out; (first | have k1 := HCV.out v30 wq (hfq 30 rfl) | have k1 := HCV.out v34 wq (hfq 34 rfl) | skip); go_simp; (try (rw [dUpon_enter])); (with_reducible refine (HP2.out _ hwq).mono ?_); rintro e w' ⟨v, rfl, hb, hx⟩; exact DEnd.made trivial hb hx)
             clear h34
             simp only [Act.put, List.setIfInBounds_toArray, List.set_cons_succ, List.set_cons_zero])
          | fail)
        refine wpD_nil ?_
        intro w8 hx8 _
        go_wp2_with (fail)
        go_ret
        go_light
        exact ⟨rfl, HXA.out.ext (HAC.out.ext hx8)⟩
end Go.Proofs.YtlcbllgmnbhphaaDoor
