/- Walks of package aviarylaw5: OpBack. -/
import Derived.Test.YtlcbllgmnbhphaaDoorAvLaw5A
import Derived.Test.YtlcbllgmnbhphaaDoorAvWRefRd
import Derived.Test.YtlcbllgmnbhphaaDoorAvDag
namespace Go.Proofs.YtlcbllgmnbhphaaDoor
set_option maxRecDepth 100000
open Go.RowKit Av

theorem put_inj {s n s' n' : Int} {xs ys : List OpV} (h : mayR s n xs = 0) (h' : mayR s' n' ys = 0) (hs : I64 s) (hn : I64 n) (ho : ∀ o ∈ xs, Op64 o) (hs' : I64 s') (hn' : I64 n') (ho' : ∀ o ∈ ys, Op64 o) :
    decide (mkS (putR s n xs) = mkS (putR s' n' ys)) = sameR s n xs s' n' ys := by
  rw [Bool.eq_iff_iff]
  simp only [sameR, Bool.and_eq_true, decide_eq_true_eq]
  constructor
  · intro e
    have e2 : putR s n xs = putR s' n' ys := by rw [← mkS_list (putR s n xs), e, mkS_list]
    have h1 := getR_enc h hs hn ho
    have h2 := getR_enc h' hs' hn' ho'
    unfold putR at e2
    rw [if_pos h, if_pos h'] at e2
    rw [e2, h2] at h1
    simp only [Option.some.injEq, Prod.mk.injEq] at h1
    exact ⟨h1.1.symm, h1.2.1.symm, h1.2.2.symm⟩
  · rintro ⟨rfl, rfl, rfl⟩
    rfl
theorem get_put {s n : Int} {xs : List OpV} (h : mayR s n xs = 0) (hs : I64 s) (hn : I64 n) (ho : ∀ o ∈ xs, Op64 o) (v : Value) (w : World) (hG : GT w) (hb : BytesR w v (putR s n xs)) :
    Calls Tryd.prog 8 #[v] w fun e w' => ∃ v, e = .returned (.tuple #[.agg #[.int .i64 s, .int .i64 n, v], .int .i64 0]) ∧ OpsAt w' v xs ∧ Ext w w' := by
  have e : getR (putR s n xs) = some (s, n, xs) := by unfold putR; rw [if_pos h]; exact getR_enc h hs hn ho
  have h := get_any v (putR s n xs) w hG hb (by have := put_len s n xs; omega)
  unfold getE at h
  rw [e] at h
  exact h
theorem blk3 {W : World} {g : Nat} {s n : Int} {v : Value} {T : TypeId} (h : Blk W g #[.int .i64 s, .int .i64 n, v] T) : W.cell? ⟨g, 0, none⟩ = some (.int .i64 s) ∧ W.cell? ⟨g, 1, none⟩ = some (.int .i64 n) ∧ W.cell? ⟨g, 2, none⟩ = some v := ⟨h.cell 0 _ rfl, h.cell 1 _ rfl, h.cell 2 _ rfl⟩
theorem sameR_refl (s n : Int) (xs : List OpV) : sameR s n xs s n xs = true := by simp [sameR]

set_option maxHeartbeats 1600000 in
theorem opBack_any (s n s' n' : Int) (v v' : Value) (xs ys : List OpV) (w : World) (hG : GT w) (h : OpsAt w v xs) (hsz : OpsSz xs) (h' : OpsAt w v' ys) (hsz' : OpsSz ys)
    (hs : I64 s) (hn : I64 n) (ho : ∀ o ∈ xs, Op64 o) (hs' : I64 s') (hn' : I64 n') (ho' : ∀ o ∈ ys, Op64 o) :
    Calls Tryd.prog 4 #[.agg #[.int .i64 s, .int .i64 n, v], .agg #[.int .i64 s', .int .i64 n', v']] w (LawOK w) := by
  obtain ⟨a, c, hv, _⟩ := OpsAt.open h
  obtain ⟨a', c', hv', _⟩ := OpsAt.open h'
  obtain ⟨l, hl⟩ : ∃ l, xs.length = l := ⟨_, rfl⟩
  obtain ⟨l', hl'⟩ : ∃ l, ys.length = l := ⟨_, rfl⟩
  rw [hl] at hv
  rw [hl'] at hv'
  clear hl hl'
  subst hv hv'
  obtain ⟨wA, hwA⟩ : ∃ wA, (w.alloc (.cells #[.int .i64 s, .int .i64 n, .slice a l c] 24)).alloc (.cells #[.int .i64 s', .int .i64 n', .slice a' l' c'] 24) = wA := ⟨_, rfl⟩
  have hxA : Ext w wA := by rw [← hwA]; exact ((Kp.refl _ _).alloc _).alloc _
  have hrA : Blk wA w.heap.size #[.int .i64 s, .int .i64 n, .slice a l c] 24 := by
    rw [← hwA]
    exact Blk.kp (heap_alloc_new w _) ((Kp.refl (fun _ => False) _).alloc _) (fun f => f)
  have hqA : Blk wA (w.heap.size + 1) #[.int .i64 s', .int .i64 n', .slice a' l' c'] 24 := by
    rw [← hwA]
    have := heap_alloc_new (w.alloc (.cells #[.int .i64 s, .int .i64 n, .slice a l c] 24)) (.cells #[.int .i64 s', .int .i64 n', .slice a' l' c'] 24)
    simpa [Blk] using this
  have HRQ := Lib.hid (fun W (hx : Ext wA W) => And.intro (blk3 (Blk.kp hrA hx (fun f => f))) (blk3 (Blk.kp hqA hx (fun f => f))))
  have HGT := Lib.hid (fun W (hx : Ext wA W) => hG.ext (hxA.ext hx))
  have HOR := Lib.hid (fun W (hx : Ext wA W) => (h.ext hxA).ext hx)
  have HOQ := Lib.hid (fun W (hx : Ext wA W) => (h'.ext hxA).ext hx)
  have HPR := Lib.hid (fun W (hx : Ext wA W) => put_any s n _ xs W (HGT.out W hx) (HOR.out W hx) hsz)
  have HPQ := Lib.hid (fun W (hx : Ext wA W) => put_any s' n' _ ys W (HGT.out W hx) (HOQ.out W hx) hsz')
  have HMR := Lib.hid (fun W (hx : Ext wA W) => may_any s n _ xs W (HGT.out W hx) (HOR.out W hx) hsz)
  have HMQ := Lib.hid (fun W (hx : Ext wA W) => may_any s' n' _ ys W (HGT.out W hx) (HOQ.out W hx) hsz')
  have HGB := Lib.hid (fun hm v W (hx : Ext wA W) hb => get_put (s := s) (n := n) (xs := xs) hm hs hn ho v W (HGT.out W hx) hb)
  have HIN := Lib.hid (fun hm hm' => put_inj (s := s) (n := n) (xs := xs) (s' := s') (n' := n') (ys := ys) hm hm' hs hn ho hs' hn' ho')
  have HXA := Lib.hid hxA
  have HWA := Lib.hid hwA
  have HAW := Lib.hid (awake_any wA (hG.ext hxA))
  clear h h' hxA hrA hqA hwA hsz hsz' hs hn ho hs' hn' ho' hG
  go_enter Tryd.func4, Tryd.ntmps4
  go_upto_region 1 with (fail)
  rw [HWA.out]
  go_wp2_with (fail)
  refine HAW.out.mono ?_
  rintro e w1 ⟨rfl, hx1⟩
  obtain ⟨⟨r0, r1, r2⟩, q0, q1, q2⟩ := HRQ.out w1 hx1
  have HX1 := Lib.hid hx1
  clear hx1 HAW
  go_wp2_with (fail)
  refine (great_any _ xs w1 (HOR.out w1 HX1.out)).mono ?_
  rintro e w2 ⟨rfl, hx2⟩
  have HX2 := Lib.hid (HX1.out.ext hx2)
  clear hx2 HX1 r0 r1 r2 q0 q1 q2
  cases hgr : greatB xs with
  | true =>
    clear hgr
    go_wp2_with (fail)
    go_ret
    go_light
    exact ⟨rfl, HXA.out.ext HX2.out⟩
  | false =>
    clear hgr
    obtain ⟨⟨r0, r1, r2⟩, q0, q1, q2⟩ := HRQ.out w2 HX2.out
    go_wp2_with (fail)
    refine (great_any _ ys w2 (HOQ.out w2 HX2.out)).mono ?_
    rintro e w3 ⟨rfl, hx3⟩
    have HX3 := Lib.hid (HX2.out.ext hx3)
    clear hx3 HX2 r0 r1 r2 q0 q1 q2
    cases hgq : greatB ys with
    | true =>
      clear hgq
      go_wp2_with (fail)
      go_ret
      go_light
      exact ⟨rfl, HXA.out.ext HX3.out⟩
    | false =>
      clear hgq
      obtain ⟨⟨r0, r1, r2⟩, q0, q1, q2⟩ := HRQ.out w3 HX3.out
      go_wp2_with (fail)
      refine (HMR.out w3 HX3.out).mono ?_
      rintro e w4 ⟨rfl, hx4⟩
      have HX4 := Lib.hid (HX3.out.ext hx4)
      clear hx4 HX3 r0 r1 r2 q0 q1 q2
      by_cases hm : mayR s n xs = 0
      · obtain ⟨⟨r0, r1, r2⟩, q0, q1, q2⟩ := HRQ.out w4 HX4.out
        have HGB' := Lib.hid (HGB.out hm)
        have HIN' := Lib.hid (HIN.out hm)
        rw [hm]
        clear hm HGB HIN
        go_wp2_with (fail)
        refine (HMQ.out w4 HX4.out).mono ?_
        rintro e w5 ⟨rfl, hx5⟩
        have HX5 := Lib.hid (HX4.out.ext hx5)
        clear hx5 HX4 r0 r1 r2 q0 q1 q2
        by_cases hm' : mayR s' n' ys = 0
        · obtain ⟨⟨r0, r1, r2⟩, q0, q1, q2⟩ := HRQ.out w5 HX5.out
          have hin := HIN'.out hm'
          rw [hm']
          clear hm' HIN'
          go_wp2_with (fail)
          refine (HPR.out w5 HX5.out).mono ?_
          rintro e w6 ⟨u6, rfl, hb6, hx6⟩
          have HX6 := Lib.hid (HX5.out.ext hx6)
          have HG6 := Lib.hid (HGB'.out u6 w6 HX6.out hb6)
          clear hx6 hb6 HX5 r0 r1 r2 q0 q1 q2
          go_wp2_with (fail)
          refine HG6.out.mono ?_
          rintro e w7 ⟨u7, rfl, ho7, hx7⟩
          obtain ⟨a7, l7, c7, hu7⟩ : ∃ a7 l7 c7, u7 = .slice a7 l7 c7 := by obtain ⟨a, c, e, _⟩ := Sl.open ho7.1; exact ⟨_, _, _, e⟩
          subst hu7
          obtain ⟨wB, hwB⟩ : ∃ wB, w7.alloc (.cells #[.int .i64 s, .int .i64 n, .slice a7 l7 c7] 24) = wB := ⟨_, rfl⟩
          have hxB : Ext w7 wB := by rw [← hwB]; exact (Kp.refl _ _).alloc _
          have hB : Blk wB w7.heap.size #[.int .i64 s, .int .i64 n, .slice a7 l7 c7] 24 := by rw [← hwB]; exact heap_alloc_new w7 _
          have hAB := (HX6.out.ext hx7).ext hxB
          have HAB := Lib.hid hAB
          have HCE := Lib.hid (fun W (hx : Ext wB W) => And.intro (HRQ.out W (hAB.ext hx)) (blk3 (Blk.kp hB hx (fun f => f))))
          have HS1 := Lib.hid (fun W (hx : Ext wB W) => opSame_any s n s n _ _ xs xs W ((ho7.ext hxB).ext hx) (HOR.out W (hAB.ext hx)))
          have HS2 := Lib.hid (fun W (hx : Ext wB W) => opSame_any s n s' n' _ _ xs ys W (HOR.out W (hAB.ext hx)) (HOQ.out W (hAB.ext hx)))
          have HP1 := Lib.hid (fun W (hx : Ext wB W) => HPR.out W (hAB.ext hx))
          have HP2 := Lib.hid (fun W (hx : Ext wB W) => HPQ.out W (hAB.ext hx))
          rw [sameR_refl] at HS1
          have HWB := Lib.hid hwB
          clear ho7 hx7 hxB hB hAB hwB HX6 HG6 HPR HPQ HMR HMQ HGB' HRQ HOR HOQ HGT
          go_upto_region 6 with (fail)
          rw [HWB.out]
          clear HWB
          have hse := str_eq (mkS (putR s n xs)) (mkS (putR s' n' ys))
          rw [hin] at hse
          have HCV : Hid (∀ (v : Value) (W : World), BytesR W v (putR s n xs) → (convert 25 9 v).run Tryd.prog W = .ok (.string (mkS (putR s n xs))) W) := fun v W hb => conv_bytes hb
          have HCQ : Hid (∀ (v : Value) (W : World), BytesR W v (putR s' n' ys) → (convert 25 9 v).run Tryd.prog W = .ok (.string (mkS (putR s' n' ys))) W) := fun v W hb => conv_bytes hb
          obtain ⟨S1, hS1⟩ : ∃ S, mkS (putR s n xs) = S := ⟨_, rfl⟩
          obtain ⟨S2, hS2⟩ : ∃ S, mkS (putR s' n' ys) = S := ⟨_, rfl⟩
          rw [hS1] at HCV hse
          rw [hS2] at HCQ hse
          obtain ⟨B1, hB1⟩ : ∃ B, putR s n xs = B := ⟨_, rfl⟩
          obtain ⟨B2, hB2⟩ : ∃ B, putR s' n' ys = B := ⟨_, rfl⟩
          rw [hB1] at HP1 HCV
          rw [hB2] at HP2 HCQ
          obtain ⟨sr, hsr⟩ : ∃ b, sameR s n xs s' n' ys = b := ⟨_, rfl⟩
          rw [hsr] at HS2 hse
          have HSE := Lib.hid hse
          clear hin hS1 hS2 hB1 hB2 hsr hse
          refine' wp_region_dag0 [(33, .val _), (34, .val _), (35, .val _), (36, .val _), (37, .val _), (38, .val _), (39, .val _), (40, .val _), (41, .val _), (42, ⟨fun _ => True, fun v w => BytesR w v B1⟩), (43, .val _), (44, .val _), (45, ⟨fun _ => True, fun v w => BytesR w v B2⟩), (46, .val _), (47, .val _), (48, .val _), (49, .val _), (50, .val _), (51, .val _), (52, .val _), (4, .val _)] ⟨fun _ _ _ _ _ => trivial, ⟨fun _ _ _ _ _ => trivial, ⟨fun _ _ _ _ _ => trivial, ⟨fun _ _ _ _ _ => trivial, ⟨fun _ _ _ _ _ => trivial, ⟨fun _ _ _ _ _ => trivial, ⟨fun _ _ _ _ _ => trivial, ⟨fun _ _ _ _ _ => trivial, ⟨fun _ _ _ _ _ => trivial, ⟨fun _ _ _ hr hv => hv.ext hr, ⟨fun _ _ _ _ _ => trivial, ⟨fun _ _ _ _ _ => trivial, ⟨fun _ _ _ hr hv => hv.ext hr, ⟨fun _ _ _ _ _ => trivial, ⟨fun _ _ _ _ _ => trivial, ⟨fun _ _ _ _ _ => trivial, ⟨fun _ _ _ _ _ => trivial, ⟨fun _ _ _ _ _ => trivial, ⟨fun _ _ _ _ _ => trivial, ⟨fun _ _ _ _ _ => trivial, ⟨fun _ _ _ _ _ => trivial, trivial⟩⟩⟩⟩⟩⟩⟩⟩⟩⟩⟩⟩⟩⟩⟩⟩⟩⟩⟩⟩⟩ (by kernel_rfl) (by kernel_rfl) (by kernel_rfl) (WpD.out ?_)
          rotate_left 19
          repeat (first
            | (refine wpD_skipv ?_ ?_ ?_
               focus rfl
               focus rfl
               simp only [Act.put, List.setIfInBounds_toArray, List.set_cons_succ, List.set_cons_zero])
            | (refine' wpD_val (c := _) ?_ (fun w => Kp.refl _ w) ?_ (fun wq hwq hfq => ?_) ?_
               rotate_left
               focus rfl
               focus rfl
               focus ((have c := HCE.out wq hwq; obtain ⟨⟨⟨r0, r1, r2⟩, q0, q1, q2⟩, x0, x1, x2⟩ := c; have hse := HSE.out; (first | have k1 := HCV.out v42 wq (hfq 42 rfl) | have k1 := HCQ.out v45 wq (hfq 45 rfl) | skip)); go_simp; first | done | rfl)
               simp only [Act.put, List.setIfInBounds_toArray, List.set_cons_succ, List.set_cons_zero])
            | (refine' wpD_con (c := _) ?_ ?_ (fun wq hwq hfq => ?_) ?_
               rotate_left
               focus rfl
               focus rfl
               focus ((have c := HCE.out wq hwq; obtain ⟨⟨⟨r0, r1, r2⟩, q0, q1, q2⟩, x0, x1, x2⟩ := c; have hse := HSE.out; (first | have k1 := HCV.out v42 wq (hfq 42 rfl) | have k1 := HCQ.out v45 wq (hfq 45 rfl) | skip)); go_simp; (try (rw [dUpon_enter])); (first | ((with_reducible refine (HS1.out _ hwq).mono ?_); rintro e w' ⟨rfl, hx⟩; exact DEnd.con hx) | ((with_reducible refine (HS2.out _ hwq).mono ?_); rintro e w' ⟨rfl, hx⟩; exact DEnd.con hx)))
               simp only [Act.put, List.setIfInBounds_toArray, List.set_cons_succ, List.set_cons_zero])
            | (refine wpD_made (A := fun _ => True) (V := fun v w => BytesR w v B1) 42 ?_ ?_ ?_ ?_ (fun wq hwq hfq => ?_) (fun v42 h42 => ?_)
               focus rfl
               focus rfl
               focus (exact ⟨undef, trivial⟩)
               focus rfl
               focus ((have c := HCE.out wq hwq; obtain ⟨⟨⟨r0, r1, r2⟩, q0, q1, q2⟩, x0, x1, x2⟩ := c; have hse := HSE.out; (first | have k1 := HCV.out v42 wq (hfq 42 rfl) | have k1 := HCQ.out v45 wq (hfq 45 rfl) | skip)); go_simp; (try (rw [dUpon_enter])); (with_reducible refine (HP1.out _ hwq).mono ?_); rintro e w' ⟨v, rfl, hb, hx⟩; exact DEnd.made trivial hb hx)
               clear h42
               simp only [Act.put, List.setIfInBounds_toArray, List.set_cons_succ, List.set_cons_zero])
            | (refine wpD_made (A := fun _ => True) (V := fun v w => BytesR w v B2) 45 ?_ ?_ ?_ ?_ (fun wq hwq hfq => ?_) (fun v45 h45 => ?_)
               focus rfl
               focus rfl
               focus (exact ⟨undef, trivial⟩)
               focus rfl
               focus ((have c := HCE.out wq hwq; obtain ⟨⟨⟨r0, r1, r2⟩, q0, q1, q2⟩, x0, x1, x2⟩ := c; have hse := HSE.out; (first | have k1 := HCV.out v42 wq (hfq 42 rfl) | have k1 := HCQ.out v45 wq (hfq 45 rfl) | skip)); go_simp; (try (rw [dUpon_enter])); (with_reducible refine (HP2.out _ hwq).mono ?_); rintro e w' ⟨v, rfl, hb, hx⟩; exact DEnd.made trivial hb hx)
               clear h45
               simp only [Act.put, List.setIfInBounds_toArray, List.set_cons_succ, List.set_cons_zero])
            | fail)
          refine wpD_nil ?_
          intro w8 hx8 _
          go_wp2_with (fail)
          go_ret
          go_light
          refine ⟨ret_bool ?_, HXA.out.ext (HAB.out.ext hx8)⟩
          simp
        · have hz : ¬ mayR s' n' ys = 0 := hm'
          obtain ⟨z, hzz⟩ : ∃ z, mayR s' n' ys = z := ⟨_, rfl⟩
          rw [hzz] at hz ⊢
          clear hzz hm' HIN' HGB'
          go_wp2_with (fail)
          go_ret
          go_light
          exact ⟨rfl, HXA.out.ext HX5.out⟩
      · obtain ⟨z, hzz⟩ : ∃ z, mayR s n xs = z := ⟨_, rfl⟩
        rw [hzz] at hm ⊢
        clear hzz HGB HIN
        go_wp2_with (fail)
        go_ret
        go_light
        exact ⟨rfl, HXA.out.ext HX4.out⟩
end Go.Proofs.YtlcbllgmnbhphaaDoor
