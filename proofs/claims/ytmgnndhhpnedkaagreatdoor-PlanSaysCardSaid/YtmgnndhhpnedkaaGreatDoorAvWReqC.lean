/- Walks over requests: the reference's May and Same, great. -/
import Derived.Test.YtmgnndhhpnedkaaGreatDoorAvWReqB
namespace Go.Proofs.YtmgnndhhpnedkaaGreatDoor
set_option maxRecDepth 100000
open Go.RowKit Av

/-- Is a list of ops more than is asked of? -/
def bigO (o : OpV) : Bool := decide (300 < o.path.size) || decide (1100 < o.data.size)
def greatB (xs : List OpV) : Bool := decide (20 < xs.length) || xs.any bigO

theorem great_sz {xs : List OpV} (h : greatB xs = false) : xs.length ≤ 20 ∧ ∀ o ∈ xs, o.path.size ≤ 300 ∧ o.data.size ≤ 1100 := by
  unfold greatB at h
  simp only [Bool.or_eq_false_iff, decide_eq_false_iff_not] at h
  refine ⟨by omega, fun o ho => ?_⟩
  have := List.any_eq_false.1 h.2 o ho
  unfold bigO at this
  simp only [Bool.not_eq_true, Bool.or_eq_false_iff, decide_eq_false_iff_not] at this
  omega
theorem great_ops {xs : List OpV} (h : greatB xs = false) : OpsSz xs := fun o ho => by
  have := (great_sz h).2 o ho
  unfold maxLen
  omega

/-- The second loop of the reference's May: none of the first k reads. -/
theorem readsB_ge {o : OpV} (h : goodO o = 0) : readsB o.kind = decide (5 ≤ o.kind) := by
  have := good_kind h
  unfold readsB
  rw [Bool.eq_iff_iff]
  simp only [Bool.or_eq_true, decide_eq_true_eq]
  omega

set_option maxHeartbeats 3200000 in
theorem refMay_any (s n : Int) (v : Value) (xs : List OpV) (w : World) (h : OpsAt w v xs) (hsz : OpsSz xs) :
    Calls Tryz.prog 32 #[.agg #[.int .i64 s, .int .i64 n, v]] w fun e w' => e = .returned (.int .i64 (mayR s n xs)) ∧ Ext w w' := by
  have HS := Lib.hid hsz
  obtain ⟨a, c, rfl, hcc, hm, hop⟩ := OpsAt.open h
  have HO := Lib.hid hop
  unfold maxLen at hm
  clear h hop hsz
  have hE : Ext w (w.alloc (.cells #[.int .i64 s, .int .i64 n, .slice a xs.length c] 39)) := (Kp.refl _ _).alloc _
  have HE := Lib.hid hE
  clear hE
  by_cases c1 : s < 1
  · go_enter Tryz.func32, Tryz.ntmps32
    go_wp2_with (fail)
    go_ret
    go_light
    exact ⟨ret_val (by rw [mayR_few (.inl c1)]; rfl), HE.out⟩
  · by_cases c2 : n < 1
    · go_enter Tryz.func32, Tryz.ntmps32
      go_wp2_with (fail)
      go_ret
      go_light
      exact ⟨ret_val (by rw [mayR_few (.inr (.inl c2))]; rfl), HE.out⟩
    · by_cases c3 : xs.length = 0
      · have c3' : (xs.length : Int) = 0 := by omega
        have HM := Lib.hid (mayR_few (sess := s) (num := n) (xs := xs) (.inr (.inr c3)))
        have c4 : ((xs.length : Int) == 0) = true := by rw [beq_iff_eq]; exact c3'
        clear c3 c3'
        go_enter Tryz.func32, Tryz.ntmps32
        go_wp2_with (fail)
        go_ret
        go_light
        exact ⟨ret_val (by rw [HM.out]; rfl), HE.out⟩
      · have c3' : ((xs.length : Int) == 0) = false := by rw [beq_eq_false_iff_ne]; omega
        have HF : Hid (¬ (s < 1 ∨ n < 1 ∨ xs.length = 0)) := by
          show ¬ _
          omega
        clear c3
        by_cases c4 : xs.length ≤ 16
        · go_enter Tryz.func32, Tryz.ntmps32
          go_wp2_with (fail)
          go_loopw [3] (MayRel (w.alloc (.cells #[.int .i64 s, .int .i64 n, .slice a xs.length c] 39)) xs) (fun i _ => xs.length - (intOf i).toNat)
          case atStart => exact ⟨0, Nat.zero_le _, rfl, by simp, Kp.refl _ _⟩
          case round =>
            obtain ⟨k, hk, rfl, hgood, hx⟩ := hrel
            have HGD := Lib.hid hgood
            have hxw := HE.out.ext hx
            have HXW := Lib.hid hxw
            obtain ⟨r0, r1, r2⟩ := req_cells hx
            clear hgood hxw
            by_cases hlt : k < xs.length
            · obtain ⟨b, off, rfl, _, hc⟩ := HO.out (by omega)
              obtain ⟨q0, q1, q2, q3, q4⟩ := hc k hlt
              have d0 := HXW.out.cell q0 (fun f => f)
              have d1 := HXW.out.cell q1 (fun f => f)
              have d2 := HXW.out.cell q2 (fun f => f)
              have d3 := HXW.out.cell q3 (fun f => f)
              have d4 := HXW.out.cell q4 (fun f => f)
              have k1 : (k : Int) < xs.length := by omega
              have hsk := HS.out _ (List.getElem_mem hlt)
              have HC := Lib.hid (fun W => refOp_any xs[k] W hsk.1 hsk.2)
              unfold OpV.val at HC
              clear hc q0 q1 q2 q3 q4 hsk
              go_wp2_with (fail)
              refine (HC.out _).mono ?_
              rintro e w1 ⟨rfl, hx1⟩
              by_cases hz : goodO xs[k] = 0
              · have HZ := Lib.hid hz
                rw [hz]
                clear hz
                go_wp2_with (fail)
                go_light
                exact ⟨⟨k + 1, by omega, by go_num, take_allP hlt HGD.out HZ.out, hx.ext hx1⟩, by simp [intOf]; omega⟩
              · have HM := Lib.hid (mayR_bad HF.out (by omega) hlt HGD.out hz)
                obtain ⟨g, hg⟩ : ∃ g, goodO xs[k] = g := ⟨_, rfl⟩
                rw [hg] at hz HM ⊢
                have hz' : (g == 0) = false := by rw [beq_eq_false_iff_ne]; exact hz
                clear hg hz
                go_wp2_with (fail)
                go_ret
                go_light
                exact ⟨ret_val (by rw [HM.out]; rfl), HXW.out.ext hx1⟩
            · have hall : ∀ x ∈ xs, goodO x = 0 := by
                have := HGD.out
                rwa [List.take_of_length_le (by omega)] at this
              have HM := Lib.hid (mayR_all HF.out (by omega) hall)
              have HALL := Lib.hid hall
              clear hall HGD
              go_wp2_with (fail)
              go_loopw [5] (IdxRel wr (fun o => decide (1 < xs.length) && readsB o.kind) xs) (fun i _ => xs.length - (intOf i).toNat)
              case atStart => exact ⟨0, Nat.zero_le _, rfl, by simp, Kp.refl _ _⟩
              case round =>
                clear hk hlt
                obtain ⟨k, hk, rfl, hnone, hx2⟩ := hrel
                have HN := Lib.hid hnone
                have HX2 := Lib.hid (HXW.out.ext hx2)
                have s0 := hx2.cell r0 (fun f => f)
                have s2 := hx2.cell r2 (fun f => f)
                clear hnone
                by_cases hlt : k < xs.length
                · obtain ⟨b, off, rfl, _, hc⟩ := HO.out (by omega)
                  obtain ⟨q0, q1, q2, q3, q4⟩ := hc k hlt
                  have d0 := HX2.out.cell q0 (fun f => f)
                  have k1 : (k : Int) < xs.length := by omega
                  have hgk := HALL.out _ (List.getElem_mem hlt)
                  have hrk := readsB_ge hgk
                  have HMEM := Lib.hid (List.getElem_mem hlt)
                  clear hc q0 q1 q2 q3 q4 hgk
                  by_cases c5 : 1 < xs.length
                  · by_cases h5 : 5 ≤ xs[k].kind
                    · have HM1 : Hid (mayR s n xs = 1) := by
                        show _ = _
                        rw [HM.out, if_pos ⟨c5, List.any_eq_true.2 ⟨_, HMEM.out, by rw [hrk]; simpa using h5⟩⟩]
                      clear hrk
                      go_wp2_with (fail)
                      go_ret
                      go_light
                      exact ⟨ret_val (by rw [HM1.out]; rfl), HX2.out⟩
                    · have HB : Hid ((decide (1 < xs.length) && readsB xs[k].kind) = false) := by
                        show _ = _
                        rw [hrk]; simp [h5]
                      clear hrk
                      go_wp2_with (fail)
                      go_light
                      exact ⟨⟨k + 1, by omega, by go_num, take_allP hlt HN.out HB.out, hx2⟩, by simp [intOf]; omega⟩
                  · have HB : Hid ((decide (1 < xs.length) && readsB xs[k].kind) = false) := by
                      show _ = _
                      simp [c5]
                    clear hrk
                    go_wp2_with (fail)
                    go_light
                    exact ⟨⟨k + 1, by omega, by go_num, take_allP hlt HN.out HB.out, hx2⟩, by simp [intOf]; omega⟩
                · have HM0 : Hid (mayR s n xs = 0) := by
                    show _ = _
                    rw [HM.out]
                    have hno := HN.out
                    rw [List.take_of_length_le (by omega)] at hno
                    rw [if_neg]
                    rintro ⟨h1, h2⟩
                    obtain ⟨o, ho, hr⟩ := List.any_eq_true.1 h2
                    have := hno o ho
                    simp [h1, hr] at this
                  go_wp2_with (fail)
                  go_ret
                  go_light
                  exact ⟨ret_val (by rw [HM0.out]; rfl), HX2.out⟩
        · have HM := Lib.hid (mayR_many HF.out (by omega))
          go_enter Tryz.func32, Tryz.ntmps32
          go_wp2_with (fail)
          go_ret
          go_light
          exact ⟨ret_val (by rw [HM.out]; rfl), HE.out⟩

set_option maxHeartbeats 1600000 in
theorem refSameR_any (s n s' n' : Int) (va vb : Value) (xs ys : List OpV) (w : World) (ha : OpsAt w va xs) (hb : OpsAt w vb ys) :
    Calls Tryz.prog 18 #[.agg #[.int .i64 s, .int .i64 n, va], .agg #[.int .i64 s', .int .i64 n', vb]] w fun e w' => e = .returned (.bool (sameR s n xs s' n' ys)) ∧ Ext w w' := by
  have hgd := op_guard
  have hE : Ext w ((w.alloc (.cells #[.int .i64 s, .int .i64 n, va] 39)).alloc (.cells #[.int .i64 s', .int .i64 n', vb] 39)) := ((Kp.refl _ _).alloc _).alloc _
  have HE := Lib.hid hE
  obtain ⟨aa, ca, rfl, hca, hma, hoa⟩ := OpsAt.open ha
  obtain ⟨ab, cb, rfl, hcb, hmb, hob⟩ := OpsAt.open hb
  unfold maxLen at hma hmb
  have HA := Lib.hid hoa
  have HB := Lib.hid hob
  clear ha hb hE hoa hob
  by_cases h1 : s = s'
  · subst h1
    by_cases h2 : n = n'
    · subst h2
      by_cases h3 : xs.length = ys.length
      · have h3' : ((xs.length : Int) == ys.length) = true := by rw [beq_iff_eq]; omega
        have hl2 : xs.length ≤ ys.length := by omega
        have H3 := Lib.hid h3
        clear h3
        go_enter Tryz.func18, Tryz.ntmps18
        go_wp2_with (fail)
        go_loopw [5] (SameRelO ((w.alloc (.cells #[.int .i64 s, .int .i64 n, .slice aa xs.length ca] 39)).alloc (.cells #[.int .i64 s, .int .i64 n, .slice ab ys.length cb] 39)) xs ys) (fun i _ => xs.length - (intOf i).toNat)
        case atStart => exact ⟨0, Nat.zero_le _, rfl, rfl, Kp.refl _ _⟩
        case round =>
          obtain ⟨k, hk, rfl, ht, hx⟩ := hrel
          have HT := Lib.hid ht
          obtain ⟨⟨r0, r1, r2⟩, ⟨t0, t1, t2⟩⟩ := req_cells2 hx
          have HXW := Lib.hid (HE.out.ext hx)
          clear ht
          by_cases hlt : k < xs.length
          · have hlt2 : k < ys.length := by omega
            obtain ⟨b1, o1, rfl, _, hc1⟩ := HA.out (by omega)
            obtain ⟨b2, o2, rfl, _, hc2⟩ := HB.out (by omega)
            obtain ⟨p0, p1, p2, p3, p4⟩ := hc1 k hlt
            obtain ⟨q0, q1, q2, q3, q4⟩ := hc2 k hlt2
            have a0 := HXW.out.cell p0 (fun f => f)
            have a1 := HXW.out.cell p1 (fun f => f)
            have a2 := HXW.out.cell p2 (fun f => f)
            have a3 := HXW.out.cell p3 (fun f => f)
            have a4 := HXW.out.cell p4 (fun f => f)
            have b0 := HXW.out.cell q0 (fun f => f)
            have b1 := HXW.out.cell q1 (fun f => f)
            have b2 := HXW.out.cell q2 (fun f => f)
            have b3 := HXW.out.cell q3 (fun f => f)
            have b4 := HXW.out.cell q4 (fun f => f)
            have k1 : (k : Int) < xs.length := by omega
            have k2 : (k : Int) < ys.length := by omega
            have hne := op_neq xs[k] ys[k]
            unfold OpV.val at hne
            clear hc1 hc2 p0 p1 p2 p3 p4 q0 q1 q2 q3 q4
            by_cases he : xs[k] = ys[k]
            · rw [decide_eq_true he] at hne
              have HEQ := Lib.hid he
              clear he
              go_wp2_with (fail)
              go_quiet (fail)
              go_wp2_with (fail)
              go_light
              exact ⟨⟨k + 1, by omega, by go_num, take_stepO HT.out hlt hlt2 HEQ.out, hx.drewN _⟩, by simp [intOf]; omega⟩
            · have HR : Hid (sameR s n xs s n ys = false) := by
                show _ = false
                unfold sameR
                rw [decide_eq_false (p := xs = ys) (by rintro rfl; exact he rfl)]; simp
              rw [decide_eq_false he] at hne
              clear he
              go_wp2_with (fail)
              go_quiet (fail)
              go_wp2_with (fail)
              go_ret
              go_light
              exact ⟨ret_bool HR.out.symm, HXW.out.drewN _⟩
          · have HR : Hid (sameR s n xs s n ys = true) := by
              show _ = true
              have h1 := HT.out
              have h2 := H3.out
              rw [List.take_of_length_le (by omega), List.take_of_length_le (by omega)] at h1
              unfold sameR
              rw [decide_eq_true h1]; simp
            go_wp2_with (fail)
            go_ret
            go_light
            exact ⟨ret_bool HR.out.symm, HXW.out⟩
      · have h3' : ((xs.length : Int) == ys.length) = false := by rw [beq_eq_false_iff_ne]; omega
        have h3'' : ¬ (xs.length : Int) = ys.length := by omega
        have HR : Hid (sameR s n xs s n ys = false) := by
          show _ = false
          unfold sameR
          rw [decide_eq_false (p := xs = ys) (by rintro rfl; exact h3 rfl)]; simp
        clear h3
        go_enter Tryz.func18, Tryz.ntmps18
        go_wp2_with (fail)
        go_ret
        go_light
        exact ⟨ret_bool HR.out.symm, HE.out⟩
    · have HR : Hid (sameR s n xs s n' ys = false) := by
        show _ = false
        unfold sameR
        simp [h2]
      go_enter Tryz.func18, Tryz.ntmps18
      go_wp2_with (fail)
      go_ret
      go_light
      exact ⟨ret_bool HR.out.symm, HE.out⟩
  · have HR : Hid (sameR s n xs s' n' ys = false) := by
      show _ = false
      unfold sameR
      simp [h1]
    go_enter Tryz.func18, Tryz.ntmps18
    go_wp2_with (fail)
    go_ret
    go_light
    exact ⟨ret_bool HR.out.symm, HE.out⟩
end Go.Proofs.YtmgnndhhpnedkaaGreatDoor
