/- Walks of package aviarylaw13: WatchOnce. -/
import Derived.Test.YtiplmahjmkmddaaDoorAvLaw13A
import Derived.Test.YtiplmahjmkmddaaDoorAvWatArg
namespace Go.Proofs.YtiplmahjmkmddaaDoor
set_option maxRecDepth 100000
open Go.RowKit Av

abbrev acT : TypeId := 29
def OnceRel (w0 : World) (b : Nat) (xs : List WActV) (s5 s6 s7 : Value) (wr : World) : Prop :=
  ∃ (k told : Nat) (l : List Wt) (ro : Option Nat), k ≤ xs.length ∧ s7 = .int .i64 k ∧ s6 = .int .i64 told ∧ s5 = .int .i64 ((told + l.length : Nat) : Int) ∧ told + l.length ≤ k ∧ WS w0 wr b ro 1000 l
def EvRel (n : Nat) (w3 : World) (s : Value) (wr : World) : Prop := ∃ j : Nat, j ≤ n ∧ s = .int .i64 j ∧ Ext w3 wr
set_option maxHeartbeats 6400000 in
theorem watchOnce_any (v : Value) (xs : List WActV) (w : World) (hG : GL w) (ha : WActs w v xs) : Calls Tryd.prog 3 #[v] w fun e w' => e = .returned (.bool true) ∧ Ext w w' := by
  obtain ⟨ad, c, rfl, hm, hop⟩ := ha.open
  have HOP := Lib.hid hop
  have HSZ := Lib.hid ha.2
  have HG := Lib.hid hG
  unfold maxLen at hm
  clear hG ha hop
  by_cases hbig : 80 < xs.length
  · go_enter Tryd.func3, Tryd.ntmps3
    go_wp2_with (fail)
    refine (awake_any w HG.out).mono ?_
    rintro e w0 ⟨rfl, hx0⟩
    go_wp2_with (fail)
    go_ret
    exact ⟨rfl, hx0⟩
  · have hb80 : ¬ (80 : Int) < (xs.length : Int) := by omega
    have hn80 : xs.length ≤ 80 := by omega
    clear hbig
    go_enter Tryd.func3, Tryd.ntmps3
    go_wp2_with (fail)
    refine (awake_any w HG.out).mono ?_
    rintro e w0 ⟨rfl, hx0⟩
    have HX0 := Lib.hid hx0
    have HG0 := Lib.hid (HG.out.ext hx0)
    clear hx0 HG
    go_wp2_with (fail)
    refine (wsNew 1000 w0 w0 (Kp.refl _ _) (by decide) (by decide)).mono ?_
    rintro e w1 ⟨rfl, h1⟩
    obtain ⟨b, hb⟩ : ∃ b, w0.heap.size = b := ⟨_, rfl⟩
    rw [hb] at h1 ⊢
    have HW := Lib.hid h1
    clear h1
    go_wp2_with (fail)
    go_loopw [5, 6, 7] (fun s5 s6 s7 wr => OnceRel w0 b xs s5 s6 s7 wr) (fun _ _ s7 _ => xs.length - (intOf s7).toNat)
    case atStart => exact ⟨0, 0, [], none, Nat.zero_le _, rfl, rfl, rfl, Nat.le_refl _, HW.out⟩
    case round =>
      clear HW
      obtain ⟨k, told, l, ro, hk, rfl, rfl, rfl, hcnt, hws⟩ := hrel
      have HW := Lib.hid hws
      clear hws
      by_cases hlt : k < xs.length
      · obtain ⟨g, off, rfl, hg, hcl⟩ := HOP.out (by omega)
        have hxr : Ext w wr := HX0.out.trans HW.out.2.2.2
        have HPS := Lib.hid (HSZ.out xs[k] (List.getElem_mem hlt))
        obtain ⟨c0, c1, c2, c3⟩ := hcl k hlt
        have c0 := hxr.cell c0 (fun f => f)
        have c1 := hxr.cell c1 (fun f => f)
        have c2 := hxr.cell c2 (fun f => f)
        have c3 := hxr.cell c3 (fun f => f)
        obtain ⟨⟨aop, ass, ap, ak⟩, hq⟩ : ∃ a, xs[k] = a := ⟨_, rfl⟩
        rw [hq] at c0 c1 c2 c3 HPS
        simp only at c0 c1 c2 c3 HPS
        clear hq hcl
        obtain ⟨W1, hW1⟩ : ∃ W1, wr.alloc (.cells #[.int .i64 aop, .int .i64 ass, .string ap, .int .i64 ak] acT) = W1 := ⟨_, rfl⟩
        have hx1 : Ext wr W1 := by rw [← hW1]; exact (Kp.refl _ _).alloc _
        have hb1 : Blk W1 wr.heap.size #[.int .i64 aop, .int .i64 ass, .string ap, .int .i64 ak] acT := by rw [← hW1]; exact heap_alloc_new wr _
        have HW1 := Lib.hid (HW.out.ext hx1)
        have HB1 := Lib.hid hb1
        have d0 := hb1.cell 0 _ rfl
        have d1 := hb1.cell 1 _ rfl
        have d2 := hb1.cell 2 _ rfl
        have d3 := hb1.cell 3 _ rfl
        have hbn : ¬ (wr.heap.size = b ∨ ro = some wr.heap.size) := by
          have h1 := HW.out.1.lt.1
          have h2 := HW.out.1.lt.2
          rintro (h | h)
          · omega
          · have := h2 _ h; omega
        have HBN := Lib.hid hbn
        clear hx1 hb1 hxr hbn
        by_cases h300 : (300 : Int) < (ap.size : Int)
        · go_wp2_with (fail)
          go_ret
          exact ⟨rfl, HX0.out.trans HW1.out.2.2.2⟩
        · clear HW
          by_cases hop0 : aop = 0
          · have hL := wsLen HW1.out
            have hA := wsArm HW1.out HG0.out ⟨ass, ap, ak⟩ HPS.out (by omega)
            subst hop0
            go_wp2_with (fail)
            refine hL.mono ?_
            rintro e w2 ⟨rfl, rfl⟩
            go_wp2_with (fail)
            refine hA.mono ?_
            rintro e w2 ⟨rfl, ro', h2, _, _⟩
            have hL := wsLen h2
            have hal := armG_len 1000 l ⟨ass, ap, ak⟩
            have HW2 := Lib.hid h2
            obtain ⟨l', hl'⟩ : ∃ l', armG 1000 l ⟨ass, ap, ak⟩ = l' := ⟨_, rfl⟩
            rw [hl'] at HW2 hL hal
            clear h2 hA HW1 hl' d0 d1 d2 d3
            go_wp2_with (fail)
            refine hL.mono ?_
            rintro e w3 ⟨rfl, rfl⟩
            go_wp2_with (fail)
            go_light
            exact ⟨⟨k + 1, told, l', ro', by omega, by go_num, rfl, by go_num, by omega, HW2.out⟩, by simp [intOf]; omega⟩
          · have hop1 : (aop == 0) = false := beq_eq_false_iff_ne.2 hop0
            have hL := wsLen HW1.out
            have hF := wsFire HW1.out HG0.out ap ak HPS.out (by omega)
            have hlen := fire_len ap ak l
            have hmem : ∀ e ∈ fireT ap ak l, (e.kind ≠ 4 → e.path = ap ∧ e.kind = ak) ∧ (e.kind = 4 → e.path.size < ap.size) := fun e he => fire_once he
            obtain ⟨T, hT⟩ : ∃ T, fireT ap ak l = T := ⟨_, rfl⟩
            obtain ⟨G, hGg⟩ : ∃ G, fireG ap ak l = G := ⟨_, rfl⟩
            rw [hT, hGg] at hF hlen
            rw [hT] at hmem
            have HMEM := Lib.hid hmem
            have e2 : (l.length : Int) - (G.length : Int) = (T.length : Int) := by omega
            have e20 : (T.length : Int) ≤ 80 := by omega
            have HLEN := Lib.hid hlen
            clear hT hGg hmem hlen
            go_wp2_with (fail)
            refine hL.mono ?_
            rintro e w2 ⟨rfl, rfl⟩
            go_wp2_with (fail)
            refine hF.mono ?_
            rintro e w3 ⟨v3, rfl, he3, h3, hk3⟩
            have hb3 := HB1.out.kp hk3 HBN.out
            have hL := wsLen h3
            obtain ⟨av, cv, rfl, hop3⟩ := he3.open
            have HB3 := Lib.hid hb3
            have HW3 := Lib.hid h3
            have HOP3 := Lib.hid hop3
            clear hF he3 h3 hk3 hb3 hop3 HW1 HB1 d0 d1 d2 d3 hop0 hop1
            go_wp2_with (fail)
            refine hL.mono ?_
            rintro e w4 ⟨rfl, rfl⟩
            go_wp2_with (fail)
            clear e2
            obtain ⟨wo, rfl⟩ : ∃ wo : World, wo = wr := ⟨_, rfl⟩
            go_loopw [12] (fun i wr => EvRel T.length w3 i wr) (fun i _ => T.length - (intOf i).toNat)
            case atStart => exact ⟨0, Nat.zero_le _, rfl, Kp.refl _ _⟩
            case round =>
              obtain ⟨j, hj, rfl, hxq⟩ := hrel
              have HXQ := Lib.hid hxq
              clear hxq
              by_cases hlj : j < T.length
              · obtain ⟨g3, off3, rfl, _, hc3⟩ := HOP3.out (by omega)
                have hme := HMEM.out T[j] (List.getElem_mem hlj)
                obtain ⟨t0, t1, t2⟩ := hc3 j hlj
                obtain ⟨⟨es, ep, ek⟩, hq⟩ : ∃ e, T[j] = e := ⟨_, rfl⟩
                rw [hq] at t0 t1 t2 hme
                simp only at t0 t1 t2 hme
                have HT0 := Lib.hid (HXQ.out.cell t0 (fun f => f))
                have HT1 := Lib.hid (HXQ.out.cell t1 (fun f => f))
                have HT2 := Lib.hid (HXQ.out.cell t2 (fun f => f))
                have HBQ := Lib.hid (HB3.out.kp HXQ.out (fun f => f))
                clear t0 t1 t2 hq hc3
                by_cases h4 : ek = 4
                · have hsz : ¬ (ap.size : Int) ≤ (ep.size : Int) := by have := hme.2 h4; omega
                  subst h4
                  clear hme
                  go_upto_region 25 with (fail)
                  refine' wp_region_dag0 ((80, .val _) :: (81, .val _) :: (82, .val _) :: (83, .val _) :: (84, .val _) :: (85, .val _) :: (86, .val _) :: (87, .val _) :: (88, .val _) :: (89, .val _) :: (90, .val _) :: (91, .val _) :: (92, .val _) :: (93, .val _) :: (94, .val _) :: (95, .val _) :: (96, .val _) :: (97, .val _) :: (98, .val _) :: (99, .val _) :: (100, .val _) :: (101, .val _) :: (102, .val _) :: (103, .val _) :: (104, .val _) :: (105, .val _) :: (106, .val _) :: (107, .val _) :: (108, .val _) :: (109, .val _) :: (110, .val _) :: (111, .val _) :: (112, .val _) :: (113, .val _) :: (114, .val _) :: (115, .val _) :: (116, .val _) :: (117, .val _) :: (118, .val _) :: (119, .val _) :: (120, .val _) :: (121, .val _) :: (122, .val _) :: (123, .val _) :: (124, .val _) :: (125, .val _) :: []) (by exact ⟨fun _ _ _ _ _ => trivial, ⟨fun _ _ _ _ _ => trivial, ⟨fun _ _ _ _ _ => trivial, ⟨fun _ _ _ _ _ => trivial, ⟨fun _ _ _ _ _ => trivial, ⟨fun _ _ _ _ _ => trivial, ⟨fun _ _ _ _ _ => trivial, ⟨fun _ _ _ _ _ => trivial, ⟨fun _ _ _ _ _ => trivial, ⟨fun _ _ _ _ _ => trivial, ⟨fun _ _ _ _ _ => trivial, ⟨fun _ _ _ _ _ => trivial, ⟨fun _ _ _ _ _ => trivial, ⟨fun _ _ _ _ _ => trivial, ⟨fun _ _ _ _ _ => trivial, ⟨fun _ _ _ _ _ => trivial, ⟨fun _ _ _ _ _ => trivial, ⟨fun _ _ _ _ _ => trivial, ⟨fun _ _ _ _ _ => trivial, ⟨fun _ _ _ _ _ => trivial, ⟨fun _ _ _ _ _ => trivial, ⟨fun _ _ _ _ _ => trivial, ⟨fun _ _ _ _ _ => trivial, ⟨fun _ _ _ _ _ => trivial, ⟨fun _ _ _ _ _ => trivial, ⟨fun _ _ _ _ _ => trivial, ⟨fun _ _ _ _ _ => trivial, ⟨fun _ _ _ _ _ => trivial, ⟨fun _ _ _ _ _ => trivial, ⟨fun _ _ _ _ _ => trivial, ⟨fun _ _ _ _ _ => trivial, ⟨fun _ _ _ _ _ => trivial, ⟨fun _ _ _ _ _ => trivial, ⟨fun _ _ _ _ _ => trivial, ⟨fun _ _ _ _ _ => trivial, ⟨fun _ _ _ _ _ => trivial, ⟨fun _ _ _ _ _ => trivial, ⟨fun _ _ _ _ _ => trivial, ⟨fun _ _ _ _ _ => trivial, ⟨fun _ _ _ _ _ => trivial, ⟨fun _ _ _ _ _ => trivial, ⟨fun _ _ _ _ _ => trivial, ⟨fun _ _ _ _ _ => trivial, ⟨fun _ _ _ _ _ => trivial, ⟨fun _ _ _ _ _ => trivial, ⟨fun _ _ _ _ _ => trivial, trivial⟩⟩⟩⟩⟩⟩⟩⟩⟩⟩⟩⟩⟩⟩⟩⟩⟩⟩⟩⟩⟩⟩⟩⟩⟩⟩⟩⟩⟩⟩⟩⟩⟩⟩⟩⟩⟩⟩⟩⟩⟩⟩⟩⟩⟩⟩) (by kernel_rfl) (by kernel_rfl) (by kernel_rfl) ?_
                  rotate_left 46
                  repeat (first
                    | (refine wpD_skipv ?_ ?_ ?_
                       focus rfl
                       focus rfl
                       simp only [Act.put, List.setIfInBounds_toArray, List.set_cons_succ, List.set_cons_zero])
                    | (refine' wpD_val (c := _) ?_ (fun w => Kp.refl _ w) ?_ (fun wq hwq hfq => ?_) ?_
                       rotate_left
                       focus rfl
                       focus rfl
                       focus (have t0 := hwq.cell HT0.out (fun f => f); have t1 := hwq.cell HT1.out (fun f => f); have t2 := hwq.cell HT2.out (fun f => f); have d2 := (HBQ.out.kp hwq (fun f => f)).cell 2 _ rfl; have d3 := (HBQ.out.kp hwq (fun f => f)).cell 3 _ rfl; go_simp; first | done | rfl)
                       simp only [Act.put, List.setIfInBounds_toArray, List.set_cons_succ, List.set_cons_zero])
                    | (refine' wpD_con (c := _) ?_ ?_ (fun wq hwq hfq => ?_) ?_
                       rotate_left
                       focus rfl
                       focus rfl
                       focus (have t0 := hwq.cell HT0.out (fun f => f); have t1 := hwq.cell HT1.out (fun f => f); have t2 := hwq.cell HT2.out (fun f => f); have d2 := (HBQ.out.kp hwq (fun f => f)).cell 2 _ rfl; have d3 := (HBQ.out.kp hwq (fun f => f)).cell 3 _ rfl; go_simp; (try (rw [dUpon_enter])); fail)
                       simp only [Act.put, List.setIfInBounds_toArray, List.set_cons_succ, List.set_cons_zero])
                    | fail)
                  refine wpD_nil ?_
                  intro wz hz hend
                  clear hend
                  have HZ := Lib.hid (HXQ.out.trans hz)
                  clear hz
                  go_wp2_with (fail)
                  go_light
                  exact ⟨⟨j + 1, by omega, by go_num, HZ.out⟩, by simp [intOf]; omega⟩
                · obtain ⟨rfl, rfl⟩ := hme.1 h4
                  have n4 : (ek == 4) = false := beq_eq_false_iff_ne.2 h4
                  have n5 : (ek != 4) = true := by simp [h4]
                  clear hme
                  go_upto_region 25 with (fail)
                  refine' wp_region_dag0 ((80, .val _) :: (81, .val _) :: (82, .val _) :: (83, .val _) :: (84, .val _) :: (85, .val _) :: (86, .val _) :: (87, .val _) :: (88, .val _) :: (89, .val _) :: (90, .val _) :: (91, .val _) :: (92, .val _) :: (93, .val _) :: (94, .val _) :: (95, .val _) :: (96, .val _) :: (97, .val _) :: (98, .val _) :: (99, .val _) :: (100, .val _) :: (101, .val _) :: (102, .val _) :: (103, .val _) :: (104, .val _) :: (105, .val _) :: (106, .val _) :: (107, .val _) :: (108, .val _) :: (109, .val _) :: (110, .val _) :: (111, .val _) :: (112, .val _) :: (113, .val _) :: (114, .val _) :: (115, .val _) :: (116, .val _) :: (117, .val _) :: (118, .val _) :: (119, .val _) :: (120, .val _) :: (121, .val _) :: (122, .val _) :: (123, .val _) :: (124, .val _) :: (125, .val _) :: []) (by exact ⟨fun _ _ _ _ _ => trivial, ⟨fun _ _ _ _ _ => trivial, ⟨fun _ _ _ _ _ => trivial, ⟨fun _ _ _ _ _ => trivial, ⟨fun _ _ _ _ _ => trivial, ⟨fun _ _ _ _ _ => trivial, ⟨fun _ _ _ _ _ => trivial, ⟨fun _ _ _ _ _ => trivial, ⟨fun _ _ _ _ _ => trivial, ⟨fun _ _ _ _ _ => trivial, ⟨fun _ _ _ _ _ => trivial, ⟨fun _ _ _ _ _ => trivial, ⟨fun _ _ _ _ _ => trivial, ⟨fun _ _ _ _ _ => trivial, ⟨fun _ _ _ _ _ => trivial, ⟨fun _ _ _ _ _ => trivial, ⟨fun _ _ _ _ _ => trivial, ⟨fun _ _ _ _ _ => trivial, ⟨fun _ _ _ _ _ => trivial, ⟨fun _ _ _ _ _ => trivial, ⟨fun _ _ _ _ _ => trivial, ⟨fun _ _ _ _ _ => trivial, ⟨fun _ _ _ _ _ => trivial, ⟨fun _ _ _ _ _ => trivial, ⟨fun _ _ _ _ _ => trivial, ⟨fun _ _ _ _ _ => trivial, ⟨fun _ _ _ _ _ => trivial, ⟨fun _ _ _ _ _ => trivial, ⟨fun _ _ _ _ _ => trivial, ⟨fun _ _ _ _ _ => trivial, ⟨fun _ _ _ _ _ => trivial, ⟨fun _ _ _ _ _ => trivial, ⟨fun _ _ _ _ _ => trivial, ⟨fun _ _ _ _ _ => trivial, ⟨fun _ _ _ _ _ => trivial, ⟨fun _ _ _ _ _ => trivial, ⟨fun _ _ _ _ _ => trivial, ⟨fun _ _ _ _ _ => trivial, ⟨fun _ _ _ _ _ => trivial, ⟨fun _ _ _ _ _ => trivial, ⟨fun _ _ _ _ _ => trivial, ⟨fun _ _ _ _ _ => trivial, ⟨fun _ _ _ _ _ => trivial, ⟨fun _ _ _ _ _ => trivial, ⟨fun _ _ _ _ _ => trivial, ⟨fun _ _ _ _ _ => trivial, trivial⟩⟩⟩⟩⟩⟩⟩⟩⟩⟩⟩⟩⟩⟩⟩⟩⟩⟩⟩⟩⟩⟩⟩⟩⟩⟩⟩⟩⟩⟩⟩⟩⟩⟩⟩⟩⟩⟩⟩⟩⟩⟩⟩⟩⟩⟩) (by kernel_rfl) (by kernel_rfl) (by kernel_rfl) ?_
                  rotate_left 46
                  repeat (first
                    | (refine wpD_skipv ?_ ?_ ?_
                       focus rfl
                       focus rfl
                       simp only [Act.put, List.setIfInBounds_toArray, List.set_cons_succ, List.set_cons_zero])
                    | (refine' wpD_val (c := _) ?_ (fun w => Kp.refl _ w) ?_ (fun wq hwq hfq => ?_) ?_
                       rotate_left
                       focus rfl
                       focus rfl
                       focus (have t0 := hwq.cell HT0.out (fun f => f); have t1 := hwq.cell HT1.out (fun f => f); have t2 := hwq.cell HT2.out (fun f => f); have d2 := (HBQ.out.kp hwq (fun f => f)).cell 2 _ rfl; have d3 := (HBQ.out.kp hwq (fun f => f)).cell 3 _ rfl; go_simp; first | done | rfl)
                       simp only [Act.put, List.setIfInBounds_toArray, List.set_cons_succ, List.set_cons_zero])
                    | (refine' wpD_con (c := _) ?_ ?_ (fun wq hwq hfq => ?_) ?_
                       rotate_left
                       focus rfl
                       focus rfl
                       focus (have t0 := hwq.cell HT0.out (fun f => f); have t1 := hwq.cell HT1.out (fun f => f); have t2 := hwq.cell HT2.out (fun f => f); have d2 := (HBQ.out.kp hwq (fun f => f)).cell 2 _ rfl; have d3 := (HBQ.out.kp hwq (fun f => f)).cell 3 _ rfl; go_simp; (try (rw [dUpon_enter])); fail)
                       simp only [Act.put, List.setIfInBounds_toArray, List.set_cons_succ, List.set_cons_zero])
                    | fail)
                  refine wpD_nil ?_
                  intro wz hz hend
                  clear hend
                  have HZ := Lib.hid (HXQ.out.trans hz)
                  clear hz
                  go_wp2_with (fail)
                  go_light
                  exact ⟨⟨j + 1, by omega, by go_num, HZ.out⟩, by simp [intOf]; omega⟩
              · go_wp2_with (fail)
                go_light
                have hl := HLEN.out
                exact ⟨⟨k + 1, told + T.length, G, ro, by omega, by go_num, by go_num, by go_num, by omega, HW3.out.ext HXQ.out⟩, by simp [intOf]; omega⟩
      · have hL := wsLen HW.out
        go_wp2_with (fail)
        refine hL.mono ?_
        rintro e w2 ⟨rfl, rfl⟩
        go_wp2_with (fail)
        go_ret
        exact ⟨ret_bool (by simp), HX0.out.trans HW.out.2.2.2⟩
end Go.Proofs.YtiplmahjmkmddaaDoor
