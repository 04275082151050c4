/- Walks of package aviarylaw5: OpTops. -/
import Derived.Test.YtlcbllgmnbhphaaGreatDoorAvLaw5A
import Derived.Test.YtlcbllgmnbhphaaGreatDoorAvWTopsR
namespace Go.Proofs.YtlcbllgmnbhphaaGreatDoor
set_option maxRecDepth 100000
open Go.RowKit Av

abbrev nmL (xs : List OpV) : List Bs := xs.map fun o => topL o.path.data.toList
def CntRel (n : Nat) (i : Value) (w wr : World) : Prop := ∃ k : Nat, k ≤ n ∧ i = .int .i64 k ∧ Ext w wr
def CntRel1 (n : Nat) (i : Value) (w wr : World) : Prop := ∃ k : Nat, k ≤ n ∧ i = .int .i64 ((k : Int) + 1) ∧ Ext w wr
set_option maxRecDepth 100000 in
set_option maxHeartbeats 3200000 in
theorem opTops_any (v v' : Value) (xs ys : List OpV) (w : World) (hG : GT w) (h : OpsAt w v xs) (hsz : OpsSz xs) (h' : OpsAt w v' ys) (hsz' : OpsSz ys) :
    Calls Tryz.prog 5 #[v, v'] w (LawOK w) := by
  obtain ⟨a, c, rfl, _⟩ := OpsAt.open h
  obtain ⟨a', c', rfl, _⟩ := OpsAt.open h'
  have HO := Lib.hid h
  have HO' := Lib.hid h'
  have HS := Lib.hid hsz
  have HS' := Lib.hid hsz'
  have HG := Lib.hid hG
  have HAW := Lib.hid (awake_any w hG)
  clear h h' hsz hsz' hG
  go_enter Tryz.func5, Tryz.ntmps5
  go_wp2_with (fail)
  refine HAW.out.mono ?_
  rintro e w1 ⟨rfl, hx1⟩
  have HX1 := Lib.hid hx1
  clear hx1 HAW
  go_wp2_with (fail)
  refine (great_any _ xs w1 (HO.out.ext HX1.out)).mono ?_
  rintro e w2 ⟨rfl, hx2⟩
  have HX2 := Lib.hid (HX1.out.ext hx2)
  clear hx2 HX1
  cases hgr : greatB xs with
  | true =>
    clear hgr
    go_wp2_with (fail)
    go_ret
    go_light
    exact ⟨rfl, HX2.out⟩
  | false =>
    have hl : xs.length ≤ 20 := by
      unfold greatB at hgr
      simp only [Bool.or_eq_false_iff, decide_eq_false_iff_not] at hgr
      omega
    clear hgr
    go_wp2_with (fail)
    refine (great_any _ ys w2 (HO'.out.ext HX2.out)).mono ?_
    rintro e w3 ⟨rfl, hx3⟩
    have HX3 := Lib.hid (HX2.out.ext hx3)
    clear hx3 HX2
    cases hgr : greatB ys with
    | true =>
      clear hgr
      go_wp2_with (fail)
      go_ret
      go_light
      exact ⟨rfl, HX3.out⟩
    | false =>
      have hl' : ys.length ≤ 20 := by
        unfold greatB at hgr
        simp only [Bool.or_eq_false_iff, decide_eq_false_iff_not] at hgr
        omega
      clear hgr
      go_wp2_with (fail)
      refine (tops_any _ xs w3 (HG.out.ext HX3.out) (HO.out.ext HX3.out) HS.out (by omega)).mono ?_
      rintro e w4 ⟨vt, rfl, hn4, hx4⟩
      have HX4 := Lib.hid (HX3.out.ext hx4)
      have HN4 := Lib.hid hn4
      have HT : Hid (Rising (topsOf (nmL xs))) := topsOf_rising _
      have HM1 := Lib.hid (topsOf_more (nmL xs) (nmL ys))
      have HCM := Lib.hid (topsOf_comm (nmL ys) (nmL xs))
      obtain ⟨t, ht⟩ : ∃ t, topsOf (nmL xs) = t := ⟨_, rfl⟩
      rw [show topsOf (xs.map fun o => topL o.path.data.toList) = t from ht] at HN4
      rw [ht] at HT HM1
      clear hn4 hx4 HX3 ht
      obtain ⟨at_, ct, rfl, hct, hmt, hopt⟩ := NmR.open HN4.out
      unfold maxLen at hmt
      have HOT := Lib.hid hopt
      clear hopt
      go_wp2_with (fail)
      go_loopw [6] (fun i wr => CntRel1 (t.length - 1) i w4 wr) (fun i _ => t.length - (intOf i).toNat)
      case atStart => exact ⟨0, Nat.zero_le _, rfl, Kp.refl _ _⟩
      case round =>
        obtain ⟨k, hk, rfl, hxr⟩ := hrel
        have HXR := Lib.hid hxr
        clear hxr
        by_cases hlt : k + 1 < t.length
        · obtain ⟨g, o, rfl, hg, hcl⟩ := HOT.out (by omega)
          have HC0 := Lib.hid (hcl k (by omega))
          have HC1 := Lib.hid (hcl (k + 1) hlt)
          have hlt1 : (k : Int) + 1 < t.length := by omega
          have hkl : k < t.length := by omega
          have hr := rising_at HT.out hlt
          have b1 : Op.bytesLess t[k + 1] t[k] = false := by
            rw [less_topsOf]
            simpa using (fun h => List.lt_irrefl _ (List.lt_trans hr h) : ¬ t[k + 1] < t[k])
          have b2 : (t[k + 1] == t[k]) = false := by
            simpa using (fun e => List.lt_irrefl _ (by rw [e] at hr; exact hr) : ¬ t[k + 1] = t[k])
          have B1 := Lib.hid b1
          have B2 := Lib.hid b2
          clear hcl hr b1 b2
          have e1 : IntKind.i64.wrap (k : Int) = (k : Int) := IntWalk.i64_in _ (by omega)
          have e2 : ((k : Int) + 1).toNat = k + 1 := by omega
          have e3 : (0 : Int) ≤ (k : Int) + 1 := by omega
          have e4 : (0 : Int) ≤ (k : Int) := by omega
          have e5 : (k : Int) < t.length := by omega
          have E1 := Lib.hid e1
          have E2 := Lib.hid e2
          clear e1 e2
          go_wp2_with (fail)
          refine' wp_region_dag0 ((26, .val _) :: (27, .val _) :: (28, .val _) :: (29, .val _) :: (30, .val _) :: (31, .val _) :: (32, .val _) :: (33, .val _) :: (34, .val _) :: (35, .val _) :: []) (by exact ⟨fun _ _ _ _ _ => trivial, ⟨fun _ _ _ _ _ => trivial, ⟨fun _ _ _ _ _ => trivial, ⟨fun _ _ _ _ _ => trivial, ⟨fun _ _ _ _ _ => trivial, ⟨fun _ _ _ _ _ => trivial, ⟨fun _ _ _ _ _ => trivial, ⟨fun _ _ _ _ _ => trivial, ⟨fun _ _ _ _ _ => trivial, ⟨fun _ _ _ _ _ => trivial, trivial⟩⟩⟩⟩⟩⟩⟩⟩⟩⟩) (by kernel_rfl) (by kernel_rfl) (by kernel_rfl) ?_
          rotate_left 10
          repeat (first
            | (refine wpD_skipv ?_ ?_ ?_
               focus rfl
               focus rfl
               simp only [Act.put, List.setIfInBounds_toArray, List.set_cons_succ, List.set_cons_zero])
            | (refine' wpD_val (c := _) ?_ (fun w => Kp.refl _ w) ?_ (fun wq hwq hfq => ?_) ?_
               rotate_left
               focus rfl
               focus rfl
               focus (have f0 := (HXR.out.trans hwq).cell HC0.out (fun f => f); have f1 := (HXR.out.trans hwq).cell HC1.out (fun f => f); have e1 := E1.out; have e2 := E2.out; have b1 := B1.out; have b2 := B2.out; go_simp; first | done | rfl)
               simp only [Act.put, List.setIfInBounds_toArray, List.set_cons_succ, List.set_cons_zero])
            | (refine' wpD_con (c := _) ?_ ?_ (fun wq hwq hfq => ?_) ?_
               rotate_left
               focus rfl
               focus rfl
               focus (have f0 := (HXR.out.trans hwq).cell HC0.out (fun f => f); have f1 := (HXR.out.trans hwq).cell HC1.out (fun f => f); have e1 := E1.out; have e2 := E2.out; have b1 := B1.out; have b2 := B2.out; go_simp; (try (rw [dUpon_enter])); fail)
               simp only [Act.put, List.setIfInBounds_toArray, List.set_cons_succ, List.set_cons_zero])
            | fail)
          refine wpD_nil ?_
          intro w5 hx5 _
          have HX5 := Lib.hid (HXR.out.trans hx5)
          clear hx5
          go_wp2_with (fail)
          go_light
          exact ⟨⟨k + 1, by omega, by go_num, HX5.out⟩, by simp [intOf]; omega⟩
        · have hge : ¬ (k : Int) + 1 < t.length := by omega
          have HX5 := Lib.hid (HX4.out.ext HXR.out)
          have HOP1 := Lib.hid (op_one xs)
          have HOP2 := Lib.hid (op_one ys)
          clear HN4 HX4 HXR HOT hlt
          go_upto_region 11 with (fail)
          clear hge hk
          have hb5 : (Fresh0 wr.heap.size 24 5 (.slice (some ⟨wr.heap.size, 0, none⟩) 0 0) (wr.alloc (.cells #[] 24))) := Fresh0.new (Nat.le_refl _)
          have hE5 : Ext wr (wr.alloc (.cells #[] 24)) := (Kp.refl _ _).alloc _
          have HOA := Lib.hid (HO.out.ext (HX5.out.ext hE5))
          have HB5 := Lib.hid hb5.1
          have HE5 := Lib.hid hE5
          clear hb5 hE5
          go_wp2_with (at_builtin; refine wpList_appK 29 24 5 (by decide) ops_facts rfl _ _ rfl wr.heap.size _ 0 [] rfl HB5.out _ xs.length (xs.flatMap OpV.cells) rfl HOA.out.1 HOA.out.2 HOP1.out ?c1 ?c2 ?_)
          case c1 => omega
          case c2 => simp
          intro v1 w5 h1 k1
          have hx5 : Ext wr w5 := HE5.out.next k1 (fun i hi e => by simp [Value.ownBlock] at e; omega)
          have HX6 := Lib.hid hx5
          have hs5 := hx5.size
          have HR1 : Hid (w5.ownsRow wr.heap.size 24 5 v1 xs.length (xs.flatMap OpV.cells)) := by show World.ownsRow _ _ _ _ _ _ _; simpa using h1
          have HOB := Lib.hid (HO'.out.ext (HX5.out.ext hx5))
          clear h1 k1 HB5 HE5 HOA hx5
          go_wp2_with (at_builtin; refine wpList_appK 29 24 5 (by decide) ops_facts rfl _ _ rfl wr.heap.size _ xs.length (xs.flatMap OpV.cells) rfl HR1.out _ ys.length (ys.flatMap OpV.cells) rfl HOB.out.1 HOB.out.2 HOP2.out ?c3 ?c4 ?_)
          case c3 => omega
          case c4 => exact hs5
          intro v2 w6 h2 k2
          have hx6 : Ext wr w6 := HX6.out.next k2 (fun i hi e => by have := owns_base HR1.out i e; omega)
          have HOC : Hid (OpsAt w6 v2 (xs ++ ys)) := by
            show OpsAt _ _ _
            refine ⟨?_, shp_owns h2⟩
            have := Sl.of_owns h2
            rw [List.length_append, List.flatMap_append]
            exact this
          have HX7 := Lib.hid hx6
          clear h2 k2 hx6 HR1 HOB HX6 hs5
          have hsz12 : OpsSz (xs ++ ys) := fun o ho => by
            rcases List.mem_append.1 ho with h | h
            · exact HS.out o h
            · exact HS'.out o h
          have hsz21 : OpsSz (ys ++ xs) := fun o ho => by
            rcases List.mem_append.1 ho with h | h
            · exact HS'.out o h
            · exact HS.out o h
          have HS12 := Lib.hid hsz12
          have HS21 := Lib.hid hsz21
          clear hsz12 hsz21
          go_wp2_with (fail)
          refine (tops_any _ (xs ++ ys) w6 (HG.out.ext (HX5.out.ext HX7.out)) HOC.out HS12.out (by rw [List.length_append]; omega)).mono ?_
          rintro e w7 ⟨vu, rfl, hn7, hx7⟩
          have hnm : (xs ++ ys).map (fun o => topL o.path.data.toList) = nmL xs ++ nmL ys := List.map_append ..
          have hnm2 : (ys ++ xs).map (fun o => topL o.path.data.toList) = nmL ys ++ nmL xs := List.map_append ..
          rw [hnm] at hn7
          have HNM2 := Lib.hid hnm2
          obtain ⟨U, hU⟩ : ∃ U, topsOf (nmL xs ++ nmL ys) = U := ⟨_, rfl⟩
          rw [hU] at hn7 HM1 HCM
          have HN7 := Lib.hid hn7
          have HX8 := Lib.hid (HX7.out.ext hx7)
          obtain ⟨au, cu, rfl, hcu, hmu, hou⟩ := NmR.open hn7
          unfold maxLen at hmu
          clear hn7 hx7 hU hnm hnm2 HOC HX7 hou
          have HX9 := Lib.hid (HX5.out.ext HX8.out)
          clear HX8 HX5
          go_upto_region 12 with (fail)
          have hb5 : (Fresh0 w7.heap.size 24 5 (.slice (some ⟨w7.heap.size, 0, none⟩) 0 0) (w7.alloc (.cells #[] 24))) := Fresh0.new (Nat.le_refl _)
          have hE5 : Ext w7 (w7.alloc (.cells #[] 24)) := (Kp.refl _ _).alloc _
          have HOA := Lib.hid (HO'.out.ext (HX9.out.ext hE5))
          have HB5 := Lib.hid hb5.1
          have HE5 := Lib.hid hE5
          clear hb5 hE5
          go_wp2_with (at_builtin; refine wpList_appK 29 24 5 (by decide) ops_facts rfl _ _ rfl w7.heap.size _ 0 [] rfl HB5.out _ ys.length (ys.flatMap OpV.cells) rfl HOA.out.1 HOA.out.2 HOP2.out ?d1 ?d2 ?_)
          case d1 => omega
          case d2 => simp
          intro v3 w8 h1 k1
          have hx8 : Ext w7 w8 := HE5.out.next k1 (fun i hi e => by simp [Value.ownBlock] at e; omega)
          have HX6 := Lib.hid hx8
          have hs8 := hx8.size
          have HR1 : Hid (w8.ownsRow w7.heap.size 24 5 v3 ys.length (ys.flatMap OpV.cells)) := by show World.ownsRow _ _ _ _ _ _ _; simpa using h1
          have HOB := Lib.hid (HO.out.ext (HX9.out.ext hx8))
          clear h1 k1 HB5 HE5 HOA hx8
          go_wp2_with (at_builtin; refine wpList_appK 29 24 5 (by decide) ops_facts rfl _ _ rfl w7.heap.size _ ys.length (ys.flatMap OpV.cells) rfl HR1.out _ xs.length (xs.flatMap OpV.cells) rfl HOB.out.1 HOB.out.2 HOP1.out ?d3 ?d4 ?_)
          case d3 => omega
          case d4 => exact hs8
          intro v4 w9 h2 k2
          have hx9 : Ext w7 w9 := HX6.out.next k2 (fun i hi e => by have := owns_base HR1.out i e; omega)
          have HOC : Hid (OpsAt w9 v4 (ys ++ xs)) := by
            show OpsAt _ _ _
            refine ⟨?_, shp_owns h2⟩
            have := Sl.of_owns h2
            rw [List.length_append, List.flatMap_append]
            exact this
          have HX7 := Lib.hid (HX9.out.ext hx9)
          have HX79 := Lib.hid hx9
          clear h2 k2 hx9 HR1 HOB HX6 hs8
          go_wp2_with (fail)
          refine (tops_any _ (ys ++ xs) w9 (HG.out.ext HX7.out) HOC.out HS21.out (by rw [List.length_append]; omega)).mono ?_
          rintro e wa ⟨vv, rfl, hna, hxa⟩
          rw [HNM2.out, HCM.out] at hna
          have HXA := Lib.hid (HX7.out.ext hxa)
          have HUA := Lib.hid (HN7.out.ext (HX79.out.ext hxa))
          have HVA := Lib.hid hna
          obtain ⟨av, cv, rfl, hcv, hmv, hov⟩ := NmR.open hna
          have HOV := Lib.hid hov
          have HOU : Hid (0 < U.length → ∃ b off, au = some ⟨b, off, none⟩ ∧ b < wa.heap.size ∧ ∀ i (hi : i < U.length), wa.cell? ⟨b, off + i, none⟩ = some (.string ⟨U[i].toArray⟩)) := by
            obtain ⟨a', c', e, _, _, h3⟩ := NmR.open HUA.out
            simp only [Value.slice.injEq, true_and] at e
            obtain ⟨rfl, rfl⟩ := e
            exact h3
          have hm1 : t.length ≤ U.length := HM1.out
          have hm2 : ¬ (U.length : Int) < t.length := by omega
          have hee : ((U.length : Int) != (U.length : Int)) = false := by simp
          clear hna hxa hov HX7 HX79 HOC HN7 HNM2 HCM HX9
          go_wp2_with (fail)
          go_loopw [9] (fun i wr => CntRel U.length i wa wr) (fun i _ => U.length - (intOf i).toNat)
          case atStart => exact ⟨0, Nat.zero_le _, rfl, Kp.refl _ _⟩
          case round =>
            obtain ⟨k, hk, rfl, hxr⟩ := hrel
            have HXR := Lib.hid hxr
            clear hxr
            by_cases hlt : k < U.length
            · obtain ⟨g, o, rfl, hg, hcl⟩ := HOU.out (by omega)
              obtain ⟨g', o', rfl, hg', hcl'⟩ := HOV.out (by omega)
              have HC0 := Lib.hid (hcl k hlt)
              have HC1 := Lib.hid (hcl' k hlt)
              have B1 : Hid ((U[k] == U[k]) = true) := by show _ = _; simp
              have B2 : Hid ((U[k] != U[k]) = false) := by show _ = _; simp
              have hlt1 : (k : Int) < U.length := by omega
              clear hcl hcl'
              go_wp2_with (fail)
              refine' wp_region_dag0 ((66, .val _) :: (67, .val _) :: (68, .val _) :: (69, .val _) :: (70, .val _) :: (71, .val _) :: (72, .val _) :: (73, .val _) :: (74, .val _) :: []) (by exact ⟨fun _ _ _ _ _ => trivial, ⟨fun _ _ _ _ _ => trivial, ⟨fun _ _ _ _ _ => trivial, ⟨fun _ _ _ _ _ => trivial, ⟨fun _ _ _ _ _ => trivial, ⟨fun _ _ _ _ _ => trivial, ⟨fun _ _ _ _ _ => trivial, ⟨fun _ _ _ _ _ => trivial, ⟨fun _ _ _ _ _ => trivial, trivial⟩⟩⟩⟩⟩⟩⟩⟩⟩) (by kernel_rfl) (by kernel_rfl) (by kernel_rfl) ?_
              rotate_left 9
              repeat (first
                | (refine wpD_skipv ?_ ?_ ?_
                   focus rfl
                   focus rfl
                   simp only [Act.put, List.setIfInBounds_toArray, List.set_cons_succ, List.set_cons_zero])
                | (refine' wpD_val (c := _) ?_ (fun w => Kp.refl _ w) ?_ (fun wq hwq hfq => ?_) ?_
                   rotate_left
                   focus rfl
                   focus rfl
                   focus (have f0 := (HXR.out.trans hwq).cell HC0.out (fun f => f); have f1 := (HXR.out.trans hwq).cell HC1.out (fun f => f); have b1 := B1.out; have b2 := B2.out; go_simp; first | done | rfl)
                   simp only [Act.put, List.setIfInBounds_toArray, List.set_cons_succ, List.set_cons_zero])
                | (refine' wpD_con (c := _) ?_ ?_ (fun wq hwq hfq => ?_) ?_
                   rotate_left
                   focus rfl
                   focus rfl
                   focus (have f0 := (HXR.out.trans hwq).cell HC0.out (fun f => f); have f1 := (HXR.out.trans hwq).cell HC1.out (fun f => f); have b1 := B1.out; have b2 := B2.out; go_simp; (try (rw [dUpon_enter])); fail)
                   simp only [Act.put, List.setIfInBounds_toArray, List.set_cons_succ, List.set_cons_zero])
                | fail)
              refine wpD_nil ?_
              intro wb hxb _
              have HXB := Lib.hid (HXR.out.trans hxb)
              clear hxb
              go_wp2_with (fail)
              go_light
              exact ⟨⟨k + 1, by omega, by go_num, HXB.out⟩, by simp [intOf]; omega⟩
            · clear hk
              go_wp2_with (fail)
              go_ret
              go_light
              exact ⟨rfl, HXA.out.ext HXR.out⟩
end Go.Proofs.YtlcbllgmnbhphaaGreatDoor
