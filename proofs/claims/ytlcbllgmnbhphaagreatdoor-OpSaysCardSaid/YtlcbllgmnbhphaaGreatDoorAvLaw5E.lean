/- Walks of package aviarylaw5: OpSays. -/
import Derived.Test.YtlcbllgmnbhphaaGreatDoorAvLaw5D
namespace Go.Proofs.YtlcbllgmnbhphaaGreatDoor
set_option maxRecDepth 100000
open Go.RowKit Av

theorem great_len {xs : List OpV} (h : greatB xs = false) : xs.length ≤ 20 := by
  unfold greatB at h
  simp only [Bool.or_eq_false_iff, decide_eq_false_iff_not] at h
  omega
theorem opsAt_one {W : World} {g : Nat} {o : OpV} (h : Blk W g #[.int .i64 o.kind, .string o.path, .string o.data, .int .i64 o.ver, .int .i64 o.flags] 24) : OpsAt W (.slice (some ⟨g, 0, none⟩) 1 1) [o] :=
  ⟨Sl.of_block (xs := [o].flatMap OpV.cells) h rfl (by decide) (Nat.le_refl _), Shp.some⟩
theorem writesB_range (k : Int) : writesB k = (decide (1 ≤ k) && decide (k ≤ 3)) := by
  unfold writesB
  rw [Bool.eq_iff_iff]
  simp only [Bool.or_eq_true, Bool.and_eq_true, decide_eq_true_eq]
  omega
def WrRel (w : World) (xs : List OpV) (b i : Value) (wr : World) : Prop := ∃ k : Nat, k ≤ xs.length ∧ i = .int .i64 k ∧ b = .bool ((xs.take k).any fun o => writesB o.kind) ∧ w = wr
theorem any_snoc {α : Type} {f : α → Bool} {xs : List α} {k : Nat} (hk : k < xs.length) : (xs.take (k + 1)).any f = ((xs.take k).any f || f xs[k]) := by
  rw [List.take_succ_eq_append_getElem hk, List.any_append]; simp
theorem blk5 {W : World} {g : Nat} {a b c d e : Value} {T : TypeId} (h : Blk W g #[a, b, c, d, e] T) : W.cell? ⟨g, 0, none⟩ = some a ∧ W.cell? ⟨g, 1, none⟩ = some b ∧ W.cell? ⟨g, 2, none⟩ = some c ∧ W.cell? ⟨g, 3, none⟩ = some d ∧ W.cell? ⟨g, 4, none⟩ = some e :=
  ⟨h.cell 0 _ rfl, h.cell 1 _ rfl, h.cell 2 _ rfl, h.cell 3 _ rfl, h.cell 4 _ rfl⟩
theorem blkR {W : World} {g : Nat} {a b c : Value} {T : TypeId} (h : Blk W g #[a, b, c] T) : W.cell? ⟨g, 0, none⟩ = some a ∧ W.cell? ⟨g, 1, none⟩ = some b ∧ W.cell? ⟨g, 2, none⟩ = some c :=
  ⟨h.cell 0 _ rfl, h.cell 1 _ rfl, h.cell 2 _ rfl⟩

set_option maxRecDepth 100000 in
set_option maxHeartbeats 3200000 in
theorem opSays_any (o : OpV) (s n s' n' : Int) (v v' : Value) (xs ys : List OpV) (w : World) (hG : GT w) (hop : o.path.size ≤ maxLen ∧ o.data.size ≤ maxLen) (h : OpsAt w v xs) (hsz : OpsSz xs) (h' : OpsAt w v' ys) (hsz' : OpsSz ys) :
    Calls Tryz.prog 4 #[o.val, .agg #[.int .i64 s, .int .i64 n, v], .agg #[.int .i64 s', .int .i64 n', v']] w (LawOK w) := by
  obtain ⟨a, l, c, rfl⟩ : ∃ a l c, v = .slice a l c := by obtain ⟨a, c, e, _⟩ := OpsAt.open h; exact ⟨_, _, _, e⟩
  obtain ⟨a', l', c', rfl⟩ : ∃ a l c, v' = .slice a l c := by obtain ⟨a, c, e, _⟩ := OpsAt.open h'; exact ⟨_, _, _, e⟩
  unfold OpV.val
  obtain ⟨w1, hw1⟩ : ∃ W, w.alloc (.cells #[.int .i64 o.kind, .string o.path, .string o.data, .int .i64 o.ver, .int .i64 o.flags] 24) = W := ⟨_, rfl⟩
  obtain ⟨w2, hw2⟩ : ∃ W, w1.alloc (.cells #[.int .i64 s, .int .i64 n, .slice a l c] 31) = W := ⟨_, rfl⟩
  obtain ⟨wA, hwA⟩ : ∃ W, w2.alloc (.cells #[.int .i64 s', .int .i64 n', .slice a' l' c'] 31) = W := ⟨_, rfl⟩
  have hs1 : w1.heap.size = w.heap.size + 1 := by rw [← hw1]; simp
  have hs2 : w2.heap.size = w.heap.size + 1 + 1 := by rw [← hw2]; simp [hs1]
  have x1 : Ext w w1 := by rw [← hw1]; exact (Kp.refl _ _).alloc _
  have x2 : Ext w1 w2 := by rw [← hw2]; exact (Kp.refl _ _).alloc _
  have x3 : Ext w2 wA := by rw [← hwA]; exact (Kp.refl _ _).alloc _
  have hxA : Ext w wA := (x1.ext x2).ext x3
  have b0 : Blk wA w.heap.size _ _ := Blk.kp (Blk.kp (show Blk w1 w.heap.size _ _ by rw [← hw1]; exact heap_alloc_new w _) x2 (fun f => f)) x3 (fun f => f)
  have b1 : Blk wA (w.heap.size + 1) _ _ := Blk.kp (show Blk w2 (w.heap.size + 1) _ _ by rw [← hs1, ← hw2]; exact heap_alloc_new w1 _) x3 (fun f => f)
  have b2 : Blk wA (w.heap.size + 1 + 1) _ _ := show Blk wA (w.heap.size + 1 + 1) _ _ by rw [← hs2, ← hwA]; exact heap_alloc_new w2 _
  have HWA : Hid (((w.alloc (.cells #[.int .i64 o.kind, .string o.path, .string o.data, .int .i64 o.ver, .int .i64 o.flags] 24)).alloc (.cells #[.int .i64 s, .int .i64 n, .slice a l c] 31)).alloc (.cells #[.int .i64 s', .int .i64 n', .slice a' l' c'] 31) = wA) := by show _ = _; rw [hw1, hw2, hwA]
  have HCE := Lib.hid (fun W (hx : Ext wA W) => And.intro (blk5 (b0.kp hx (fun f => f))) (And.intro (blkR (b1.kp hx (fun f => f))) (blkR (b2.kp hx (fun f => f)))))
  have HOR := Lib.hid (fun W (hx : Ext wA W) => (h.ext hxA).ext hx)
  have HOQ := Lib.hid (fun W (hx : Ext wA W) => (h'.ext hxA).ext hx)
  have HXA := Lib.hid hxA
  have HS := Lib.hid hsz
  have HS' := Lib.hid hsz'
  have HOP := Lib.hid hop
  have HG := Lib.hid hG
  have HAW := Lib.hid (awake_any wA (hG.ext hxA))
  clear h h' hsz hsz' hG hop hw1 hw2 hwA hs1 hs2 x1 x2 x3 hxA b0 b1 b2
  go_enter Tryz.func4, Tryz.ntmps4
  go_upto_region 1 with (fail)
  rw [HWA.out]
  go_wp2_with (fail)
  refine HAW.out.mono ?_
  rintro e u1 ⟨rfl, hx1⟩
  have HX1 := Lib.hid hx1
  obtain ⟨⟨o0, o1, o2, o3, o4⟩, ⟨r0, r1, r2⟩, q0, q1, q2⟩ := HCE.out u1 hx1
  obtain ⟨u2, hu2⟩ : ∃ W, u1.alloc (.cells #[.int .i64 o.kind, .string o.path, .string o.data, .int .i64 o.ver, .int .i64 o.flags] 24) = W := ⟨_, rfl⟩
  have hx2 : Ext u1 u2 := by rw [← hu2]; exact (Kp.refl _ _).alloc _
  have ho1 : OpsAt u2 (.slice (some ⟨u1.heap.size, 0, none⟩) 1 1) [o] := opsAt_one (by rw [← hu2]; exact heap_alloc_new u1 _)
  have HO1 := Lib.hid ho1
  have HX2 := Lib.hid (hx1.ext hx2)
  have HU2 := Lib.hid hu2
  clear hx1 hx2 ho1 hu2 HAW HWA
  go_wp2_with (fail)
  rw [HU2.out]
  refine (great_any _ [o] u2 HO1.out).mono ?_
  rintro e u3 ⟨rfl, hx3⟩
  have HX3 := Lib.hid (HX2.out.ext hx3)
  clear hx3 HU2 HO1 o0 o1 o2 o3 o4 r0 r1 r2 q0 q1 q2
  cases hgo : greatB [o] with
  | true =>
    clear hgo
    go_wp2_with (fail)
    go_ret
    go_light
    exact ⟨rfl, HXA.out.ext HX3.out⟩
  | false =>
    clear hgo
    obtain ⟨⟨o0, o1, o2, o3, o4⟩, ⟨r0, r1, r2⟩, q0, q1, q2⟩ := HCE.out u3 HX3.out
    go_wp2_with (fail)
    refine (great_any _ xs u3 (HOR.out u3 HX3.out)).mono ?_
    rintro e u4 ⟨rfl, hx4⟩
    have HX4 := Lib.hid (HX3.out.ext hx4)
    clear hx4 o0 o1 o2 o3 o4 r0 r1 r2 q0 q1 q2
    cases hgr : greatB xs with
    | true =>
      clear hgr
      go_wp2_with (fail)
      go_ret
      go_light
      exact ⟨rfl, HXA.out.ext HX4.out⟩
    | false =>
      have hl := great_len hgr
      clear hgr
      obtain ⟨⟨o0, o1, o2, o3, o4⟩, ⟨r0, r1, r2⟩, q0, q1, q2⟩ := HCE.out u4 HX4.out
      go_wp2_with (fail)
      refine (great_any _ ys u4 (HOQ.out u4 HX4.out)).mono ?_
      rintro e u5 ⟨rfl, hx5⟩
      have HX5 := Lib.hid (HX4.out.ext hx5)
      clear hx5 o0 o1 o2 o3 o4 r0 r1 r2 q0 q1 q2
      cases hgq : greatB ys with
      | true =>
        clear hgq
        go_wp2_with (fail)
        go_ret
        go_light
        exact ⟨rfl, HXA.out.ext HX5.out⟩
      | false =>
        clear hgq
        obtain ⟨⟨o0, o1, o2, o3, o4⟩, ⟨r0, r1, r2⟩, q0, q1, q2⟩ := HCE.out u5 HX5.out
        obtain ⟨a2, c2, e2, _, hm2, hop2⟩ := OpsAt.open (HOR.out u5 HX5.out)
        simp only [Value.slice.injEq] at e2
        obtain ⟨rfl, rfl, rfl⟩ := e2
        unfold maxLen at hm2
        have HOP2 := Lib.hid hop2
        clear hop2
        go_wp2_with (fail)
        go_loop [7, 8] (fun b i => WrRel u5 xs b i u5) (fun _ i => xs.length - (intOf i).toNat)
        case atStart => exact ⟨0, Nat.zero_le _, rfl, rfl, rfl⟩
        case round =>
          obtain ⟨k, hk, rfl, rfl, _⟩ := hrel
          by_cases hlt : k < xs.length
          · obtain ⟨g, off, rfl, hg, hcl⟩ := HOP2.out (by omega)
            obtain ⟨c0, _⟩ := hcl k hlt
            have HSN := Lib.hid (any_snoc (f := fun o : OpV => writesB o.kind) hlt)
            have k1 : (k : Int) < xs.length := by omega
            obtain ⟨kd, hkd⟩ : ∃ x, xs[k].kind = x := ⟨_, rfl⟩
            rw [hkd] at c0
            have HWR : Hid (writesB xs[k].kind = (decide (1 ≤ kd) && decide (kd ≤ 3))) := by show _ = _; rw [← hkd]; exact writesB_range _
            obtain ⟨B, hB⟩ : ∃ B, ((xs.take k).any fun o => writesB o.kind) = B := ⟨_, rfl⟩
            rw [hB] at HSN
            rw [hB]
            clear hcl hB hkd
            cases B
            all_goals
              go_wp2_with (fail)
              all_goals
                go_light
                refine ⟨⟨k + 1, by omega, by go_num, ?_, rfl⟩, by simp [intOf]; omega⟩
                rw [HSN.out, HWR.out]
                simp [*]
          · obtain rfl : k = xs.length := by omega
            rw [List.take_length]
            have K1 := Lib.hid (fun W (hx : Ext u5 W) => opGood_any o W (HG.out.ext (HXA.out.ext (HX5.out.ext hx))) HOP.out.1 HOP.out.2)
            have K2 := Lib.hid (fun W (_ : Ext u5 W) => refOp_any o W HOP.out.1 HOP.out.2)
            unfold OpV.val at K1 K2
            have K3 := Lib.hid (fun W (hx : Ext u5 W) => may_any s n _ xs W (HG.out.ext (HXA.out.ext (HX5.out.ext hx))) (HOR.out W (HX5.out.ext hx)) HS.out)
            have K4 := Lib.hid (fun W (hx : Ext u5 W) => refMay_any s n _ xs W (HOR.out W (HX5.out.ext hx)) HS.out)
            have K5 := Lib.hid (fun W (hx : Ext u5 W) => writes_any s n _ xs W (HOR.out W (HX5.out.ext hx)))
            have K6 := Lib.hid (fun W (hx : Ext u5 W) => opSame_any s n s' n' _ _ xs ys W (HOR.out W (HX5.out.ext hx)) (HOQ.out W (HX5.out.ext hx)))
            have K7 := Lib.hid (fun W (hx : Ext u5 W) => refSameR_any s n s' n' _ _ xs ys W (HOR.out W (HX5.out.ext hx)) (HOQ.out W (HX5.out.ext hx)))
            have KA := Lib.hid (fun W (hx : Ext u5 W) => tops_any _ xs W (HG.out.ext (HXA.out.ext (HX5.out.ext hx))) (HOR.out W (HX5.out.ext hx)) HS.out (by omega))
            have KB := Lib.hid (fun W (hx : Ext u5 W) => refTops_any _ xs W (HOR.out W (HX5.out.ext hx)) HS.out (by omega))
            obtain ⟨TT, hTT⟩ : ∃ T, topsOf (xs.map fun o => topL o.path.data.toList) = T := ⟨_, rfl⟩
            rw [hTT] at KA KB
            have K8 : Hid (∀ (W : World) (va vb : Value), NmR W va TT → NmR W vb TT → Calls Tryz.prog 11 #[va, vb] W fun e w' => e = .returned (.bool true) ∧ Ext W w') := by
              show ∀ _, _
              intro W va vb ha hb
              have := refSame_any va vb _ _ W ha.strs hb.strs
              rwa [decide_eq_true (rfl : TT.map mkS = TT.map mkS)] at this
            obtain ⟨G, hGd⟩ : ∃ G, goodO o = G := ⟨_, rfl⟩
            obtain ⟨M, hM⟩ : ∃ G, mayR s n xs = G := ⟨_, rfl⟩
            obtain ⟨WB, hWB⟩ : ∃ G, (xs.any fun o => writesB o.kind) = G := ⟨_, rfl⟩
            obtain ⟨SB, hSB⟩ : ∃ G, sameR s n xs s' n' ys = G := ⟨_, rfl⟩
            rw [hGd] at K1 K2
            rw [hM] at K3 K4
            rw [hWB] at K5
            rw [hWB]
            rw [hSB] at K6 K7
            have F1 : Hid ((G == G) = true) := by show _ = _; simp
            have F2 : Hid ((M == M) = true) := by show _ = _; simp
            have F3 : Hid ((WB == WB) = true) := by show _ = _; simp
            have F4 : Hid ((SB == SB) = true) := by show _ = _; simp
            have HCE5 := Lib.hid (fun W (hx : Ext u5 W) => HCE.out W (HX5.out.ext hx))
            clear hTT hGd hM hWB hSB hk
            go_upto_region 10 with (fail)
            refine' wp_region_dag0 ((50, .val _) :: (51, .val _) :: (52, .val _) :: (53, .val _) :: (54, .val _) :: (55, .val _) :: (56, .val _) :: (57, .val _) :: (58, .val _) :: (59, .val _) :: (60, .val _) :: (61, .val _) :: (62, .val _) :: (63, .val _) :: (64, .val _) :: (65, .val _) :: (66, .val _) :: (67, .val _) :: (68, .val _) :: (69, .val _) :: (70, .val _) :: (71, .val _) :: (72, .val _) :: (73, .val _) :: (74, .val _) :: (75, .val _) :: (76, .val _) :: (77, .val _) :: (78, .val _) :: (79, .val _) :: (80, .val _) :: (81, .val _) :: (82, .val _) :: (83, ⟨fun _ => True, fun v w => NmR w v TT⟩) :: (84, .val _) :: (85, .val _) :: (86, ⟨fun _ => True, fun v w => NmR w v TT⟩) :: (87, .val _) :: (88, .val _) :: (6, .val _) :: []) (by exact ⟨fun _ _ _ _ _ => trivial, ⟨fun _ _ _ _ _ => trivial, ⟨fun _ _ _ _ _ => trivial, ⟨fun _ _ _ _ _ => trivial, ⟨fun _ _ _ _ _ => trivial, ⟨fun _ _ _ _ _ => trivial, ⟨fun _ _ _ _ _ => trivial, ⟨fun _ _ _ _ _ => trivial, ⟨fun _ _ _ _ _ => trivial, ⟨fun _ _ _ _ _ => trivial, ⟨fun _ _ _ _ _ => trivial, ⟨fun _ _ _ _ _ => trivial, ⟨fun _ _ _ _ _ => trivial, ⟨fun _ _ _ _ _ => trivial, ⟨fun _ _ _ _ _ => trivial, ⟨fun _ _ _ _ _ => trivial, ⟨fun _ _ _ _ _ => trivial, ⟨fun _ _ _ _ _ => trivial, ⟨fun _ _ _ _ _ => trivial, ⟨fun _ _ _ _ _ => trivial, ⟨fun _ _ _ _ _ => trivial, ⟨fun _ _ _ _ _ => trivial, ⟨fun _ _ _ _ _ => trivial, ⟨fun _ _ _ _ _ => trivial, ⟨fun _ _ _ _ _ => trivial, ⟨fun _ _ _ _ _ => trivial, ⟨fun _ _ _ _ _ => trivial, ⟨fun _ _ _ _ _ => trivial, ⟨fun _ _ _ _ _ => trivial, ⟨fun _ _ _ _ _ => trivial, ⟨fun _ _ _ _ _ => trivial, ⟨fun _ _ _ _ _ => trivial, ⟨fun _ _ _ _ _ => trivial, ⟨fun _ _ _ hr hv => hv.ext hr, ⟨fun _ _ _ _ _ => trivial, ⟨fun _ _ _ _ _ => trivial, ⟨fun _ _ _ hr hv => hv.ext hr, ⟨fun _ _ _ _ _ => trivial, ⟨fun _ _ _ _ _ => trivial, ⟨fun _ _ _ _ _ => trivial, trivial⟩⟩⟩⟩⟩⟩⟩⟩⟩⟩⟩⟩⟩⟩⟩⟩⟩⟩⟩⟩⟩⟩⟩⟩⟩⟩⟩⟩⟩⟩⟩⟩⟩⟩⟩⟩⟩⟩⟩⟩) (by kernel_rfl) (by kernel_rfl) (by kernel_rfl) ?_
            rotate_left 38
            repeat (first
              | (refine wpD_skipv ?_ ?_ ?_
                 focus rfl
                 focus rfl
                 simp only [Act.put, List.setIfInBounds_toArray, List.set_cons_succ, List.set_cons_zero])
              | (refine' wpD_val (c := _) ?_ (fun w => Kp.refl _ w) ?_ (fun wq hwq hfq => ?_) ?_
                 rotate_left
                 focus rfl
                 focus rfl
                 focus ((have cs := HCE5.out wq hwq; obtain ⟨⟨o0, o1, o2, o3, o4⟩, ⟨r0, r1, r2⟩, q0, q1, q2⟩ := cs; have f1 := F1.out; have f2 := F2.out; have f3 := F3.out; have f4 := F4.out); go_simp; first | done | rfl)
                 simp only [Act.put, List.setIfInBounds_toArray, List.set_cons_succ, List.set_cons_zero])
              | (refine' wpD_con (c := _) ?_ ?_ (fun wq hwq hfq => ?_) ?_
                 rotate_left
                 focus rfl
                 focus rfl
                 focus ((have cs := HCE5.out wq hwq; obtain ⟨⟨o0, o1, o2, o3, o4⟩, ⟨r0, r1, r2⟩, q0, q1, q2⟩ := cs; have f1 := F1.out; have f2 := F2.out; have f3 := F3.out; have f4 := F4.out); go_simp; (try (rw [dUpon_enter])); (first | ((with_reducible refine (K1.out _ hwq).mono ?_); rintro e w' ⟨rfl, hx⟩; exact DEnd.con hx) | ((with_reducible refine (K2.out _ hwq).mono ?_); rintro e w' ⟨rfl, hx⟩; exact DEnd.con hx) | ((with_reducible refine (K3.out _ hwq).mono ?_); rintro e w' ⟨rfl, hx⟩; exact DEnd.con hx) | ((with_reducible refine (K4.out _ hwq).mono ?_); rintro e w' ⟨rfl, hx⟩; exact DEnd.con hx) | ((with_reducible refine (K5.out _ hwq).mono ?_); rintro e w' ⟨rfl, hx⟩; exact DEnd.con hx) | ((with_reducible refine (K6.out _ hwq).mono ?_); rintro e w' ⟨rfl, hx⟩; exact DEnd.con hx) | ((with_reducible refine (K7.out _ hwq).mono ?_); rintro e w' ⟨rfl, hx⟩; exact DEnd.con hx) | ((with_reducible refine (rq_any _ _ _ _ _ _).mono ?_); rintro e w' ⟨rfl, hx⟩; exact DEnd.con hx) | (have a83 : NmR wq v83 TT := hfq 83 rfl; have a86 : NmR wq v86 TT := hfq 86 rfl; (with_reducible refine (K8.out wq v83 v86 a83 a86).mono ?_); rintro e w' ⟨rfl, hx⟩; exact DEnd.con hx)))
                 simp only [Act.put, List.setIfInBounds_toArray, List.set_cons_succ, List.set_cons_zero])
              | (refine wpD_made (A := fun _ => True) (V := fun v w => NmR w v TT) 83 ?_ ?_ ?_ ?_ (fun wq hwq hfq => ?_) (fun v83 h83 => ?_)
                 focus rfl
                 focus rfl
                 focus (exact ⟨undef, trivial⟩)
                 focus rfl
                 focus ((have cs := HCE5.out wq hwq; obtain ⟨⟨o0, o1, o2, o3, o4⟩, ⟨r0, r1, r2⟩, q0, q1, q2⟩ := cs; have f1 := F1.out; have f2 := F2.out; have f3 := F3.out; have f4 := F4.out); go_simp; (try (rw [dUpon_enter])); (with_reducible refine (KA.out _ hwq).mono ?_); rintro e w' ⟨v, rfl, hb, hx⟩; exact DEnd.made trivial hb hx)
                 clear h83
                 simp only [Act.put, List.setIfInBounds_toArray, List.set_cons_succ, List.set_cons_zero])
              | (refine wpD_made (A := fun _ => True) (V := fun v w => NmR w v TT) 86 ?_ ?_ ?_ ?_ (fun wq hwq hfq => ?_) (fun v86 h86 => ?_)
                 focus rfl
                 focus rfl
                 focus (exact ⟨undef, trivial⟩)
                 focus rfl
                 focus ((have cs := HCE5.out wq hwq; obtain ⟨⟨o0, o1, o2, o3, o4⟩, ⟨r0, r1, r2⟩, q0, q1, q2⟩ := cs; have f1 := F1.out; have f2 := F2.out; have f3 := F3.out; have f4 := F4.out); go_simp; (try (rw [dUpon_enter])); (with_reducible refine (KB.out _ hwq).mono ?_); rintro e w' ⟨v, rfl, hb, hx⟩; exact DEnd.made trivial hb hx)
                 clear h86
                 simp only [Act.put, List.setIfInBounds_toArray, List.set_cons_succ, List.set_cons_zero])
              | fail)
            refine wpD_nil ?_
            intro u6 hx6 _
            go_wp2_with (fail)
            go_ret
            go_light
            exact ⟨rfl, HXA.out.ext (HX5.out.ext hx6)⟩
end Go.Proofs.YtlcbllgmnbhphaaGreatDoor
