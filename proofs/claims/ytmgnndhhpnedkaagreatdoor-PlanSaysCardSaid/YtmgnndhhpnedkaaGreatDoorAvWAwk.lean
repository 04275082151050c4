/- Walks of the law's helpers: same, long, awake. -/
import Derived.Test.YtmgnndhhpnedkaaGreatDoorAvWTabB
import Derived.Test.YtmgnndhhpnedkaaGreatDoorAvWVer
import Derived.Test.YtmgnndhhpnedkaaGreatDoorAvDag
namespace Go.Proofs.YtmgnndhhpnedkaaGreatDoor
set_option maxRecDepth 100000
open Go.RowKit Av

def SmRel (w : World) (a b : List Nat) (i : Value) (W : World) : Prop := ∃ k : Nat, k ≤ a.length ∧ i = .int .i64 k ∧ a.take k = b.take k ∧ Ext w W
set_option maxHeartbeats 1600000 in
theorem same_any (v u : Value) (a b : List Nat) (w : World) (hv : NatsR w v a) (hu : NatsR w u b) :
    Calls Tryz.prog 15 #[v, u] w fun e w' => e = .returned (.bool (decide (a = b))) ∧ Ext w w' := by
  obtain ⟨va, vc, rfl, hc1, hm1, ho1⟩ := hv.open
  obtain ⟨ua, uc, rfl, hc2, hm2, ho2⟩ := hu.open
  have HO1 := Lib.hid ho1
  have HO2 := Lib.hid ho2
  unfold maxLen at hm1 hm2
  clear hv hu ho1 ho2 hc1 hc2
  by_cases hl : a.length = b.length
  · have e1 : (a.length : Int) = (b.length : Int) := by omega
    have HL := Lib.hid hl
    clear hl
    go_enter Tryz.func15, Tryz.ntmps15
    go_wp2_with (fail)
    go_loopw [5] (fun i W => SmRel w a b i W) (fun i _ => a.length - (intOf i).toNat)
    case atStart => exact ⟨0, Nat.zero_le _, rfl, rfl, Kp.refl _ _⟩
    case round =>
      obtain ⟨k, hk, rfl, ht, hx⟩ := hrel
      have HX := Lib.hid hx
      have HT := Lib.hid ht
      clear hx ht e1
      have hll := HL.out
      by_cases hlt : k < a.length
      · have hlt2 : k < b.length := by omega
        obtain ⟨b1, o1, rfl, _, c1⟩ := HO1.out (by omega)
        obtain ⟨b2, o2, rfl, _, c2⟩ := HO2.out (by omega)
        have k1 : (k : Int) < a.length := by omega
        have hnx : a[k] = b[k] → a.take (k + 1) = b.take (k + 1) := fun e => by rw [List.take_succ_eq_append_getElem hlt, List.take_succ_eq_append_getElem hlt2, HT.out, e]
        have hno : a[k] ≠ b[k] → decide (a = b) = false := fun e => by
          rw [decide_eq_false_iff_not]
          rintro rfl
          exact e rfl
        have c1k := c1 k hlt
        have c2k := c2 k hlt2
        generalize a[k] = x at c1k hnx hno
        generalize b[k] = y at c2k hnx hno
        have HNX := Lib.hid hnx
        have HNO := Lib.hid hno
        have HC1 := Lib.hid (HX.out.cell c1k (fun f => f))
        have HC2 := Lib.hid (HX.out.cell c2k (fun f => f))
        have P1 : Hid ((0 : Int) ≤ k ∧ (k : Int) < a.length) := ⟨by omega, by omega⟩
        have P2 : Hid ((0 : Int) ≤ k ∧ (k : Int) < b.length) := ⟨by omega, by omega⟩
        clear c1 c2 hll hnx hno c1k c2k
        go_upto_region 6 with (fail)
        refine' wp_region_dag0 ((17, .val _) :: (18, .val _) :: (19, .val _) :: (20, .val _) :: (21, .val _) :: (22, .val _) :: (23, .val _) :: (24, .val _) :: (25, .val _) :: []) (by exact ⟨fun _ _ _ _ _ => trivial, ⟨fun _ _ _ _ _ => trivial, ⟨fun _ _ _ _ _ => trivial, ⟨fun _ _ _ _ _ => trivial, ⟨fun _ _ _ _ _ => trivial, ⟨fun _ _ _ _ _ => trivial, ⟨fun _ _ _ _ _ => trivial, ⟨fun _ _ _ _ _ => trivial, ⟨fun _ _ _ _ _ => trivial, trivial⟩⟩⟩⟩⟩⟩⟩⟩⟩) (by kernel_rfl) (by kernel_rfl) (by kernel_rfl) ?_
        rotate_left 9
        repeat (first
          | (refine wpD_skipv ?_ ?_ ?_
             focus rfl
             focus rfl
             simp only [Act.put, List.setIfInBounds_toArray, List.set_cons_succ, List.set_cons_zero])
          | (refine' wpD_val (c := _) ?_ (fun w => Kp.refl _ w) ?_ (fun wq hwq hfq => ?_) ?_
             rotate_left
             focus rfl
             focus rfl
             focus (have c1 := hwq.cell HC1.out (fun f => f); have c2 := hwq.cell HC2.out (fun f => f); have p1 := P1.out; have p2 := P2.out; go_simp; first | done | rfl)
             simp only [Act.put, List.setIfInBounds_toArray, List.set_cons_succ, List.set_cons_zero])
          | (refine' wpD_con (c := _) ?_ ?_ (fun wq hwq hfq => ?_) ?_
             rotate_left
             focus rfl
             focus rfl
             focus (have c1 := hwq.cell HC1.out (fun f => f); have c2 := hwq.cell HC2.out (fun f => f); have p1 := P1.out; have p2 := P2.out; go_simp; (try (rw [dUpon_enter])); fail)
             simp only [Act.put, List.setIfInBounds_toArray, List.set_cons_succ, List.set_cons_zero])
          | fail)
        refine wpD_nil ?_
        intro w' hx' hend
        clear hend
        have HX' := Lib.hid (HX.out.ext hx')
        clear hx' HC1 HC2
        by_cases hxy : x = y
        · have t1 : ((x : Int) != (y : Int)) = false := by rw [hxy]; simp
          have HT1 := Lib.hid (HNX.out hxy)
          clear hxy HNO HNX
          go_wp2_with (fail)
          go_light
          exact ⟨⟨k + 1, by omega, by go_num, HT1.out, HX'.out⟩, by simp [intOf]; omega⟩
        · have t1 : ((x : Int) != (y : Int)) = true := by simp; omega
          have HT1 := Lib.hid (HNO.out hxy)
          clear hxy HNO HNX
          go_wp2_with (fail)
          go_ret
          exact ⟨ret_bool (by rw [HT1.out]), HX'.out⟩
      · have hab : decide (a = b) = true := by
          rw [decide_eq_true_iff]
          have := HT.out
          rwa [List.take_of_length_le (by omega), List.take_of_length_le (by omega)] at this
        have k1 : ¬ (k : Int) < a.length := by omega
        have HAB := Lib.hid hab
        clear hab hll
        go_wp2_with (fail)
        go_ret
        exact ⟨ret_bool (by rw [HAB.out]), HX.out⟩
  · have HE : Hid (decide (a = b) = false) := by show _ = _; rw [decide_eq_false_iff_not]; intro e; exact hl (by rw [e])
    have e1 : ¬ (a.length : Int) = (b.length : Int) := by omega
    go_enter Tryz.func15, Tryz.ntmps15
    go_wp2_with (fail)
    go_ret
    exact ⟨ret_bool (by rw [HE.out]), Kp.refl _ _⟩
/-- Ops that are not too many nor too long. -/
def ShortO (xs : List OpV) : Prop := xs.length ≤ 20 ∧ ∀ o ∈ xs, o.path.size ≤ 300 ∧ o.data.size ≤ 1100
theorem ShortO.sz {xs : List OpV} (h : ShortO xs) : OpsSz xs := fun o ho => by have := h.2 o ho; unfold maxLen; omega
def LongPost (xs : List OpV) (e : Ending) : Prop := ∃ b, e = .returned (.bool b) ∧ (b = false → ShortO xs)
def LgRel (xs : List OpV) (i : Value) : Prop := ∃ k : Nat, k ≤ xs.length ∧ i = .int .i64 k ∧ ∀ o ∈ xs.take k, o.path.size ≤ 300 ∧ o.data.size ≤ 1100
set_option maxHeartbeats 1600000 in
theorem long_any (v : Value) (xs : List OpV) (w : World) (h : OpsAt w v xs) :
    Calls Tryz.prog 6 #[v] w fun e w' => LongPost xs e ∧ w = w' := by
  obtain ⟨a, c, rfl, hcc, hm, hop⟩ := OpsAt.open h
  have HO := Lib.hid hop
  unfold maxLen at hm
  clear h hop hcc
  by_cases hl : 20 < xs.length
  · have e1 : (20 : Int) < xs.length := by omega
    go_enter Tryz.func6, Tryz.ntmps6
    go_wp2_with (fail)
    go_ret
    exact ⟨⟨true, rfl, fun e => by cases e⟩, rfl⟩
  · have e1 : ¬ (20 : Int) < xs.length := by omega
    go_enter Tryz.func6, Tryz.ntmps6
    go_wp2_with (fail)
    go_loop [3] (fun i => LgRel xs i) (fun i => xs.length - (intOf i).toNat)
    case atStart => exact ⟨0, Nat.zero_le _, rfl, by simp⟩
    case round =>
      obtain ⟨k, hk, rfl, hall⟩ := hrel
      have HA := Lib.hid hall
      clear hall
      by_cases hlt : k < xs.length
      · obtain ⟨b, off, rfl, _, hc⟩ := HO.out (by omega)
        obtain ⟨c0, c1, c2, c3, c4⟩ := hc k hlt
        have k1 : (k : Int) < xs.length := by omega
        have HNX : Hid ((xs[k].path.size ≤ 300 ∧ xs[k].data.size ≤ 1100) → ∀ o ∈ xs.take (k + 1), o.path.size ≤ 300 ∧ o.data.size ≤ 1100) := fun h => take_allP hlt HA.out h
        generalize xs[k] = o at c0 c1 c2 c3 c4 HNX
        clear hc
        by_cases h1 : 300 < o.path.size
        · have h1' : (300 : Int) < o.path.size := by omega
          go_wp2_with (fail)
          go_ret
          exact ⟨⟨true, rfl, fun e => by cases e⟩, rfl⟩
        · have h1' : ¬ (300 : Int) < o.path.size := by omega
          by_cases h2 : 1100 < o.data.size
          · have h2' : (1100 : Int) < o.data.size := by omega
            go_wp2_with (fail)
            go_ret
            exact ⟨⟨true, rfl, fun e => by cases e⟩, rfl⟩
          · have h2' : ¬ (1100 : Int) < o.data.size := by omega
            have HN := Lib.hid (HNX.out ⟨by omega, by omega⟩)
            go_wp2_with (fail)
            go_light
            exact ⟨⟨k + 1, by omega, by go_num, HN.out⟩, by simp [intOf]; omega⟩
      · have k1 : ¬ (k : Int) < xs.length := by omega
        have HS : Hid (ShortO xs) := ⟨by omega, by have := HA.out; rwa [List.take_of_length_le (by omega)] at this⟩
        go_wp2_with (fail)
        go_ret
        exact ⟨⟨false, rfl, fun _ => HS.out⟩, rfl⟩
def awkX : List OpV := [⟨1, ⟨#[47, 97]⟩, ⟨#[]⟩, 0, 0⟩, ⟨1, ⟨#[47, 98]⟩, ⟨#[]⟩, 0, 0⟩]
theorem awk_may : mayR 1 1 awkX = 0 := by decide +kernel
theorem awk_shards : shardsOf (fT 2 (mvTo 2 [0, 1] 2) awkX) 2 2 = [0, 1] := by decide +kernel
theorem awk_places : placesOf (fT 2 (mvTo 2 [0, 1] 2) awkX) 2 2 = [[0], [1]] := by decide +kernel
theorem awk_verdict : verdict [[0], [1]] [⟨0, -1⟩, ⟨4, 0⟩] = (4, 1) := by decide +kernel
set_option maxHeartbeats 3200000 in
theorem awake_any (w : World) (hG : GT w) : Calls Tryz.prog 5 #[] w fun e w' => e = .returned (.bool true) ∧ Ext w w' := by
  have HG := Lib.hid hG
  clear hG
  obtain ⟨w1, hW1⟩ : ∃ w1, w.alloc (.cells #[.int .i64 0, .int .i64 1] inT) = w1 := ⟨_, rfl⟩
  have hx1 : Ext w w1 := by rw [← hW1]; exact (Kp.refl _ _).alloc _
  have hi : IntsR w1 (.slice (some ⟨w.heap.size, 0, none⟩) 2 2) [0, 1] := by
    rw [← hW1]
    exact ⟨Sl.of_block (heap_alloc_new w _) rfl (by decide) (Nat.le_refl _), Shp.some⟩
  have HCT := Lib.hid (table_any 2 _ [0, 1] w1 (by decide) (by decide) (HG.out.ext hx1).gl hi)
  have HX1 := Lib.hid hx1
  clear hx1 hi
  go_enter Tryz.func5, Tryz.ntmps5
  go_wp2_with (fail)
  refine HCT.out.mono ?_
  rintro e w2 ⟨b, m, rb, lv, rfl, ht, hr, hx2, _, _, _, _, _, _⟩
  have HT := Lib.hid ht
  have HX2 := Lib.hid (HX1.out.ext hx2)
  clear ht hr hx2 HCT hW1
  obtain ⟨w3, hW3⟩ : ∃ w3, w2.alloc (.cells #[.int .i64 1, .string ⟨#[47, 97]⟩, .string ⟨#[]⟩, .int .i64 0, .int .i64 0, .int .i64 1, .string ⟨#[47, 98]⟩, .string ⟨#[]⟩, .int .i64 0, .int .i64 0] opT) = w3 := ⟨_, rfl⟩
  have hx3 : Ext w2 w3 := by rw [← hW3]; exact (Kp.refl _ _).alloc _
  have ho3 : OpsAt w3 (.slice (some ⟨w2.heap.size, 0, none⟩) 2 2) awkX := by
    rw [← hW3]
    exact ⟨Sl.of_block (heap_alloc_new w2 _) rfl (by decide) (Nat.le_refl _), Shp.some⟩
  have HCM := Lib.hid (make_any b m 2 (mvTo 2 [0, 1] 2) 1 1 _ awkX w3 (HT.out.ext hx3) (HG.out.ext (HX2.out.ext hx3)) ho3 (by intro o ho; simp only [awkX, List.mem_cons, List.not_mem_nil, or_false] at ho; rcases ho with rfl | rfl <;> decide) awk_may)
  have HX3 := Lib.hid (HX2.out.ext hx3)
  clear hx3 ho3
  go_wp2_with (fail)
  refine HCM.out.mono ?_
  rintro e w4 ⟨⟨ov, sv, plv, rfl, hp⟩, hx4⟩
  have hp : PlanR w4 ov sv plv awkX [0, 1] [[0], [1]] := by rw [← awk_shards, ← awk_places]; exact hp
  obtain ⟨⟨a1, c1, rfl⟩, ⟨a2, c2, rfl⟩, a3, c3, rfl⟩ := hp.open
  have HX4 := Lib.hid (HX3.out.ext hx4)
  obtain ⟨w5, hW5⟩ : ∃ w5, w4.alloc (.cells #[.int .i64 1, .int .i64 1, .slice a1 awkX.length c1, .slice a2 2 c2, .slice a3 2 c3] plT) = w5 := ⟨_, rfl⟩
  have hx5 : Ext w4 w5 := by rw [← hW5]; exact (Kp.refl _ _).alloc _
  have hb5 : Blk w5 w4.heap.size #[.int .i64 1, .int .i64 1, .slice a1 awkX.length c1, .slice a2 2 c2, .slice a3 2 c3] plT := by rw [← hW5]; exact heap_alloc_new w4 _
  have g0 := hb5.cell 0 _ rfl
  have g1 := hb5.cell 1 _ rfl
  have g2 := hb5.cell 2 _ rfl
  have g3 := hb5.cell 3 _ rfl
  have g4 := hb5.cell 4 _ rfl
  obtain ⟨w6, hW6⟩ : ∃ w6, w5.alloc (.cells #[.int .i64 0, .int .i64 (-1), .int .i64 4, .int .i64 0] voT) = w6 := ⟨_, rfl⟩
  have hx6 : Ext w5 w6 := by rw [← hW6]; exact (Kp.refl _ _).alloc _
  have hv6 : VotesAt w6 (.slice (some ⟨w5.heap.size, 0, none⟩) 2 2) [⟨0, -1⟩, ⟨4, 0⟩] := by
    rw [← hW6]
    exact ⟨Sl.of_block (heap_alloc_new w5 _) rfl (by decide) (Nat.le_refl _), Shp.some⟩
  have HCV := Lib.hid (verdict_any 1 1 _ _ _ _ awkX _ _ _ w6 (hp.ext (hx5.ext hx6)) rfl hv6)
  rw [awk_verdict] at HCV
  have HP := Lib.hid hp
  have HX6 := Lib.hid (hx5.ext hx6)
  have HB6 := Lib.hid (hb5.kp hx6 (fun f => f))
  have HW5 := Lib.hid hW5
  clear hp hx4 hx5 hb5 hx6 hv6 hW5 hW3
  go_upto_region 3 with (fail)
  rw [HW5.out]
  go_wp2_with (fail)
  refine HCV.out.mono ?_
  rintro e w7 ⟨rfl, hx7⟩
  have HX7 := Lib.hid (HX6.out.ext hx7)
  have hb7 := HB6.out.kp hx7 (fun f => f)
  have q0 := hb7.cell 0 _ rfl
  have q1 := hb7.cell 1 _ rfl
  have q2 := hb7.cell 2 _ rfl
  have q3 := hb7.cell 3 _ rfl
  have q4 := hb7.cell 4 _ rfl
  have HB7 := Lib.hid hb7
  obtain ⟨w8, hW8⟩ : ∃ w8, w7.alloc (.cells #[.int .i64 0, .int .i64 1] inT) = w8 := ⟨_, rfl⟩
  have hx8 : Ext w7 w8 := by rw [← hW8]; exact (Kp.refl _ _).alloc _
  have hn8 : NatsR w8 (.slice (some ⟨w7.heap.size, 0, none⟩) 2 2) [0, 1] := by
    rw [← hW8]
    exact ⟨Sl.of_block (heap_alloc_new w7 _) rfl (by decide) (Nat.le_refl _), Shp.some⟩
  have HCS := Lib.hid (same_any _ _ [0, 1] [0, 1] w8 ((HP.out.ext HX7.out).shs.ext hx8) hn8)
  have HX8 := Lib.hid hx8
  clear hx7 hb7 g0 g1 g2 g3 g4 hx8 hn8 hW6
  go_wp2_with (fail)
  refine HCS.out.mono ?_
  rintro e w9 ⟨rfl, hx9⟩
  have HX9 := Lib.hid (HX8.out.ext hx9)
  have hb9 := HB7.out.kp HX9.out (fun f => f)
  have q0 := hb9.cell 0 _ rfl
  have q1 := hb9.cell 1 _ rfl
  have q2 := hb9.cell 2 _ rfl
  have q3 := hb9.cell 3 _ rfl
  have q4 := hb9.cell 4 _ rfl
  have HB9 := Lib.hid hb9
  clear hx9 hb9 hW8
  go_wp2_with (fail)
  refine (planLocal_any 1 1 _ _ _ awkX [0, 1] [[0], [1]] w9 (HP.out.ext (HX7.out.ext HX9.out))).mono ?_
  rintro e w10 ⟨rfl, hx10⟩
  have HX10 := Lib.hid (HX9.out.ext hx10)
  have hb10 := HB9.out.kp hx10 (fun f => f)
  have q0 := hb10.cell 0 _ rfl
  have q1 := hb10.cell 1 _ rfl
  have q2 := hb10.cell 2 _ rfl
  have q3 := hb10.cell 3 _ rfl
  have q4 := hb10.cell 4 _ rfl
  clear hx10 hb10
  go_wp2_with (fail)
  refine (planFirst_any 1 1 _ _ _ awkX [0, 1] [[0], [1]] w10 (HP.out.ext (HX7.out.ext HX10.out))).mono ?_
  rintro e w11 ⟨rfl, hx11⟩
  have HX11 := Lib.hid (HX4.out.ext (HX7.out.ext (HX10.out.ext hx11)))
  clear hx11
  go_wp2_with (fail)
  go_ret
  exact ⟨by first | rfl | (go_light; rfl), HX11.out⟩
end Go.Proofs.YtmgnndhhpnedkaaGreatDoor
