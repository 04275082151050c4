/- Walks over the reference's nodes: Add, Remove, Write. -/
import Derived.Test.YtdagikbdpeblhaaGreatDoorAvG22
import Derived.Test.YtdagikbdpeblhaaGreatDoorAvG23
import Derived.Test.YtdagikbdpeblhaaGreatDoorAvHDagX
namespace Go.Proofs.YtdagikbdpeblhaaGreatDoor
set_option maxRecDepth 100000
open Go.RowKit Av

theorem str_factsR : ElemOk Tryz.prog 36 strT 1 := ⟨by kernel_rfl, by kernel_rfl⟩

/-- The names of a node of the reference's. -/
def NmO (w : World) (nv : Value) (l : List Bs) : Prop := w.ownsRow 0 strT 1 nv l.length (l.map encStr)
theorem cut_head {w : World} {a : Option Addr} {c k : Nat} {l : List Bs} (h : NmS w (.slice a l.length c) l) (hk : k ≤ l.length) : NmS w (.slice a k c) (l.take k) := by
  have h1 := h.1.cut 0 k 0 (by omega) (Nat.zero_le _) hk
  have h2 := Shp.cut (m := 0) h.2 (Nat.zero_le k) hk
  have e : cutAd a c 0 0 = a := by
    unfold cutAd
    split
    · rfl
    · cases a with
      | none => rfl
      | some ad => simp [Addr.add]
  rw [e] at h1 h2
  simp only [Nat.sub_zero, List.drop_zero, Nat.mul_one, ← List.map_take] at h1 h2
  exact ⟨by rw [List.length_take, Nat.min_eq_left hk]; exact h1, h2⟩
theorem cut_tail {w : World} {a : Option Addr} {c k : Nat} {l : List Bs} (h : NmS w (.slice a l.length c) l) (hk : k ≤ l.length) : NmS w (.slice (cutAd a c k k) (l.length - k) (c - k)) (l.drop k) := by
  have h1 := h.1.cut k l.length k (by omega) hk (Nat.le_refl _)
  have h2 := Shp.cut (m := k) h.2 hk (Nat.le_refl _)
  rw [Nat.mul_one, ← List.map_drop, List.take_of_length_le (by simp)] at h1
  exact ⟨by rw [List.length_drop]; exact h1, h2⟩
def NdPost (w : World) (m : NodeV) (e : Ending) (w' : World) : Prop := ∃ nv' u, e = .returned (.tuple #[.agg (ndA m nv'), u]) ∧ NmO w' nv' m.names ∧ Ext w w'
set_option maxHeartbeats 6400000 in
theorem add10_any (n : NodeV) (nv : Value) (x : Bs) (w : World) (hn : NmO w nv n.names) (hl : n.names.length ≤ 100000) (h0 : -9223372036854775808 ≤ n.kids) (h1 : -9223372036854775808 ≤ n.next) :
    Calls Tryz.prog 101 #[.agg (ndA n nv), .string ⟨x.toArray⟩] w fun e w' => NdPost w (ndAdd n x) e w' := by
  have H01 := Lib.hid (And.intro h0 h1)
  clear h0 h1
  obtain ⟨a, c, rfl⟩ := owns_slice hn
  have hns : NmS w (.slice a n.names.length c) n.names := names_own hn
  obtain ⟨_, _, hsl, hcc, hm, _, _⟩ := Sl.open hns.1
  simp only [Value.slice.injEq, true_and] at hsl
  obtain ⟨rfl, rfl⟩ := hsl
  obtain ⟨wA, hWA⟩ : ∃ wA, (w.alloc (.cells #[.int .i64 n.made, .int .i64 n.chg, .int .i64 n.ver, .int .i64 n.kids, .int .i64 n.own, .int .i64 n.len, .int .i64 n.cnt, .string n.data, .int .i64 n.next, .slice a n.names.length c] rnT)).alloc (.cells ndZA rnT) = wA := ⟨_, rfl⟩
  have hxA : Ext w wA := by rw [← hWA]; exact ((Kp.refl _ _).alloc _).alloc _
  have hA : Blk wA w.heap.size #[.int .i64 n.made, .int .i64 n.chg, .int .i64 n.ver, .int .i64 n.kids, .int .i64 n.own, .int .i64 n.len, .int .i64 n.cnt, .string n.data, .int .i64 n.next, .slice a n.names.length c] rnT := by
    rw [← hWA]
    exact Blk.kp (heap_alloc_new w _) ((Kp.refl (fun _ => False) _).alloc _) (fun f => f)
  have hB : Blk wA (w.heap.size + 1) ndZA rnT := by
    rw [← hWA]
    have := heap_alloc_new (w.alloc (.cells #[.int .i64 n.made, .int .i64 n.chg, .int .i64 n.ver, .int .i64 n.kids, .int .i64 n.own, .int .i64 n.len, .int .i64 n.cnt, .string n.data, .int .i64 n.next, .slice a n.names.length c] rnT)) (.cells ndZA rnT)
    rw [World.size_alloc] at this
    exact this
  have HPL := Lib.hid (place10_any (.slice a n.names.length c) n.names x wA ⟨Sl.ext hns.1 hxA, hns.2⟩ (by omega))
  have HX := Lib.hid hxA
  have HNO := Lib.hid (ownsRow.ext hn hxA)
  have HWA := Lib.hid hWA
  have HA := Lib.hid hA
  have HB := Lib.hid hB
  unfold ndZA at HWA hB
  have h0 := hA.cell 0 _ rfl
  have h1 := hA.cell 1 _ rfl
  have h2 := hA.cell 2 _ rfl
  have h3 := hA.cell 3 _ rfl
  have h4 := hA.cell 4 _ rfl
  have h5 := hA.cell 5 _ rfl
  have h6 := hA.cell 6 _ rfl
  have h7 := hA.cell 7 _ rfl
  have h8 := hA.cell 8 _ rfl
  have h9 := hA.cell 9 _ rfl
  clear hWA hxA hn hns
  by_cases hin : n.names[lessN x n.names]? = some x
  · have HE : Hid (ndAdd n x = n) := if_pos hin
    rw [decide_eq_true hin] at HPL
    clear hin
    generalize ndAdd n x = R at HE ⊢
    unfold ndA
    go_enter Tryz.func101, Tryz.ntmps101
    go_upto_region 1 with (fail)
    rw [HWA.out]
    clear hA hB
    go_wp2_with (fail)
    refine HPL.out.mono ?_
    rintro e w1 ⟨rfl, hx1⟩
    have ha1 := HA.out.kp hx1 (fun f => f)
    have hb1 := HB.out.kp hx1 (fun f => f)
    unfold ndZA at hb1
    clear h0 h1 h2 h3 h4 h5 h6 h7 h8 h9
    have d0 := ha1.cell 0 _ rfl
    have d1 := ha1.cell 1 _ rfl
    have d2 := ha1.cell 2 _ rfl
    have d3 := ha1.cell 3 _ rfl
    have d4 := ha1.cell 4 _ rfl
    have d5 := ha1.cell 5 _ rfl
    have d6 := ha1.cell 6 _ rfl
    have d7 := ha1.cell 7 _ rfl
    have d8 := ha1.cell 8 _ rfl
    have d9 := ha1.cell 9 _ rfl
    have g0 := hb1.cell 0 _ rfl
    have g1 := hb1.cell 1 _ rfl
    have g2 := hb1.cell 2 _ rfl
    have g3 := hb1.cell 3 _ rfl
    have g4 := hb1.cell 4 _ rfl
    have g5 := hb1.cell 5 _ rfl
    have g6 := hb1.cell 6 _ rfl
    have g7 := hb1.cell 7 _ rfl
    have g8 := hb1.cell 8 _ rfl
    have g9 := hb1.cell 9 _ rfl
    have fg0 := hb1.free 0
    have fg1 := hb1.free 1
    have fg2 := hb1.free 2
    have fg3 := hb1.free 3
    have fg4 := hb1.free 4
    have fg5 := hb1.free 5
    have fg6 := hb1.free 6
    have fg7 := hb1.free 7
    have fg8 := hb1.free 8
    have fg9 := hb1.free 9
    have HX1 := Lib.hid hx1
    clear ha1 hb1 hx1 HPL
    go_wp2_with (fail)
    go_light
    refine bodyPost_ret (v := .tuple #[.agg (ndA n (.slice a n.names.length c)), .bool false]) (by simp [results, Tryz.results101, go_sem, ndA, g0, g1, g2, g3, g4, g5, g6, g7, g8, g9]) rfl ?_
    have k10 := kp_set10 w1 (w.heap.size + 1) (.int .i64 n.made) (.int .i64 n.chg) (.int .i64 n.ver) (.int .i64 n.kids) (.int .i64 n.own) (.int .i64 n.len) (.int .i64 n.cnt) (.string n.data) (.int .i64 n.next) (.slice a n.names.length c)
    rw [HE.out]
    refine ⟨_, _, rfl, ownsRow.kp (ownsRow.ext HNO.out HX1.out) k10 (fun i hi e => ?_), (HX.out.trans HX1.out).next k10 (fun i hi e => by omega)⟩
    obtain ⟨cur, f, hc⟩ := own_type (ownsRow.ext HNO.out HX1.out) hi
    have e2 : i = w.heap.size + 1 := e
    subst e2
    have hb2 : w1.heap[w.heap.size + 1]? = some (.cells ndZA rnT (0, 0)) := HB.out.kp HX1.out (fun f => f)
    rw [hb2] at hc
    simp only [Option.some.injEq, Obj.cells.injEq] at hc
    exact absurd hc.2.1 (by decide)
  · have hle := lessN_le x n.names
    have HE : Hid (ndAdd n x = { n with names := insN n.names (lessN x n.names) x, cnt := (n.names.length + 1 : Nat), kids := moreI n.kids, next := moreI n.next }) := if_neg hin
    rw [decide_eq_false hin] at HPL
    generalize lessN x n.names = k at HE HPL hle
    have HLEN : Hid ((n.names.take k).length + 1 + (n.names.drop k).length = n.names.length + 1) := by show _ = _; simp only [List.length_take, List.length_drop]; omega
    have HLN : Hid ((n.names.take k).length ≤ 1000000 ∧ (n.names.drop k).length ≤ 1000000) := by show _ ∧ _; simp only [List.length_take, List.length_drop]; omega
    have HINS : Hid ((insN n.names k x).map encStr = ((n.names.take k).map encStr ++ [encStr x]) ++ (n.names.drop k).map encStr) := by show _ = _; unfold insN; simp
    have HIL : Hid ((insN n.names k x).length = n.names.length + 1) := insN_len x hle
    have HONE := Lib.hid (enc_one [x])
    have HP1 : Hid ((0 : Int) ≤ k ∧ (k : Int) ≤ c) := ⟨by omega, by omega⟩
    have HP2 : Hid ((0 : Int) ≤ (n.names.length : Int) ∧ (n.names.length : Int) ≤ c) := ⟨by omega, by omega⟩
    have HP3 : Hid (k ≤ n.names.length) := hle
    have HM := Lib.hid (fun v (h : -9223372036854775808 ≤ v) W => more10_any v W h)
    generalize ndAdd n x = R at HE ⊢
    unfold ndA
    clear hin
    go_enter Tryz.func101, Tryz.ntmps101
    go_upto_region 1 with (fail)
    rw [HWA.out]
    clear hA hB
    go_wp2_with (fail)
    refine HPL.out.mono ?_
    rintro e w1 ⟨rfl, hx1⟩
    have HA1 := Lib.hid (HA.out.kp hx1 (fun f => f))
    have HB1 := Lib.hid (HB.out.kp hx1 (fun f => f))
    have HX1 := Lib.hid (HX.out.trans hx1)
    have HT1 := Lib.hid (cut_head (names_own (ownsRow.ext HNO.out hx1)) hle)
    have HT3 := Lib.hid (cut_tail (names_own (ownsRow.ext HNO.out hx1)) hle)
    clear hx1 HPL h0 h1 h2 h3 h4 h5 h6 h7 h8 h9
    have HL1 : Hid (w.heap.size < w1.heap.size) := HA1.out.lt
    have HL2 : Hid (w.heap.size + 1 < w1.heap.size) := HB1.out.lt
    have hb0 := HA1.out.cell 9 _ rfl
    go_upto_region 4 with (fail)
    clear hb0
    refine' wp_region_dagK 14 [(22, [17], [25]), (25, [22, 24], [17, 30]), (30, [25], [22, 24])] ((17, ⟨fun _ => True, fun v w => Fresh0 w1.heap.size strT 1 v w⟩) :: (18, .val _) :: (19, .val _) :: (20, .val _) :: (21, .val _) :: (22, ⟨fun _ => True, fun v w => w.ownsRow w1.heap.size strT 1 v (n.names.take k).length ((n.names.take k).map encStr)⟩) :: (23, .val _) :: (24, ⟨fun _ => True, fun v w => BoxL w1.heap.size strT 1 [encStr x] v w⟩) :: (25, ⟨fun _ => True, fun v w => w.ownsRow w1.heap.size strT 1 v ((n.names.take k).length + 1) ((n.names.take k).map encStr ++ [encStr x])⟩) :: (26, .val _) :: (27, .val _) :: (28, .val _) :: (29, .val _) :: (30, ⟨fun v => ∃ a c, v = .slice a (n.names.length + 1) c, fun v w => w.ownsRow w1.heap.size strT 1 v (n.names.length + 1) ((insN n.names k x).map encStr)⟩) :: []) (by exact ⟨fun _ _ _ hr hv => hv.ext hr, ⟨fun _ _ _ _ _ => trivial, ⟨fun _ _ _ _ _ => trivial, ⟨fun _ _ _ _ _ => trivial, ⟨fun _ _ _ _ _ => trivial, ⟨fun _ _ _ hr hv => ownsRow.ext hv hr, ⟨fun _ _ _ _ _ => trivial, ⟨fun _ _ _ hr hv => hv.ext hr, ⟨fun _ _ _ hr hv => ownsRow.ext hv hr, ⟨fun _ _ _ _ _ => trivial, ⟨fun _ _ _ _ _ => trivial, ⟨fun _ _ _ _ _ => trivial, ⟨fun _ _ _ _ _ => trivial, ⟨fun _ _ _ hr hv => ownsRow.ext hv hr, trivial⟩⟩⟩⟩⟩⟩⟩⟩⟩⟩⟩⟩⟩⟩) (by kernel_rfl) (by kernel_rfl) (by kernel_rfl) ?_
    rotate_left 9
    simp only [List.take_succ_cons, List.take_zero]
    repeat (first
      | (refine wpD_skipv ?_ ?_ ?_
         focus rfl
         focus rfl
         simp only [Act.put, List.setIfInBounds_toArray, List.set_cons_succ, List.set_cons_zero])
      | (refine' wpD_val (c := _) ?_ (fun w => Kp.refl _ w) ?_ (fun wq hwq hfq => ?_) ?_
         rotate_left
         focus rfl
         focus rfl
         focus ((have p1 := HP1.out; have p2 := HP2.out; have p3 := HP3.out; have c9 := (HA1.out.kp hwq (Nat.not_le.2 HL1.out)).cell 9 _ rfl); go_simp; first | done | rfl)
         simp only [Act.put, List.setIfInBounds_toArray, List.set_cons_succ, List.set_cons_zero])
      | (refine' wpD_con (c := _) ?_ ?_ (fun wq hwq hfq => ?_) ?_
         rotate_left
         focus rfl
         focus rfl
         focus ((have p1 := HP1.out; have p2 := HP2.out; have p3 := HP3.out; have c9 := (HA1.out.kp hwq (Nat.not_le.2 HL1.out)).cell 9 _ rfl); go_simp; (try (rw [dUpon_enter])); fail)
         simp only [Act.put, List.setIfInBounds_toArray, List.set_cons_succ, List.set_cons_zero])
      | (refine wpD_made (A := fun _ => True) (V := fun v w => Fresh0 w1.heap.size strT 1 v w) 17 ?_ ?_ ?_ ?_ (fun wq hwq hfq => ?_) (fun v17 h17 => ?_)
         focus rfl
         focus rfl
         focus (exact ⟨undef, trivial⟩)
         focus rfl
         focus ((have p1 := HP1.out; have p2 := HP2.out; have p3 := HP3.out; have c9 := (HA1.out.kp hwq (Nat.not_le.2 HL1.out)).cell 9 _ rfl); go_simp; (try (rw [dUpon_enter])); rw [dUpon_value]; exact mPost trivial (Fresh0.new hwq.size) ((Kp.refl _ _).alloc _))
         clear h17
         simp only [Act.put, List.setIfInBounds_toArray, List.set_cons_succ, List.set_cons_zero])
      | (refine wpD_used (A := fun _ => True) (V := fun v w => w.ownsRow w1.heap.size strT 1 v (n.names.take k).length ((n.names.take k).map encStr)) 22 ?_ ?_ ?_ ?_ (fun wq hwq hfq => ?_) (fun v22 h22 => ?_)
         focus rfl
         focus rfl
         focus (exact ⟨undef, trivial⟩)
         focus rfl
         focus ((have p1 := HP1.out; have p2 := HP2.out; have p3 := HP3.out; have c9 := (HA1.out.kp hwq (Nat.not_le.2 HL1.out)).cell 9 _ rfl); refine dUpon_app (d := 22) rfl (by kernel_rfl) 36 strT 1 (by decide) str_factsR rfl _ _ rfl w1.heap.size v17 0 [] rfl (hfq 17 rfl).1 _ (n.names.take k).length ((n.names.take k).map encStr) rfl (by rw [List.length_take, Nat.min_eq_left HP3.out]; exact Sl.kp (by have h := HT1.out.1; rw [List.length_take, Nat.min_eq_left HP3.out] at h; exact h) hwq (fun i _ hi hge => absurd hi (Nat.not_lt.2 hge))) HT1.out.2 (enc_one _) (by have := HLN.out; omega) hwq.size (fun v' w' h1 h2 => ⟨trivial, by simpa using h1, h2.over (owns_base (hfq 17 rfl).1), ?_⟩); repeat (first | exact PresL.nil | (with_reducible refine PresL.val ?_) | (refine PresL.out rfl ?_) | (refine PresL.keep (fun u hu => BoxL.kp0 hu (by simp) (hfq 17 rfl) h2) ?_) | (refine PresL.keep (fun u hu => owns_kp0 hu (by omega) (by decide) (hfq 17 rfl) h2) ?_)))
         clear h22
         simp only [Act.put, List.setIfInBounds_toArray, List.set_cons_succ, List.set_cons_zero])
      | (refine wpD_made (A := fun _ => True) (V := fun v w => BoxL w1.heap.size strT 1 [encStr x] v w) 24 ?_ ?_ ?_ ?_ (fun wq hwq hfq => ?_) (fun v24 h24 => ?_)
         focus rfl
         focus rfl
         focus (exact ⟨undef, trivial⟩)
         focus rfl
         focus ((have p1 := HP1.out; have p2 := HP2.out; have p3 := HP3.out; have c9 := (HA1.out.kp hwq (Nat.not_le.2 HL1.out)).cell 9 _ rfl); go_simp; (try (rw [dUpon_enter])); rw [dUpon_value]; exact mPost trivial (BoxL.new hwq.size) ((Kp.refl _ _).alloc _))
         clear h24
         simp only [Act.put, List.setIfInBounds_toArray, List.set_cons_succ, List.set_cons_zero])
      | (refine wpD_used (A := fun _ => True) (V := fun v w => w.ownsRow w1.heap.size strT 1 v ((n.names.take k).length + 1) ((n.names.take k).map encStr ++ [encStr x])) 25 ?_ ?_ ?_ ?_ (fun wq hwq hfq => ?_) (fun v25 h25 => ?_)
         focus rfl
         focus rfl
         focus (exact ⟨undef, trivial⟩)
         focus rfl
         focus ((have p1 := HP1.out; have p2 := HP2.out; have p3 := HP3.out; have c9 := (HA1.out.kp hwq (Nat.not_le.2 HL1.out)).cell 9 _ rfl); refine dUpon_app (d := 25) rfl (by kernel_rfl) 36 strT 1 (by decide) str_factsR rfl _ _ rfl w1.heap.size v22 _ _ rfl (hfq 22 rfl) v24 1 [encStr x] rfl (BoxL.sl (k := 1) (hfq 24 rfl) rfl (by decide)).1 (BoxL.sl (k := 1) (hfq 24 rfl) rfl (by decide)).2 HONE.out (by have := HLN.out; omega) hwq.size (fun v' w' h1 h2 => ⟨trivial, h1, h2.over (owns_base (hfq 22 rfl)), ?_⟩); repeat (first | exact PresL.nil | (with_reducible refine PresL.val ?_) | (refine PresL.out rfl ?_) | (refine PresL.keep (fun u hu => hu) ?_)))
         clear h25
         simp only [Act.put, List.setIfInBounds_toArray, List.set_cons_succ, List.set_cons_zero])
      | (refine wpD_used (A := fun v => ∃ a c, v = .slice a (n.names.length + 1) c) (V := fun v w => w.ownsRow w1.heap.size strT 1 v (n.names.length + 1) ((insN n.names k x).map encStr)) 30 ?_ ?_ ?_ ?_ (fun wq hwq hfq => ?_) (fun v30 h30 => ?_)
         focus rfl
         focus rfl
         focus (exact ⟨.slice none (n.names.length + 1) 0, _, _, rfl⟩)
         focus rfl
         focus ((have p1 := HP1.out; have p2 := HP2.out; have p3 := HP3.out; have c9 := (HA1.out.kp hwq (Nat.not_le.2 HL1.out)).cell 9 _ rfl); refine dUpon_app (d := 30) rfl (by kernel_rfl) 36 strT 1 (by decide) str_factsR rfl _ _ rfl w1.heap.size v25 _ _ rfl (hfq 25 rfl) _ (n.names.drop k).length ((n.names.drop k).map encStr) rfl (Sl.kp HT3.out.1 hwq (fun i _ hi hge => absurd hi (Nat.not_lt.2 hge))) HT3.out.2 (enc_one _) (by have := HLN.out; omega) hwq.size (fun v' w' h1 h2 => ⟨by have h := h1; rw [HLEN.out] at h; exact owns_slice h, by have h := h1; rw [HLEN.out] at h; rw [HINS.out]; exact h, h2.over (owns_base (hfq 25 rfl)), ?_⟩); repeat (first | exact PresL.nil | (with_reducible refine PresL.val ?_) | (refine PresL.out rfl ?_) | (refine PresL.keep (fun u hu => Fresh0.keep hu (hfq 25 rfl) (by omega) (by decide) h2) ?_)))
         obtain ⟨a30, c30, rfl⟩ := h30
         simp only [Act.put, List.setIfInBounds_toArray, List.set_cons_succ, List.set_cons_zero])
      | fail)
    refine wpD_nil ?_
    intro w2 hx2 hend
    have ho : w2.ownsRow w1.heap.size strT 1 (.slice a30 (n.names.length + 1) c30) (n.names.length + 1) ((insN n.names k x).map encStr) := hend 30 (by kernel_rfl)
    clear hend
    simp only [cut_fold]
    have hx2' : Ext w1 w2 := hx2.mono (fun i hi hge => by omega)
    have hA2 := HA1.out.kp hx2' (fun f => f)
    have hB2 := HB1.out.kp hx2' (fun f => f)
    obtain ⟨W4, hW4⟩ : ∃ W4, (((w2.setCell ⟨w.heap.size, 9, none⟩ (.slice a30 (n.names.length + 1) c30)).setCell ⟨w.heap.size, 3, none⟩ (.int .i64 (moreI n.kids))).setCell ⟨w.heap.size, 6, none⟩ (.int .i64 ((n.names.length + 1 : Nat) : Int))).setCell ⟨w.heap.size, 8, none⟩ (.int .i64 (moreI n.next)) = W4 := ⟨_, rfl⟩
    have k4 : Kp (fun i => i = w.heap.size) w2 W4 := by
      rw [← hW4]
      exact ((((Kp.refl (fun i => i = w.heap.size) w2).set1 _ 9 _ rfl).set1 _ 3 _ rfl).set1 _ 6 _ rfl).set1 _ 8 _ rfl
    have hA4 : Blk W4 w.heap.size #[.int .i64 n.made, .int .i64 n.chg, .int .i64 n.ver, .int .i64 (moreI n.kids), .int .i64 n.own, .int .i64 n.len, .int .i64 ((n.names.length + 1 : Nat) : Int), .string n.data, .int .i64 (moreI n.next), .slice a30 (n.names.length + 1) c30] rnT := by
      rw [← hW4]
      exact (((hA2.set 9 _).set 3 _).set 6 _).set 8 _
    have HA4 := Lib.hid hA4
    have HB4 := Lib.hid (hB2.kp k4 (by omega))
    have HO4 := Lib.hid (ownsRow.kp ho k4 (fun i hi e => by have := (own_in ho hi).1; have := HL1.out; omega))
    have HX4 : Hid (Ext w W4) := (HX1.out.trans hx2').next k4 (fun i hi e => by omega)
    have HW4 := Lib.hid hW4
    have d0 := hA2.cell 0 _ rfl
    have d1 := hA2.cell 1 _ rfl
    have d2 := hA2.cell 2 _ rfl
    have d3 := hA2.cell 3 _ rfl
    have d4 := hA2.cell 4 _ rfl
    have d5 := hA2.cell 5 _ rfl
    have d6 := hA2.cell 6 _ rfl
    have d7 := hA2.cell 7 _ rfl
    have d8 := hA2.cell 8 _ rfl
    have d9 := hA2.cell 9 _ rfl
    have fd0 := hA2.free 0
    have fd1 := hA2.free 1
    have fd2 := hA2.free 2
    have fd3 := hA2.free 3
    have fd4 := hA2.free 4
    have fd5 := hA2.free 5
    have fd6 := hA2.free 6
    have fd7 := hA2.free 7
    have fd8 := hA2.free 8
    have fd9 := hA2.free 9
    clear hx2 hx2' hA2 hB2 hW4 k4 hA4 ho
    go_wp2_with (fail)
    refine (HM.out n.kids H01.out.1 _).mono ?_
    rintro e w3 ⟨rfl, rfl⟩
    go_wp2_with (fail)
    refine (HM.out n.next H01.out.2 _).mono ?_
    rintro e w3 ⟨rfl, rfl⟩
    go_upto_region 8 with (fail)
    first | rw [HW4.out] | (simp only [Int.natCast_add, Int.natCast_one] at HW4; rw [HW4.out])
    have ha := HA4.out
    have hb := HB4.out
    unfold ndZA at hb
    clear d0 d1 d2 d3 d4 d5 d6 d7 d8 d9 fd0 fd1 fd2 fd3 fd4 fd5 fd6 fd7 fd8 fd9
    have d0 := ha.cell 0 _ rfl
    have d1 := ha.cell 1 _ rfl
    have d2 := ha.cell 2 _ rfl
    have d3 := ha.cell 3 _ rfl
    have d4 := ha.cell 4 _ rfl
    have d5 := ha.cell 5 _ rfl
    have d6 := ha.cell 6 _ rfl
    have d7 := ha.cell 7 _ rfl
    have d8 := ha.cell 8 _ rfl
    have d9 := ha.cell 9 _ rfl
    have g0 := hb.cell 0 _ rfl
    have g1 := hb.cell 1 _ rfl
    have g2 := hb.cell 2 _ rfl
    have g3 := hb.cell 3 _ rfl
    have g4 := hb.cell 4 _ rfl
    have g5 := hb.cell 5 _ rfl
    have g6 := hb.cell 6 _ rfl
    have g7 := hb.cell 7 _ rfl
    have g8 := hb.cell 8 _ rfl
    have g9 := hb.cell 9 _ rfl
    have fg0 := hb.free 0
    have fg1 := hb.free 1
    have fg2 := hb.free 2
    have fg3 := hb.free 3
    have fg4 := hb.free 4
    have fg5 := hb.free 5
    have fg6 := hb.free 6
    have fg7 := hb.free 7
    have fg8 := hb.free 8
    have fg9 := hb.free 9
    clear ha hb
    go_wp2_with (fail)
    go_light
    refine bodyPost_ret (v := .tuple #[.agg (ndA { n with names := insN n.names k x, cnt := (n.names.length + 1 : Nat), kids := moreI n.kids, next := moreI n.next } (.slice a30 (n.names.length + 1) c30)), .bool true]) (by simp [results, Tryz.results101, go_sem, ndA, g0, g1, g2, g3, g4, g5, g6, g7, g8, g9]) rfl ?_
    have k10 := kp_set10 W4 (w.heap.size + 1) (.int .i64 n.made) (.int .i64 n.chg) (.int .i64 n.ver) (.int .i64 (moreI n.kids)) (.int .i64 n.own) (.int .i64 n.len) (.int .i64 ((n.names.length + 1 : Nat) : Int)) (.string n.data) (.int .i64 (moreI n.next)) (.slice a30 (n.names.length + 1) c30)
    rw [HE.out]
    refine ⟨_, _, rfl, ?_, HX4.out.next k10 (fun i hi e => by omega)⟩
    show World.ownsRow _ 0 strT 1 _ (insN n.names k x).length ((insN n.names k x).map encStr)
    rw [HIL.out]
    exact owns_zero (ownsRow.kp HO4.out k10 (fun i hi e => by have := (own_in HO4.out hi).1; have := HL2.out; omega))
set_option maxHeartbeats 6400000 in
theorem remove10_any (n : NodeV) (nv : Value) (x : Bs) (w : World) (hn : NmO w nv n.names) (hl : n.names.length ≤ 100000) (h0 : -9223372036854775808 ≤ n.kids) :
    Calls Tryz.prog 104 #[.agg (ndA n nv), .string ⟨x.toArray⟩] w fun e w' => NdPost w (ndRem n x) e w' := by
  have H01 := Lib.hid (And.intro h0 trivial)
  clear h0
  obtain ⟨a, c, rfl⟩ := owns_slice hn
  have hns : NmS w (.slice a n.names.length c) n.names := names_own hn
  obtain ⟨_, _, hsl, hcc, hm, _, _⟩ := Sl.open hns.1
  simp only [Value.slice.injEq, true_and] at hsl
  obtain ⟨rfl, rfl⟩ := hsl
  obtain ⟨wA, hWA⟩ : ∃ wA, (w.alloc (.cells #[.int .i64 n.made, .int .i64 n.chg, .int .i64 n.ver, .int .i64 n.kids, .int .i64 n.own, .int .i64 n.len, .int .i64 n.cnt, .string n.data, .int .i64 n.next, .slice a n.names.length c] rnT)).alloc (.cells ndZA rnT) = wA := ⟨_, rfl⟩
  have hxA : Ext w wA := by rw [← hWA]; exact ((Kp.refl _ _).alloc _).alloc _
  have hA : Blk wA w.heap.size #[.int .i64 n.made, .int .i64 n.chg, .int .i64 n.ver, .int .i64 n.kids, .int .i64 n.own, .int .i64 n.len, .int .i64 n.cnt, .string n.data, .int .i64 n.next, .slice a n.names.length c] rnT := by
    rw [← hWA]
    exact Blk.kp (heap_alloc_new w _) ((Kp.refl (fun _ => False) _).alloc _) (fun f => f)
  have hB : Blk wA (w.heap.size + 1) ndZA rnT := by
    rw [← hWA]
    have := heap_alloc_new (w.alloc (.cells #[.int .i64 n.made, .int .i64 n.chg, .int .i64 n.ver, .int .i64 n.kids, .int .i64 n.own, .int .i64 n.len, .int .i64 n.cnt, .string n.data, .int .i64 n.next, .slice a n.names.length c] rnT)) (.cells ndZA rnT)
    rw [World.size_alloc] at this
    exact this
  have HPL := Lib.hid (place10_any (.slice a n.names.length c) n.names x wA ⟨Sl.ext hns.1 hxA, hns.2⟩ (by omega))
  have HX := Lib.hid hxA
  have HNO := Lib.hid (ownsRow.ext hn hxA)
  have HWA := Lib.hid hWA
  have HA := Lib.hid hA
  have HB := Lib.hid hB
  unfold ndZA at HWA hB
  have h0 := hA.cell 0 _ rfl
  have h1 := hA.cell 1 _ rfl
  have h2 := hA.cell 2 _ rfl
  have h3 := hA.cell 3 _ rfl
  have h4 := hA.cell 4 _ rfl
  have h5 := hA.cell 5 _ rfl
  have h6 := hA.cell 6 _ rfl
  have h7 := hA.cell 7 _ rfl
  have h8 := hA.cell 8 _ rfl
  have h9 := hA.cell 9 _ rfl
  clear hWA hxA hn hns
  by_cases hin : n.names[lessN x n.names]? = some x
  · have hle := lessN_le x n.names
    have HE : Hid (ndRem n x = { n with names := delN n.names (lessN x n.names), cnt := (n.names.length - 1 : Nat), kids := moreI n.kids }) := if_pos hin
    rw [decide_eq_true hin] at HPL
    have hlt : lessN x n.names < n.names.length := (List.getElem?_eq_some_iff.1 hin).1
    generalize lessN x n.names = k at HE HPL hle hlt
    obtain ⟨j, hj⟩ : ∃ j, k + 1 = j := ⟨_, rfl⟩
    have e27 : IntKind.i64.wrap ((k : Int) + 1) = (j : Int) := by rw [show (k : Int) + 1 = (j : Int) by omega]; exact IntWalk.i64_in _ (by omega)
    have HP5 : Hid ((0 : Int) ≤ j ∧ (j : Int) ≤ (n.names.length : Int)) := ⟨by omega, by omega⟩
    have HE27 := Lib.hid e27
    clear e27
    have HLEN : Hid ((n.names.take k).length + (n.names.drop j).length = n.names.length - 1) := by show _ = _; simp only [List.length_take, List.length_drop]; omega
    have HLN : Hid ((n.names.take k).length ≤ 1000000 ∧ (n.names.drop j).length ≤ 1000000) := by show _ ∧ _; simp only [List.length_take, List.length_drop]; omega
    have HINS : Hid ((delN n.names k).map encStr = (n.names.take k).map encStr ++ (n.names.drop j).map encStr) := by show _ = _; unfold delN; rw [hj]; simp
    have HIL : Hid ((delN n.names k).length = n.names.length - 1) := delN_len hlt
    have HP1 : Hid ((0 : Int) ≤ k ∧ (k : Int) ≤ c) := ⟨by omega, by omega⟩
    have HP2 : Hid ((0 : Int) ≤ (n.names.length : Int) ∧ (n.names.length : Int) ≤ c) := ⟨by omega, by omega⟩
    have HP3 : Hid (k ≤ n.names.length ∧ j ≤ n.names.length) := ⟨hle, by omega⟩
    have HP4 : Hid ((0 : Int) ≤ j ∧ (j : Int) ≤ c) := ⟨by omega, by omega⟩
    have HJL : j ≤ n.names.length := by omega
    have HM := Lib.hid (fun v (h : -9223372036854775808 ≤ v) W => more10_any v W h)
    generalize ndRem n x = R at HE ⊢
    unfold ndA
    clear hin hj
    go_enter Tryz.func104, Tryz.ntmps104
    go_upto_region 1 with (fail)
    rw [HWA.out]
    clear hA hB
    go_wp2_with (fail)
    refine HPL.out.mono ?_
    rintro e w1 ⟨rfl, hx1⟩
    have HA1 := Lib.hid (HA.out.kp hx1 (fun f => f))
    have HB1 := Lib.hid (HB.out.kp hx1 (fun f => f))
    have HX1 := Lib.hid (HX.out.trans hx1)
    have HT1 := Lib.hid (cut_head (names_own (ownsRow.ext HNO.out hx1)) hle)
    have HT3 := Lib.hid (cut_tail (names_own (ownsRow.ext HNO.out hx1)) HJL)
    clear hx1 HPL h0 h1 h2 h3 h4 h5 h6 h7 h8 h9
    have HL1 : Hid (w.heap.size < w1.heap.size) := HA1.out.lt
    have HL2 : Hid (w.heap.size + 1 < w1.heap.size) := HB1.out.lt
    have hb0 := HA1.out.cell 9 _ rfl
    go_upto_region 4 with (fail)
    clear hb0
    refine' wp_region_dagK 12 [(23, [18], [29]), (29, [23], [18])] ((18, ⟨fun _ => True, fun v w => Fresh0 w1.heap.size strT 1 v w⟩) :: (19, .val _) :: (20, .val _) :: (21, .val _) :: (22, .val _) :: (23, ⟨fun _ => True, fun v w => w.ownsRow w1.heap.size strT 1 v (n.names.take k).length ((n.names.take k).map encStr)⟩) :: (24, .val _) :: (25, .val _) :: (26, .val _) :: (27, .val _) :: (28, .val _) :: (29, ⟨fun v => ∃ a c, v = .slice a (n.names.length - 1) c, fun v w => w.ownsRow w1.heap.size strT 1 v (n.names.length - 1) ((delN n.names k).map encStr)⟩) :: []) (by exact ⟨fun _ _ _ hr hv => hv.ext hr, ⟨fun _ _ _ _ _ => trivial, ⟨fun _ _ _ _ _ => trivial, ⟨fun _ _ _ _ _ => trivial, ⟨fun _ _ _ _ _ => trivial, ⟨fun _ _ _ hr hv => ownsRow.ext hv hr, ⟨fun _ _ _ _ _ => trivial, ⟨fun _ _ _ _ _ => trivial, ⟨fun _ _ _ _ _ => trivial, ⟨fun _ _ _ _ _ => trivial, ⟨fun _ _ _ _ _ => trivial, ⟨fun _ _ _ hr hv => ownsRow.ext hv hr, trivial⟩⟩⟩⟩⟩⟩⟩⟩⟩⟩⟩⟩) (by kernel_rfl) (by kernel_rfl) (by kernel_rfl) ?_
    rotate_left 9
    simp only [List.take_succ_cons, List.take_zero]
    repeat (first
      | (refine wpD_skipv ?_ ?_ ?_
         focus rfl
         focus rfl
         simp only [Act.put, List.setIfInBounds_toArray, List.set_cons_succ, List.set_cons_zero])
      | (refine' wpD_val (c := _) ?_ (fun w => Kp.refl _ w) ?_ (fun wq hwq hfq => ?_) ?_
         rotate_left
         focus rfl
         focus rfl
         focus ((have p1 := HP1.out; have p2 := HP2.out; have p3 := HP3.out.1; have p4 := HP4.out; have p5 := HP5.out; have e27 := HE27.out; have c9 := (HA1.out.kp hwq (Nat.not_le.2 HL1.out)).cell 9 _ rfl); go_simp; first | done | rfl)
         simp only [Act.put, List.setIfInBounds_toArray, List.set_cons_succ, List.set_cons_zero])
      | (refine' wpD_con (c := _) ?_ ?_ (fun wq hwq hfq => ?_) ?_
         rotate_left
         focus rfl
         focus rfl
         focus ((have p1 := HP1.out; have p2 := HP2.out; have p3 := HP3.out.1; have p4 := HP4.out; have p5 := HP5.out; have e27 := HE27.out; have c9 := (HA1.out.kp hwq (Nat.not_le.2 HL1.out)).cell 9 _ rfl); go_simp; (try (rw [dUpon_enter])); fail)
         simp only [Act.put, List.setIfInBounds_toArray, List.set_cons_succ, List.set_cons_zero])
      | (refine wpD_made (A := fun _ => True) (V := fun v w => Fresh0 w1.heap.size strT 1 v w) 18 ?_ ?_ ?_ ?_ (fun wq hwq hfq => ?_) (fun v18 h18 => ?_)
         focus rfl
         focus rfl
         focus (exact ⟨undef, trivial⟩)
         focus rfl
         focus ((have p1 := HP1.out; have p2 := HP2.out; have p3 := HP3.out.1; have p4 := HP4.out; have p5 := HP5.out; have e27 := HE27.out; have c9 := (HA1.out.kp hwq (Nat.not_le.2 HL1.out)).cell 9 _ rfl); go_simp; (try (rw [dUpon_enter])); rw [dUpon_value]; exact mPost trivial (Fresh0.new hwq.size) ((Kp.refl _ _).alloc _))
         clear h18
         simp only [Act.put, List.setIfInBounds_toArray, List.set_cons_succ, List.set_cons_zero])
      | (refine wpD_used (A := fun _ => True) (V := fun v w => w.ownsRow w1.heap.size strT 1 v (n.names.take k).length ((n.names.take k).map encStr)) 23 ?_ ?_ ?_ ?_ (fun wq hwq hfq => ?_) (fun v23 h23 => ?_)
         focus rfl
         focus rfl
         focus (exact ⟨undef, trivial⟩)
         focus rfl
         focus ((have p1 := HP1.out; have p2 := HP2.out; have p3 := HP3.out.1; have p4 := HP4.out; have p5 := HP5.out; have e27 := HE27.out; have c9 := (HA1.out.kp hwq (Nat.not_le.2 HL1.out)).cell 9 _ rfl); refine dUpon_app (d := 23) rfl (by kernel_rfl) 36 strT 1 (by decide) str_factsR rfl _ _ rfl w1.heap.size v18 0 [] rfl (hfq 18 rfl).1 _ (n.names.take k).length ((n.names.take k).map encStr) rfl (by rw [List.length_take, Nat.min_eq_left HP3.out.1]; exact Sl.kp (by have h := HT1.out.1; rw [List.length_take, Nat.min_eq_left HP3.out.1] at h; exact h) hwq (fun i _ hi hge => absurd hi (Nat.not_lt.2 hge))) HT1.out.2 (enc_one _) (by have := HLN.out; omega) hwq.size (fun v' w' h1 h2 => ⟨trivial, by simpa using h1, h2.over (owns_base (hfq 18 rfl).1), ?_⟩); repeat (first | exact PresL.nil | (with_reducible refine PresL.val ?_) | (refine PresL.out rfl ?_)))
         clear h23
         simp only [Act.put, List.setIfInBounds_toArray, List.set_cons_succ, List.set_cons_zero])
      | (refine wpD_used (A := fun v => ∃ a c, v = .slice a (n.names.length - 1) c) (V := fun v w => w.ownsRow w1.heap.size strT 1 v (n.names.length - 1) ((delN n.names k).map encStr)) 29 ?_ ?_ ?_ ?_ (fun wq hwq hfq => ?_) (fun v29 h29 => ?_)
         focus rfl
         focus rfl
         focus (exact ⟨.slice none (n.names.length - 1) 0, _, _, rfl⟩)
         focus rfl
         focus ((have p1 := HP1.out; have p2 := HP2.out; have p3 := HP3.out.1; have p4 := HP4.out; have p5 := HP5.out; have e27 := HE27.out; have c9 := (HA1.out.kp hwq (Nat.not_le.2 HL1.out)).cell 9 _ rfl); refine dUpon_app (d := 29) rfl (by kernel_rfl) 36 strT 1 (by decide) str_factsR rfl _ _ rfl w1.heap.size v23 _ _ rfl (hfq 23 rfl) _ (n.names.drop j).length ((n.names.drop j).map encStr) rfl (Sl.kp HT3.out.1 hwq (fun i _ hi hge => absurd hi (Nat.not_lt.2 hge))) HT3.out.2 (enc_one _) (by have := HLN.out; omega) hwq.size (fun v' w' h1 h2 => ⟨by have h := h1; rw [HLEN.out] at h; exact owns_slice h, by have h := h1; rw [HLEN.out] at h; rw [HINS.out]; exact h, h2.over (owns_base (hfq 23 rfl)), ?_⟩); repeat (first | exact PresL.nil | (with_reducible refine PresL.val ?_) | (refine PresL.out rfl ?_)))
         obtain ⟨a29, c29, rfl⟩ := h29
         simp only [Act.put, List.setIfInBounds_toArray, List.set_cons_succ, List.set_cons_zero])
      | fail)
    refine wpD_nil ?_
    intro w2 hx2 hend
    have ho : w2.ownsRow w1.heap.size strT 1 (.slice a29 (n.names.length - 1) c29) (n.names.length - 1) ((delN n.names k).map encStr) := hend 29 (by kernel_rfl)
    clear hend
    simp only [cut_fold]
    have hx2' : Ext w1 w2 := hx2.mono (fun i hi hge => by omega)
    have hA2 := HA1.out.kp hx2' (fun f => f)
    have hB2 := HB1.out.kp hx2' (fun f => f)
    obtain ⟨W4, hW4⟩ : ∃ W4, ((w2.setCell ⟨w.heap.size, 9, none⟩ (.slice a29 (n.names.length - 1) c29)).setCell ⟨w.heap.size, 3, none⟩ (.int .i64 (moreI n.kids))).setCell ⟨w.heap.size, 6, none⟩ (.int .i64 ((n.names.length - 1 : Nat) : Int)) = W4 := ⟨_, rfl⟩
    have k4 : Kp (fun i => i = w.heap.size) w2 W4 := by
      rw [← hW4]
      exact (((Kp.refl (fun i => i = w.heap.size) w2).set1 _ 9 _ rfl).set1 _ 3 _ rfl).set1 _ 6 _ rfl
    have hA4 : Blk W4 w.heap.size #[.int .i64 n.made, .int .i64 n.chg, .int .i64 n.ver, .int .i64 (moreI n.kids), .int .i64 n.own, .int .i64 n.len, .int .i64 ((n.names.length - 1 : Nat) : Int), .string n.data, .int .i64 n.next, .slice a29 (n.names.length - 1) c29] rnT := by
      rw [← hW4]
      exact ((hA2.set 9 _).set 3 _).set 6 _
    have HA4 := Lib.hid hA4
    have HB4 := Lib.hid (hB2.kp k4 (by omega))
    have HO4 := Lib.hid (ownsRow.kp ho k4 (fun i hi e => by have := (own_in ho hi).1; have := HL1.out; omega))
    have HX4 : Hid (Ext w W4) := (HX1.out.trans hx2').next k4 (fun i hi e => by omega)
    have HW4 := Lib.hid hW4
    have d0 := hA2.cell 0 _ rfl
    have d1 := hA2.cell 1 _ rfl
    have d2 := hA2.cell 2 _ rfl
    have d3 := hA2.cell 3 _ rfl
    have d4 := hA2.cell 4 _ rfl
    have d5 := hA2.cell 5 _ rfl
    have d6 := hA2.cell 6 _ rfl
    have d7 := hA2.cell 7 _ rfl
    have d8 := hA2.cell 8 _ rfl
    have d9 := hA2.cell 9 _ rfl
    have fd0 := hA2.free 0
    have fd1 := hA2.free 1
    have fd2 := hA2.free 2
    have fd3 := hA2.free 3
    have fd4 := hA2.free 4
    have fd5 := hA2.free 5
    have fd6 := hA2.free 6
    have fd7 := hA2.free 7
    have fd8 := hA2.free 8
    have fd9 := hA2.free 9
    clear hx2 hx2' hA2 hB2 hW4 k4 hA4 ho
    go_wp2_with (fail)
    refine (HM.out n.kids H01.out.1 _).mono ?_
    rintro e w3 ⟨rfl, rfl⟩
    go_upto_region 7 with (fail)
    rw [HW4.out]
    have ha := HA4.out
    have hb := HB4.out
    unfold ndZA at hb
    clear d0 d1 d2 d3 d4 d5 d6 d7 d8 d9 fd0 fd1 fd2 fd3 fd4 fd5 fd6 fd7 fd8 fd9
    have d0 := ha.cell 0 _ rfl
    have d1 := ha.cell 1 _ rfl
    have d2 := ha.cell 2 _ rfl
    have d3 := ha.cell 3 _ rfl
    have d4 := ha.cell 4 _ rfl
    have d5 := ha.cell 5 _ rfl
    have d6 := ha.cell 6 _ rfl
    have d7 := ha.cell 7 _ rfl
    have d8 := ha.cell 8 _ rfl
    have d9 := ha.cell 9 _ rfl
    have g0 := hb.cell 0 _ rfl
    have g1 := hb.cell 1 _ rfl
    have g2 := hb.cell 2 _ rfl
    have g3 := hb.cell 3 _ rfl
    have g4 := hb.cell 4 _ rfl
    have g5 := hb.cell 5 _ rfl
    have g6 := hb.cell 6 _ rfl
    have g7 := hb.cell 7 _ rfl
    have g8 := hb.cell 8 _ rfl
    have g9 := hb.cell 9 _ rfl
    have fg0 := hb.free 0
    have fg1 := hb.free 1
    have fg2 := hb.free 2
    have fg3 := hb.free 3
    have fg4 := hb.free 4
    have fg5 := hb.free 5
    have fg6 := hb.free 6
    have fg7 := hb.free 7
    have fg8 := hb.free 8
    have fg9 := hb.free 9
    clear ha hb
    go_wp2_with (fail)
    go_light
    refine bodyPost_ret (v := .tuple #[.agg (ndA { n with names := delN n.names k, cnt := (n.names.length - 1 : Nat), kids := moreI n.kids } (.slice a29 (n.names.length - 1) c29)), .bool true]) (by simp [results, Tryz.results104, go_sem, ndA, g0, g1, g2, g3, g4, g5, g6, g7, g8, g9]) rfl ?_
    have k10 := kp_set10 W4 (w.heap.size + 1) (.int .i64 n.made) (.int .i64 n.chg) (.int .i64 n.ver) (.int .i64 (moreI n.kids)) (.int .i64 n.own) (.int .i64 n.len) (.int .i64 ((n.names.length - 1 : Nat) : Int)) (.string n.data) (.int .i64 n.next) (.slice a29 (n.names.length - 1) c29)
    rw [HE.out]
    refine ⟨_, _, rfl, ?_, HX4.out.next k10 (fun i hi e => by omega)⟩
    show World.ownsRow _ 0 strT 1 _ (delN n.names k).length ((delN n.names k).map encStr)
    rw [HIL.out]
    exact owns_zero (ownsRow.kp HO4.out k10 (fun i hi e => by have := (own_in HO4.out hi).1; have := HL2.out; omega))
  · have HE : Hid (ndRem n x = n) := if_neg hin
    rw [decide_eq_false hin] at HPL
    clear hin
    generalize ndRem n x = R at HE ⊢
    unfold ndA
    go_enter Tryz.func104, Tryz.ntmps104
    go_upto_region 1 with (fail)
    rw [HWA.out]
    clear hA hB
    go_wp2_with (fail)
    refine HPL.out.mono ?_
    rintro e w1 ⟨rfl, hx1⟩
    have ha1 := HA.out.kp hx1 (fun f => f)
    have hb1 := HB.out.kp hx1 (fun f => f)
    unfold ndZA at hb1
    clear h0 h1 h2 h3 h4 h5 h6 h7 h8 h9
    have d0 := ha1.cell 0 _ rfl
    have d1 := ha1.cell 1 _ rfl
    have d2 := ha1.cell 2 _ rfl
    have d3 := ha1.cell 3 _ rfl
    have d4 := ha1.cell 4 _ rfl
    have d5 := ha1.cell 5 _ rfl
    have d6 := ha1.cell 6 _ rfl
    have d7 := ha1.cell 7 _ rfl
    have d8 := ha1.cell 8 _ rfl
    have d9 := ha1.cell 9 _ rfl
    have g0 := hb1.cell 0 _ rfl
    have g1 := hb1.cell 1 _ rfl
    have g2 := hb1.cell 2 _ rfl
    have g3 := hb1.cell 3 _ rfl
    have g4 := hb1.cell 4 _ rfl
    have g5 := hb1.cell 5 _ rfl
    have g6 := hb1.cell 6 _ rfl
    have g7 := hb1.cell 7 _ rfl
    have g8 := hb1.cell 8 _ rfl
    have g9 := hb1.cell 9 _ rfl
    have fg0 := hb1.free 0
    have fg1 := hb1.free 1
    have fg2 := hb1.free 2
    have fg3 := hb1.free 3
    have fg4 := hb1.free 4
    have fg5 := hb1.free 5
    have fg6 := hb1.free 6
    have fg7 := hb1.free 7
    have fg8 := hb1.free 8
    have fg9 := hb1.free 9
    have HX1 := Lib.hid hx1
    clear ha1 hb1 hx1 HPL
    go_wp2_with (fail)
    go_light
    refine bodyPost_ret (v := .tuple #[.agg (ndA n (.slice a n.names.length c)), .bool false]) (by simp [results, Tryz.results104, go_sem, ndA, g0, g1, g2, g3, g4, g5, g6, g7, g8, g9]) rfl ?_
    have k10 := kp_set10 w1 (w.heap.size + 1) (.int .i64 n.made) (.int .i64 n.chg) (.int .i64 n.ver) (.int .i64 n.kids) (.int .i64 n.own) (.int .i64 n.len) (.int .i64 n.cnt) (.string n.data) (.int .i64 n.next) (.slice a n.names.length c)
    rw [HE.out]
    refine ⟨_, _, rfl, ownsRow.kp (ownsRow.ext HNO.out HX1.out) k10 (fun i hi e => ?_), (HX.out.trans HX1.out).next k10 (fun i hi e => by omega)⟩
    obtain ⟨cur, f, hc⟩ := own_type (ownsRow.ext HNO.out HX1.out) hi
    have e2 : i = w.heap.size + 1 := e
    subst e2
    have hb2 : w1.heap[w.heap.size + 1]? = some (.cells ndZA rnT (0, 0)) := HB.out.kp HX1.out (fun f => f)
    rw [hb2] at hc
    simp only [Option.some.injEq, Obj.cells.injEq] at hc
    exact absurd hc.2.1 (by decide)
end Go.Proofs.YtdagikbdpeblhaaGreatDoor
