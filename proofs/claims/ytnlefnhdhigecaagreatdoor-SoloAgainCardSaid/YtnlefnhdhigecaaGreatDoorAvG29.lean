/- Texts put together: AvWWat, AvWWatB, AvWWatC, AvWWatD. -/
import Derived.Test.YtnlefnhdhigecaaGreatDoorAvS
import Derived.Test.YtnlefnhdhigecaaGreatDoorAvG18
import Derived.Test.YtnlefnhdhigecaaGreatDoorAvG28
import Derived.Test.YtnlefnhdhigecaaGreatDoorAvG2
import Derived.Handy
import Derived.Shelf.SlicesQ.Contains
import Derived.Laws.StructEq
import Derived.Ground.SlgqProg
import Derived.Test.YtnlefnhdhigecaaGreatDoorShelfW
import Derived.Shelf.AbstractIn

/- Walks: the order of watches. -/
namespace Go.Proofs.YtnlefnhdhigecaaGreatDoor
set_option maxRecDepth 100000
open Go.RowKit Av

abbrev wcell (e : Wt) : List Value := [.int .i64 e.sess, .string e.path, .int .i64 e.kind]
theorem lessB_eq (x y : Bs) : Op.bytesLess x y = decide (x < y) := by
  induction x generalizing y with
  | nil => cases y <;> simp [Op.bytesLess]
  | cons a x ih =>
    cases y with
    | nil => simp [Op.bytesLess]
    | cons b y =>
      rw [Op.bytesLess, ih, Bool.eq_iff_iff]
      simp [List.cons_lt_cons_iff]
set_option maxHeartbeats 400000 in
theorem nanI64 (x : Int) (w : World) : Calls Tryz.prog 291 #[.int .i64 x] w fun e w' => e = .returned (.bool false) ∧ w = w' := by
  go_enter Tryz.func291, Tryz.ntmps291
  go_wp2_with (fail)
  go_ret
  go_light
  exact ⟨by simp, rfl⟩
set_option maxHeartbeats 400000 in
theorem nanInt (x : Int) (w : World) : Calls Tryz.prog 215 #[.int .i64 x] w fun e w' => e = .returned (.bool false) ∧ w = w' := by
  go_enter Tryz.func215, Tryz.ntmps215
  go_wp2_with (fail)
  go_ret
  go_light
  exact ⟨by simp, rfl⟩
set_option maxHeartbeats 400000 in
theorem nanStr (x : ByteArray) (w : World) : Calls Tryz.prog 282 #[.string x] w fun e w' => e = .returned (.bool false) ∧ w = w' := by
  go_enter Tryz.func282, Tryz.ntmps282
  go_wp2_with (fail)
  go_ret
  go_light
  exact ⟨by simp, rfl⟩
set_option maxHeartbeats 800000 in
theorem cmpI64_any (x y : Int) (w : World) : Calls Tryz.prog 245 #[.int .i64 x, .int .i64 y] w fun e w' => e = .returned (.int .i64 (cmpI x y)) ∧ w = w' := by
  rcases Int.lt_trichotomy x y with h1 | h1 | h1
  · rw [(cmpI_lt _ _).1 h1]
    go_enter Tryz.func245, Tryz.ntmps245
    go_wp2_with (fail)
    refine (nanI64 _ _).mono ?_
    rintro e w1 ⟨rfl, rfl⟩
    go_wp2_with (fail)
    refine (nanI64 _ _).mono ?_
    rintro e w1 ⟨rfl, rfl⟩
    go_wp2_with (fail)
    go_ret
    go_light
    exact ⟨rfl, rfl⟩
  · rw [(cmpI_lt _ _).2.1 h1]
    subst h1
    have h2 : ¬ x < x := Int.lt_irrefl x
    go_enter Tryz.func245, Tryz.ntmps245
    go_wp2_with (fail)
    refine (nanI64 _ _).mono ?_
    rintro e w1 ⟨rfl, rfl⟩
    go_wp2_with (fail)
    refine (nanI64 _ _).mono ?_
    rintro e w1 ⟨rfl, rfl⟩
    go_wp2_with (fail)
    go_ret
    go_light
    exact ⟨rfl, rfl⟩
  · rw [(cmpI_lt _ _).2.2 h1]
    have h2 : ¬ x < y := by omega
    go_enter Tryz.func245, Tryz.ntmps245
    go_wp2_with (fail)
    refine (nanI64 _ _).mono ?_
    rintro e w1 ⟨rfl, rfl⟩
    go_wp2_with (fail)
    refine (nanI64 _ _).mono ?_
    rintro e w1 ⟨rfl, rfl⟩
    go_wp2_with (fail)
    go_ret
    go_light
    exact ⟨rfl, rfl⟩
set_option maxHeartbeats 800000 in
theorem cmpInt_any (x y : Int) (w : World) : Calls Tryz.prog 175 #[.int .i64 x, .int .i64 y] w fun e w' => e = .returned (.int .i64 (cmpI x y)) ∧ w = w' := by
  rcases Int.lt_trichotomy x y with h1 | h1 | h1
  · rw [(cmpI_lt _ _).1 h1]
    go_enter Tryz.func175, Tryz.ntmps175
    go_wp2_with (fail)
    refine (nanInt _ _).mono ?_
    rintro e w1 ⟨rfl, rfl⟩
    go_wp2_with (fail)
    refine (nanInt _ _).mono ?_
    rintro e w1 ⟨rfl, rfl⟩
    go_wp2_with (fail)
    go_ret
    go_light
    exact ⟨rfl, rfl⟩
  · rw [(cmpI_lt _ _).2.1 h1]
    subst h1
    have h2 : ¬ x < x := Int.lt_irrefl x
    go_enter Tryz.func175, Tryz.ntmps175
    go_wp2_with (fail)
    refine (nanInt _ _).mono ?_
    rintro e w1 ⟨rfl, rfl⟩
    go_wp2_with (fail)
    refine (nanInt _ _).mono ?_
    rintro e w1 ⟨rfl, rfl⟩
    go_wp2_with (fail)
    go_ret
    go_light
    exact ⟨rfl, rfl⟩
  · rw [(cmpI_lt _ _).2.2 h1]
    have h2 : ¬ x < y := by omega
    go_enter Tryz.func175, Tryz.ntmps175
    go_wp2_with (fail)
    refine (nanInt _ _).mono ?_
    rintro e w1 ⟨rfl, rfl⟩
    go_wp2_with (fail)
    refine (nanInt _ _).mono ?_
    rintro e w1 ⟨rfl, rfl⟩
    go_wp2_with (fail)
    go_ret
    go_light
    exact ⟨rfl, rfl⟩
theorem strCmp (x y : ByteArray) : (Op.bytesLess x.toList y.toList = true ∧ cmpS x y = -1) ∨ (Op.bytesLess x.toList y.toList = false ∧ (x.toList == y.toList) = true ∧ cmpS x y = 0) ∨ (Op.bytesLess x.toList y.toList = false ∧ (x.toList == y.toList) = false ∧ cmpS x y = 1) := by
  have l1 : Op.bytesLess x.toList y.toList = decide (x.data.toList < y.data.toList) := by rw [Lib.toList_data, Lib.toList_data, lessB_eq]
  rw [l1, str_eq]
  unfold cmpS
  by_cases h1 : x.data.toList < y.data.toList
  · left; simp [h1, cmpV]
  · right
    by_cases h2 : y.data.toList < x.data.toList
    · right
      refine ⟨by simp [h1], decide_eq_false (fun e => by subst e; exact List.lt_irrefl _ h2), by simp [h1, h2, cmpV]⟩
    · left
      have : x = y := Av.bs_inj (List.le_antisymm h2 h1)
      exact ⟨by simp [h1], by simp [this], by simp [h1, h2, cmpV]⟩
set_option maxHeartbeats 800000 in
theorem cmpStr_any (x y : ByteArray) (w : World) : Calls Tryz.prog 246 #[.string x, .string y] w fun e w' => e = .returned (.int .i64 (cmpS x y)) ∧ w = w' := by
  rcases strCmp x y with ⟨l1, hr⟩ | ⟨l1, l2, hr⟩ | ⟨l1, l2, hr⟩
  all_goals rw [hr]
  all_goals clear hr
  all_goals go_enter Tryz.func246, Tryz.ntmps246
  all_goals go_wp2_with (fail)
  all_goals refine (nanStr _ _).mono ?_
  all_goals rintro e w1 ⟨rfl, rfl⟩
  all_goals go_wp2_with (fail)
  all_goals refine (nanStr _ _).mono ?_
  all_goals rintro e w1 ⟨rfl, rfl⟩
  all_goals
    go_wp2_with (fail)
    go_ret
    go_light
    exact ⟨rfl, rfl⟩
theorem or_ne {x : Int} {r : List Int} (h : x ≠ 0) : orI (x :: r) = x := by unfold orI; rw [show (x == 0) = false from beq_eq_false_iff_ne.2 h]; rfl
def OrRel (l : List Int) (i : Value) : Prop := ∃ k : Nat, k ≤ l.length ∧ i = .int .i64 k ∧ orI (l.drop k) = orI l
set_option maxHeartbeats 800000 in
theorem or_any (v : Value) (l : List Int) (w : World) (h : Sl w 1 v l.length (l.map (Value.int .i64))) : Calls Tryz.prog 244 #[v] w fun e w' => e = .returned (.int .i64 (orI l)) ∧ w = w' := by
  obtain ⟨a, c, rfl, hcc, hm, hl, hop⟩ := Sl.open h
  unfold maxLen at hm
  have HOP := Lib.hid hop
  clear h hop hl
  go_enter Tryz.func244, Tryz.ntmps244
  go_wp2_with (fail)
  go_loop [8] (fun i => OrRel l i) (fun i => l.length - (intOf i).toNat)
  case atStart => exact ⟨0, Nat.zero_le _, rfl, rfl⟩
  case round =>
    obtain ⟨k, hk, rfl, hor⟩ := hrel
    have HO := Lib.hid hor
    clear hor
    by_cases hlt : k < l.length
    · obtain ⟨g, off, rfl, hg, hcl⟩ := HOP.out (by omega)
      have s0 := hcl k (.int .i64 l[k]) (by rw [List.getElem?_map, List.getElem?_eq_getElem hlt]; rfl)
      have hd := List.drop_eq_getElem_cons hlt
      by_cases h0 : l[k] = 0
      · have HR : Hid (orI (l.drop (k + 1)) = orI l) := by show _ = _; rw [← HO.out, hd, orI, h0]; rfl
        rw [h0] at s0
        clear hcl hd
        go_wp2_with (fail)
        go_light
        exact ⟨⟨k + 1, by omega, by go_num, HR.out⟩, by simp [intOf]; omega⟩
      · have HR : Hid (l[k] = orI l) := by show _ = _; rw [← HO.out, hd, or_ne h0]
        clear hcl hd
        go_wp2_with (fail)
        go_ret
        go_light
        exact ⟨by first | rfl | (rw [HR.out]; rfl), rfl⟩
    · have HR : Hid (orI l = 0) := by show _ = _; rw [← HO.out, List.drop_of_length_le (by omega)]; rfl
      clear HO
      go_wp2_with (fail)
      go_ret
      go_light
      exact ⟨by first | rfl | (rw [HR.out]; rfl), rfl⟩
end Go.Proofs.YtnlefnhdhigecaaGreatDoor

/- Walks: order, event. -/
namespace Go.Proofs.YtnlefnhdhigecaaGreatDoor
set_option maxRecDepth 100000
open Go.RowKit Av
set_option maxHeartbeats 1600000 in
theorem order_any (x y : Wt) (w : World) : Calls Tryz.prog 211 #[.agg (wcell x).toArray, .agg (wcell y).toArray] w fun e w' => e = .returned (.int .i64 (ordW x y)) ∧ Gw w w' := by
  obtain ⟨xs, xp, xk⟩ := x
  obtain ⟨ys, yp, yk⟩ := y
  obtain ⟨r1, h1⟩ : ∃ r, cmpI xs ys = r := ⟨_, rfl⟩
  obtain ⟨r2, h2⟩ : ∃ r, cmpI xk yk = r := ⟨_, rfl⟩
  obtain ⟨r3, h3⟩ : ∃ r, cmpS xp yp = r := ⟨_, rfl⟩
  obtain ⟨r, hr⟩ : ∃ r, ordW ⟨xs, xp, xk⟩ ⟨ys, yp, yk⟩ = r := ⟨_, rfl⟩
  have HO : Hid (orI [r1, r2, r3] = r) := by show _ = _; rw [← hr, ← h1, ← h2, ← h3]; rfl
  have HC1 := Lib.hid (fun W => cmpI64_any xs ys W)
  have HC2 := Lib.hid (fun W => cmpInt_any xk yk W)
  have HC3 := Lib.hid (fun W => cmpStr_any xp yp W)
  rw [hr]
  rw [h1] at HC1
  rw [h2] at HC2
  rw [h3] at HC3
  clear h1 h2 h3 hr
  go_enter Tryz.func211, Tryz.ntmps211
  go_upto_region 1 with (fail)
  obtain ⟨wX, hwX⟩ : ∃ wX, (w.alloc (.cells #[.int .i64 xs, .string xp, .int .i64 xk] 214)).alloc (.cells #[.int .i64 ys, .string yp, .int .i64 yk] 214) = wX := ⟨_, rfl⟩
  have hg : Gw w wX := by rw [← hwX]; exact ((Gw.refl w).alloc _).alloc _
  have b1 : Blk wX w.heap.size #[.int .i64 xs, .string xp, .int .i64 xk] 214 := by rw [← hwX]; exact Blk.kp (S := fun _ => False) (heap_alloc_new w _) ((Kp.refl _ _).alloc _) (fun f => f)
  have b2 : Blk wX (w.heap.size + 1) #[.int .i64 ys, .string yp, .int .i64 yk] 214 := by
    rw [← hwX]
    have := heap_alloc_new (w.alloc (.cells #[.int .i64 xs, .string xp, .int .i64 xk] 214)) (.cells #[.int .i64 ys, .string yp, .int .i64 yk] 214)
    simpa [Blk] using this
  have HG := Lib.hid hg
  have HB1 := Lib.hid b1
  have HB2 := Lib.hid b2
  simp only [hwX]
  clear hg b1 b2 hwX
  refine' wp_region_dagG ((4, .val _) :: (5, .val _) :: (6, .val _) :: (7, .val _) :: (8, .val _) :: (9, .val _) :: (10, .val _) :: (11, .val _) :: (12, .val _) :: (13, .val _) :: (14, .val _) :: (15, .val _) :: (16, .val _) :: (17, .val _) :: (18, .val _) :: (19, .val _) :: (20, ⟨fun _ => True, fun v w => Sl w 1 v 3 [.int .i64 r1, .int .i64 r2, .int .i64 r3]⟩) :: (21, .val _) :: []) (by exact ⟨fun _ _ _ _ _ => trivial, ⟨fun _ _ _ _ _ => trivial, ⟨fun _ _ _ _ _ => trivial, ⟨fun _ _ _ _ _ => trivial, ⟨fun _ _ _ _ _ => trivial, ⟨fun _ _ _ _ _ => trivial, ⟨fun _ _ _ _ _ => trivial, ⟨fun _ _ _ _ _ => trivial, ⟨fun _ _ _ _ _ => trivial, ⟨fun _ _ _ _ _ => trivial, ⟨fun _ _ _ _ _ => trivial, ⟨fun _ _ _ _ _ => trivial, ⟨fun _ _ _ _ _ => trivial, ⟨fun _ _ _ _ _ => trivial, ⟨fun _ _ _ _ _ => trivial, ⟨fun _ _ _ _ _ => trivial, ⟨fun _ _ _ hr hv => Sl.ext hv hr.ext, ⟨fun _ _ _ _ _ => trivial, trivial⟩⟩⟩⟩⟩⟩⟩⟩⟩⟩⟩⟩⟩⟩⟩⟩⟩⟩) (by kernel_rfl) (by kernel_rfl) (by kernel_rfl) ?_
  rotate_left 17
  repeat (first
    | (refine wpD_skipv ?_ ?_ ?_
       focus rfl
       focus rfl
       simp only [Act.put, List.setIfInBounds_toArray, List.set_cons_succ, List.set_cons_zero])
    | (refine' wpD_val (c := _) ?_ (fun w => Gw.refl w) ?_ (fun wq hwq hfq => ?_) ?_
       rotate_left
       focus rfl
       focus rfl
       focus (have e0 := (HB1.out.kp hwq.ext (fun f => f)).cell 0 _ rfl; have e1 := (HB1.out.kp hwq.ext (fun f => f)).cell 1 _ rfl; have e2 := (HB1.out.kp hwq.ext (fun f => f)).cell 2 _ rfl; have f0 := (HB2.out.kp hwq.ext (fun f => f)).cell 0 _ rfl; have f1 := (HB2.out.kp hwq.ext (fun f => f)).cell 1 _ rfl; have f2 := (HB2.out.kp hwq.ext (fun f => f)).cell 2 _ rfl; go_simp; first | done | rfl)
       simp only [Act.put, List.setIfInBounds_toArray, List.set_cons_succ, List.set_cons_zero])
    | (refine' wpD_con (c := _) ?_ ?_ (fun wq hwq hfq => ?_) ?_
       rotate_left
       focus rfl
       focus rfl
       focus (have e0 := (HB1.out.kp hwq.ext (fun f => f)).cell 0 _ rfl; have e1 := (HB1.out.kp hwq.ext (fun f => f)).cell 1 _ rfl; have e2 := (HB1.out.kp hwq.ext (fun f => f)).cell 2 _ rfl; have f0 := (HB2.out.kp hwq.ext (fun f => f)).cell 0 _ rfl; have f1 := (HB2.out.kp hwq.ext (fun f => f)).cell 1 _ rfl; have f2 := (HB2.out.kp hwq.ext (fun f => f)).cell 2 _ rfl; go_simp; (try (rw [dUpon_enter])); first | ((have hc := or_any v20 [r1, r2, r3] wq (hfq 20 rfl)); (with_reducible refine hc.mono ?_); rintro e w' ⟨rfl, rfl⟩; rw [HO.out]; exact DEnd.con (Gw.refl _)) | ((with_reducible refine (HC1.out _).mono ?_); rintro e w' ⟨rfl, rfl⟩; exact DEnd.con (Gw.refl _)) | ((with_reducible refine (HC2.out _).mono ?_); rintro e w' ⟨rfl, rfl⟩; exact DEnd.con (Gw.refl _)) | ((with_reducible refine (HC3.out _).mono ?_); rintro e w' ⟨rfl, rfl⟩; exact DEnd.con (Gw.refl _)))
       simp only [Act.put, List.setIfInBounds_toArray, List.set_cons_succ, List.set_cons_zero])
    | (refine wpD_made (A := fun _ => True) (V := fun v w => Sl w 1 v 3 [.int .i64 r1, .int .i64 r2, .int .i64 r3]) 20 ?_ ?_ ?_ ?_ (fun wq hwq hfq => ?_) (fun v20 h20 => ?_)
       focus rfl
       focus rfl
       focus (exact ⟨undef, trivial⟩)
       focus rfl
       focus (have e0 := (HB1.out.kp hwq.ext (fun f => f)).cell 0 _ rfl; have e1 := (HB1.out.kp hwq.ext (fun f => f)).cell 1 _ rfl; have e2 := (HB1.out.kp hwq.ext (fun f => f)).cell 2 _ rfl; have f0 := (HB2.out.kp hwq.ext (fun f => f)).cell 0 _ rfl; have f1 := (HB2.out.kp hwq.ext (fun f => f)).cell 1 _ rfl; have f2 := (HB2.out.kp hwq.ext (fun f => f)).cell 2 _ rfl; go_simp; (try (rw [dUpon_enter])); rw [dUpon_value]; exact mPost trivial (Sl.of_block (heap_alloc_new wq _) rfl (by decide) (Nat.le_refl _)) ((Gw.refl _).alloc _))
       clear h20
       simp only [Act.put, List.setIfInBounds_toArray, List.set_cons_succ, List.set_cons_zero])
    | fail)
  refine wpD_nil ?_
  intro w1 hx1 _
  go_wp2_with (fail)
  go_ret
  go_light
  exact ⟨rfl, HG.out.trans hx1⟩
set_option maxHeartbeats 1600000 in
theorem event_any (x : Wt) (p up : ByteArray) (ch : Int) (w : World) : Calls Tryz.prog 213 #[.agg (wcell x).toArray, .string p, .string up, .int .i64 ch] w fun e w' => e = .returned (.int .i64 (evG p up ch x)) ∧ Ext w w' := by
  obtain ⟨xs, xp, xk⟩ := x
  have a1 := str_eq xp p
  have a2 := str_eq xp up
  obtain ⟨r, hr⟩ : ∃ r, evG p up ch ⟨xs, xp, xk⟩ = r := ⟨_, rfl⟩
  rw [hr]
  obtain ⟨c1, hc1⟩ : ∃ c, decide (xp = p) = c := ⟨_, rfl⟩
  obtain ⟨c2, hc2⟩ : ∃ c, decide (xp = up) = c := ⟨_, rfl⟩
  obtain ⟨c3, hc3⟩ : ∃ c, decide (up = ⟨#[]⟩) = c := ⟨_, rfl⟩
  rw [hc1] at a1
  rw [hc2] at a2
  have hl3 : up.toList.isEmpty = c3 := by rw [← hc3, Lib.toList_data, Bool.eq_iff_iff, decide_eq_true_iff, List.isEmpty_iff]; exact ⟨fun h => Av.bs_inj h, fun h => by rw [h]⟩
  have HR : Hid (r = if xk = 1 ∧ c1 = true then ch else if (xk = 2 ∧ ch = 2) ∧ c1 = true then ch else if ((xk = 2 ∧ ch ≠ 3) ∧ c3 = false) ∧ c2 = true then 4 else 0) := by
    show _ = _
    rw [← hr, ← hc1, ← hc2, ← hc3]; unfold evG; simp
  clear hr hc1 hc2 hc3
  go_enter Tryz.func213, Tryz.ntmps213
  have a3 : up.toList.isEmpty = c3 := hl3
  cases c3 with
  | true =>
    have a4 : up.toList = [] := List.isEmpty_iff.1 a3
    clear hl3
    cases c1 <;> cases c2
    all_goals
      go_wp2_with (fail)
      all_goals
        go_ret
        go_light
        refine ⟨?_, (Kp.refl _ _).alloc _⟩
        have h := HR.out
        simp [*] at h
        simp [h]
  | false =>
    have a4 : ¬ up.toList = [] := fun h => by rw [h] at a3; cases a3
    clear hl3
    cases c1 <;> cases c2
    all_goals
      go_wp2_with (fail)
      all_goals
        go_ret
        go_light
        refine ⟨?_, (Kp.refl _ _).alloc _⟩
        have h := HR.out
        simp [*] at h
        simp [h]
end Go.Proofs.YtnlefnhdhigecaaGreatDoor

/- Walks: is a watch among the watches? -/
namespace Go.Proofs.YtnlefnhdhigecaaGreatDoor
set_option maxRecDepth 100000
open Go.RowKit Av Go.Shelf Go.Lib
theorem eqWt : EqlAt Tryz.prog 214 (fun x : Wt => .agg (wcell x).toArray) (fun x y => decide (x = y)) := by
  refine ⟨fun x y w => ?_, GuardAt.agg _ (by kernel_rfl)⟩
  have u2 := Tryz.underlying2
  have a2 := Tryz.isAgg2
  have z2 := Tryz.sizeOf2
  have u3 := Tryz.underlying3
  have a3 := Tryz.isAgg3
  have z3 := Tryz.sizeOf3
  have u9 := Tryz.underlying9
  have a9 := Tryz.isAgg9
  have z9 := Tryz.sizeOf9
  have hS : Tryz.prog.underlying 214 = some (.struct (Tryz.prog.fieldsOf 214)) := by kernel_rfl
  have hp : Tryz.prog.stoodInHeld 214 = false := by kernel_rfl
  obtain ⟨xs, xp, xk⟩ := x
  obtain ⟨ys, yp, yk⟩ := y
  have hq := str_eq xp yp
  rw [run_eql_struct, show (10000 : Nat) = 9999 + 1 from rfl, run_equalIn_agg w 9999 214 _ _ hS hp]
  simp only [Program.fieldsOf, Tryz.underlying214]
  go_simp
  by_cases h1 : xs = ys <;> by_cases h2 : xp = yp <;> by_cases h3 : xk = yk <;> simp [h1, h2, h3] at hq ⊢
  all_goals simp [hq]
set_option maxHeartbeats 800000 in
theorem index_none (a : Option Addr) (c : Nat) (x : Wt) (w : World) : Calls Tryz.prog 171 #[.slice a 0 c, .agg (wcell x).toArray] w fun e w' => e = .returned (.int .i64 (-1)) ∧ Ext w w' := by
  go_enter Tryz.func171, Tryz.ntmps171
  go_wp2_with (fail)
  refine wp_loop_rounds 1 ?_
  rw [rounds_succ]
  go_wp2_with (fail)
  go_ret
  exact ⟨rfl, (Kp.refl _ _).alloc _⟩
set_option maxHeartbeats 800000 in
theorem contains_any (v : Value) (xs : List Wt) (x : Wt) (w : World) (h : Sl w 3 v xs.length (xs.flatMap wcell)) :
    Calls Tryz.prog 133 #[v, .agg (wcell x).toArray] w fun e w' => e = .returned (.bool (decide (x ∈ xs))) ∧ Ext w w' := by
  obtain ⟨a, c, rfl, hcc, hm, hop⟩ := Sl.rows (f := wcell) (K := 3) (fun _ => rfl) h
  unfold maxLen at hm
  by_cases h0 : 0 < xs.length
  · obtain ⟨b, off, rfl, hb, hc⟩ := hop h0
    have hcon := AnyQ.slices_Contains Tryz.containsW 3 Tryz.isAgg214 Tryz.sizeOf214 wcell (fun _ => rfl) _ eqWt b off xs.length c xs x w (Nat.le_refl _) (by omega) (fun j hj i v hi => by
      have hi3 : i < 3 := by have := (List.getElem?_eq_some_iff.1 hi).1; simpa using this
      rw [getElem!_pos xs j hj] at hi
      exact hc j hj i v hi3 hi)
    change Calls Tryz.prog 133 _ _ _ at hcon
    refine hcon.mono ?_
    rintro e w' ⟨rfl, hbw⟩
    refine ⟨?_, Kp.of_below hbw⟩
    congr 2
    rw [List.take_length, Bool.eq_iff_iff]
    simp
  · have hn : xs = [] := List.eq_nil_of_length_eq_zero (by omega)
    subst hn
    clear hop h0 h
    obtain ⟨xs, xp, xk⟩ := x
    have HI := Lib.hid (fun W => index_none a c ⟨xs, xp, xk⟩ W)
    go_enter Tryz.func133, Tryz.ntmps133
    go_wp2_with (fail)
    refine (HI.out _).mono ?_
    rintro e w1 ⟨rfl, hx1⟩
    go_wp2_with (fail)
    go_ret
    exact ⟨by simp, ((Kp.refl _ _).alloc _).trans hx1⟩
end Go.Proofs.YtnlefnhdhigecaaGreatDoor

/- Walks: slices.IndexFunc, slices.DeleteFunc at watches, with a closure that has a memory of its own. -/
namespace Go.Proofs.YtnlefnhdhigecaaGreatDoor
set_option maxRecDepth 100000
open Go.RowKit Av

/-- What a closure that is asked of one watch after the other does: Inv: what stands behind so many; cur: the block of its own that it may write besides S0; rb: the row's block. -/
structure Asked (g : Nat) (lb : Array Value) (p : Wt → Bool) (S0 : Nat → Prop) (base rb : Nat) (Inv : List Wt → Option Nat → World → Prop) : Prop where
  eg : ∀ args w, (callFunc g args).run Tryz.prog w = .ok (.enter g args) w
  call : ∀ seen cur x W, seen.length < 100000 → Inv seen cur W → Calls Tryz.prog g (#[.agg (wcell x).toArray] ++ lb) W fun e w' => e = .returned (.bool (p x)) ∧ ∃ cur', Inv (seen ++ [x]) cur' w' ∧ Kp (fun i => S0 i ∨ cur = some i) W w'
  kp : ∀ seen cur W W', Inv seen cur W → Kp (fun i => i = rb) W W' → Inv seen cur W'
  cur : ∀ seen cur W i, Inv seen cur W → cur = some i → base ≤ i ∧ i < W.heap.size ∧ i ≠ rb
  s0 : ∀ i, S0 i → i ≠ rb ∧ i < base
/-- Where the search ends. -/
def FoundW (p : Wt → Bool) (Inv : List Wt → Option Nat → World → Prop) (xs : List Wt) (e : Ending) (w' : World) : Prop :=
  (e = .returned (.int .i64 (-1)) ∧ (∀ x ∈ xs, p x = false) ∧ ∃ cur, Inv xs cur w') ∨ ∃ k : Nat, ∃ hk : k < xs.length, e = .returned (.int .i64 k) ∧ (∀ x ∈ xs.take k, p x = false) ∧ p xs[k] = true ∧ ∃ cur, Inv (xs.take (k + 1)) cur w'
def IFRel (p : Wt → Bool) (S0 : Nat → Prop) (base : Nat) (Inv : List Wt → Option Nat → World → Prop) (xs : List Wt) (w : World) (i : Value) (wr : World) : Prop :=
  ∃ k : Nat, k ≤ xs.length ∧ i = .int .i64 k ∧ (∀ x ∈ xs.take k, p x = false) ∧ (∃ cur, Inv (xs.take k) cur wr) ∧ Kp (fun i => S0 i ∨ base ≤ i) w wr
set_option maxHeartbeats 1600000 in
theorem indexFunc_any {g : Nat} {lb : Array Value} {p : Wt → Bool} {S0 : Nat → Prop} {base rb : Nat} {Inv : List Wt → Option Nat → World → Prop} (hA : Asked g lb p S0 base rb Inv) (ad : Option Addr) (xs : List Wt) (cap : Nat) (w : World)
    (had : xs ≠ [] → ad = some ⟨rb, 0, none⟩ ∧ rb < base ∧ RowB w rb 214 3 cap (xs.flatMap wcell)) (hm : xs.length ≤ 100000) (h0 : ∃ cur, Inv [] cur w) :
    Calls Tryz.prog 216 #[.slice ad xs.length cap, .func (.func g) #[] lb] w fun e w' => FoundW p Inv xs e w' ∧ Kp (fun i => S0 i ∨ base ≤ i) w w' := by
  have eg := hA.eg
  have HAD := Lib.hid had
  have H0 := Lib.hid h0
  have HA := Lib.hid hA
  clear had h0 hA
  go_enter Tryz.func216, Tryz.ntmps216
  go_wp2_with (fail)
  go_loopw [8] (fun i wr => IFRel p S0 base Inv xs w i wr) (fun i _ => xs.length - (intOf i).toNat)
  case atStart => exact ⟨0, Nat.zero_le _, rfl, by simp, by simpa using H0.out, Kp.refl _ _⟩
  case round =>
    obtain ⟨k, hk, rfl, hall, ⟨cur, hinv⟩, hkp⟩ := hrel
    have HALL := Lib.hid hall
    have HK := Lib.hid hkp
    have HI := Lib.hid hinv
    clear hall hkp hinv
    by_cases hlt : k < xs.length
    · have hne : xs ≠ [] := by rintro rfl; simp at hlt
      obtain ⟨rfl, hrb, hrow⟩ := HAD.out hne
      have hrow2 : RowB wr rb 214 3 cap (xs.flatMap wcell) := hrow.kp HK.out (fun f => Or.elim f (fun h => (HA.out.s0 rb h).1 rfl) (fun h => by omega))
      have c0 := hrow2.cell (i := k * 3) (v := .int .i64 xs[k].sess) (rowK_cell wcell 3 (fun _ => rfl) xs k hlt 0 (by decide))
      have c1 := hrow2.cell (i := k * 3 + 1) (v := .string xs[k].path) (rowK_cell wcell 3 (fun _ => rfl) xs k hlt 1 (by decide))
      have c2 := hrow2.cell (i := k * 3 + 2) (v := .int .i64 xs[k].kind) (rowK_cell wcell 3 (fun _ => rfl) xs k hlt 2 (by decide))
      have HC := Lib.hid (HA.out.call (xs.take k) cur xs[k] wr (by rw [List.length_take]; omega) HI.out)
      have HCUR := Lib.hid (HA.out.cur (xs.take k) cur wr)
      have hcon : Calls Tryz.prog g (#[.agg #[.int .i64 xs[k].sess, .string xs[k].path, .int .i64 xs[k].kind]] ++ lb) wr fun e w' => e = .returned (.bool (p xs[k])) ∧ ∃ cur', Inv (xs.take (k + 1)) cur' w' ∧ Kp (fun i => S0 i ∨ base ≤ i) w w' := by
        refine HC.out.mono ?_
        rintro e w' ⟨rfl, cur', h1, h2⟩
        refine ⟨rfl, cur', by rw [List.take_succ_eq_append_getElem hlt]; exact h1, HK.out.next h2 ?_⟩
        rintro i hi (h | h)
        · exact .inl h
        · exact .inr (HCUR.out i HI.out h).1
      have HCON := Lib.hid hcon
      clear hcon hrow hrow2 hrb HC HCUR
      cases hp : p xs[k] with
      | true =>
        have HP := Lib.hid hp
        rw [hp] at HCON
        clear hp
        go_wp2_with (go_at_fn g; refine HCON.out.mono ?_; rintro e w1 ⟨rfl, cur', h1, h2⟩; have H1 := Lib.hid h1; have H2 := Lib.hid h2; clear h1 h2)
        go_ret
        go_light
        exact ⟨.inr ⟨k, hlt, rfl, HALL.out, HP.out, cur', H1.out⟩, H2.out⟩
      | false =>
        have HP := Lib.hid hp
        rw [hp] at HCON
        clear hp
        go_wp2_with (go_at_fn g; refine HCON.out.mono ?_; rintro e w1 ⟨rfl, cur', h1, h2⟩; have H1 := Lib.hid h1; have H2 := Lib.hid h2; clear h1 h2)
        go_light
        refine ⟨⟨k + 1, by omega, by go_num, fun x hx => ?_, ⟨cur', H1.out⟩, H2.out⟩, by simp [intOf]; omega⟩
        rw [List.take_succ_eq_append_getElem hlt] at hx
        rcases List.mem_append.1 hx with hx | hx
        · exact HALL.out x hx
        · simp only [List.mem_singleton] at hx; subst hx; exact HP.out
    · have e1 : xs.take k = xs := List.take_of_length_le (by omega)
      rw [e1] at HALL HI
      clear e1 HAD
      go_wp2_with (fail)
      go_ret
      go_light
      exact ⟨.inl ⟨rfl, HALL.out, cur, HI.out⟩, HK.out⟩
end Go.Proofs.YtnlefnhdhigecaaGreatDoor
