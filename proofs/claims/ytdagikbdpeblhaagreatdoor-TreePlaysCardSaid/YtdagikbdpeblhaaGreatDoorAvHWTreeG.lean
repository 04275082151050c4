/- Walks of package tree: read. -/
import Derived.Test.YtdagikbdpeblhaaGreatDoorAvHWTreeF
namespace Go.Proofs.YtdagikbdpeblhaaGreatDoor
set_option maxRecDepth 100000
open Go.RowKit Av

/-- A block of another type is written: a row of strings stands. -/
theorem own_aside {w w' : World} {base n : Nat} {v : Value} {xs : List Value} (h : w.ownsRow base strT 1 v n xs) {r : Nat} {A : Array Value} {T : TypeId} (hr : Blk w r A T) (h3 : T ≠ strT) (k : Kp (fun i => i = r) w w') : w'.ownsRow base strT 1 v n xs := by
  refine ownsRow.kp h k (fun i hi e => ?_)
  subst e
  obtain ⟨_, ⟨rfl, _⟩ | ⟨q, c, cur, rfl, _, hg, _⟩⟩ := h
  · simp [Value.ownBlock] at hi
  · simp only [Value.ownBlock, Option.some.injEq] at hi
    subst hi
    have hr' : w.heap[q]? = some (.cells A T (0, 0)) := hr
    rw [hr'] at hg
    simp only [Option.some.injEq, Obj.cells.injEq] at hg
    exact h3 hg.2.1
theorem blk_set11 {w : World} {r : Nat} {T : TypeId} (h : Blk w r rsZ T) (u0 u1 u2 u3 u4 u5 u6 u7 u8 u9 u10 : Value) : Blk (set11 w r u0 u1 u2 u3 u4 u5 u6 u7 u8 u9 u10) r #[u0, u1, u2, u3, u4, u5, u6, u7, u8, u9, u10] T := by
  unfold rsZ at h
  have h0 : Blk (w.setCell ⟨r, 0, none⟩ u0) r #[u0, (.string ⟨#[]⟩), (.string ⟨#[]⟩), (.slice none 0 0), (.int .i64 0), (.int .i64 0), (.int .i64 0), (.int .i64 0), (.int .i64 0), (.int .i64 0), (.int .i64 0)] T := h.set 0 u0
  have h1 : Blk ((w.setCell ⟨r, 0, none⟩ u0).setCell ⟨r, 1, none⟩ u1) r #[u0, u1, (.string ⟨#[]⟩), (.slice none 0 0), (.int .i64 0), (.int .i64 0), (.int .i64 0), (.int .i64 0), (.int .i64 0), (.int .i64 0), (.int .i64 0)] T := h0.set 1 u1
  have h2 : Blk (((w.setCell ⟨r, 0, none⟩ u0).setCell ⟨r, 1, none⟩ u1).setCell ⟨r, 2, none⟩ u2) r #[u0, u1, u2, (.slice none 0 0), (.int .i64 0), (.int .i64 0), (.int .i64 0), (.int .i64 0), (.int .i64 0), (.int .i64 0), (.int .i64 0)] T := h1.set 2 u2
  have h3 : Blk ((((w.setCell ⟨r, 0, none⟩ u0).setCell ⟨r, 1, none⟩ u1).setCell ⟨r, 2, none⟩ u2).setCell ⟨r, 3, none⟩ u3) r #[u0, u1, u2, u3, (.int .i64 0), (.int .i64 0), (.int .i64 0), (.int .i64 0), (.int .i64 0), (.int .i64 0), (.int .i64 0)] T := h2.set 3 u3
  have h4 : Blk (((((w.setCell ⟨r, 0, none⟩ u0).setCell ⟨r, 1, none⟩ u1).setCell ⟨r, 2, none⟩ u2).setCell ⟨r, 3, none⟩ u3).setCell ⟨r, 4, none⟩ u4) r #[u0, u1, u2, u3, u4, (.int .i64 0), (.int .i64 0), (.int .i64 0), (.int .i64 0), (.int .i64 0), (.int .i64 0)] T := h3.set 4 u4
  have h5 : Blk ((((((w.setCell ⟨r, 0, none⟩ u0).setCell ⟨r, 1, none⟩ u1).setCell ⟨r, 2, none⟩ u2).setCell ⟨r, 3, none⟩ u3).setCell ⟨r, 4, none⟩ u4).setCell ⟨r, 5, none⟩ u5) r #[u0, u1, u2, u3, u4, u5, (.int .i64 0), (.int .i64 0), (.int .i64 0), (.int .i64 0), (.int .i64 0)] T := h4.set 5 u5
  have h6 : Blk (((((((w.setCell ⟨r, 0, none⟩ u0).setCell ⟨r, 1, none⟩ u1).setCell ⟨r, 2, none⟩ u2).setCell ⟨r, 3, none⟩ u3).setCell ⟨r, 4, none⟩ u4).setCell ⟨r, 5, none⟩ u5).setCell ⟨r, 6, none⟩ u6) r #[u0, u1, u2, u3, u4, u5, u6, (.int .i64 0), (.int .i64 0), (.int .i64 0), (.int .i64 0)] T := h5.set 6 u6
  have h7 : Blk ((((((((w.setCell ⟨r, 0, none⟩ u0).setCell ⟨r, 1, none⟩ u1).setCell ⟨r, 2, none⟩ u2).setCell ⟨r, 3, none⟩ u3).setCell ⟨r, 4, none⟩ u4).setCell ⟨r, 5, none⟩ u5).setCell ⟨r, 6, none⟩ u6).setCell ⟨r, 7, none⟩ u7) r #[u0, u1, u2, u3, u4, u5, u6, u7, (.int .i64 0), (.int .i64 0), (.int .i64 0)] T := h6.set 7 u7
  have h8 : Blk (((((((((w.setCell ⟨r, 0, none⟩ u0).setCell ⟨r, 1, none⟩ u1).setCell ⟨r, 2, none⟩ u2).setCell ⟨r, 3, none⟩ u3).setCell ⟨r, 4, none⟩ u4).setCell ⟨r, 5, none⟩ u5).setCell ⟨r, 6, none⟩ u6).setCell ⟨r, 7, none⟩ u7).setCell ⟨r, 8, none⟩ u8) r #[u0, u1, u2, u3, u4, u5, u6, u7, u8, (.int .i64 0), (.int .i64 0)] T := h7.set 8 u8
  have h9 : Blk ((((((((((w.setCell ⟨r, 0, none⟩ u0).setCell ⟨r, 1, none⟩ u1).setCell ⟨r, 2, none⟩ u2).setCell ⟨r, 3, none⟩ u3).setCell ⟨r, 4, none⟩ u4).setCell ⟨r, 5, none⟩ u5).setCell ⟨r, 6, none⟩ u6).setCell ⟨r, 7, none⟩ u7).setCell ⟨r, 8, none⟩ u8).setCell ⟨r, 9, none⟩ u9) r #[u0, u1, u2, u3, u4, u5, u6, u7, u8, u9, (.int .i64 0)] T := h8.set 9 u9
  have h10 : Blk (((((((((((w.setCell ⟨r, 0, none⟩ u0).setCell ⟨r, 1, none⟩ u1).setCell ⟨r, 2, none⟩ u2).setCell ⟨r, 3, none⟩ u3).setCell ⟨r, 4, none⟩ u4).setCell ⟨r, 5, none⟩ u5).setCell ⟨r, 6, none⟩ u6).setCell ⟨r, 7, none⟩ u7).setCell ⟨r, 8, none⟩ u8).setCell ⟨r, 9, none⟩ u9).setCell ⟨r, 10, none⟩ u10) r #[u0, u1, u2, u3, u4, u5, u6, u7, u8, u9, u10] T := h9.set 10 u10
  exact h10
set_option maxHeartbeats 6400000 in
theorem read_any (base b m : Nat) (room : Int) (t : Tr) (k : Int) (p d : ByteArray) (v f : Int) (w : World) (hT : TreeR w base b m room t) (hok : TrOk t) :
    Calls Tryz.prog 97 #[.pointer (some ⟨b, 0, none⟩), .agg #[.int .i64 k, .string p, .string d, .int .i64 v, .int .i64 f]] w fun e w' => DoPost w base b m room t (pl t, readP (pl t) ⟨k, p, d, v, f⟩) e w' := by
  obtain ⟨wA, hWA⟩ : ∃ wA, w.alloc (.cells #[.int .i64 k, .string p, .string d, .int .i64 v, .int .i64 f] 33) = wA := ⟨_, rfl⟩
  have hxA : Ext w wA := by rw [← hWA]; exact (Kp.refl _ _).alloc _
  have hA : Blk wA w.heap.size #[.int .i64 k, .string p, .string d, .int .i64 v, .int .i64 f] 33 := by rw [← hWA]; exact heap_alloc_new w _
  obtain ⟨wB, hWB⟩ : ∃ wB, wA.alloc (.cells rsZ rsuT) = wB := ⟨_, rfl⟩
  have hxB : Ext wA wB := by rw [← hWB]; exact (Kp.refl _ _).alloc _
  have hsA : wA.heap.size = w.heap.size + 1 := by rw [← hWA]; exact World.size_alloc _ _
  have hB : Blk wB (w.heap.size + 1) rsZ rsuT := by rw [← hWB, ← hsA]; exact heap_alloc_new wA _
  have HAB := Lib.hid (hA.kp hxB (fun f => f))
  have HB := Lib.hid hB
  have HXB := Lib.hid (hxA.ext hxB)
  have HTB := Lib.hid (hT.ext (hxA.ext hxB))
  have HWA := Lib.hid hWA
  unfold rsZ at hWB
  have HWB := Lib.hid hWB
  have HOK := Lib.hid hok
  have HC : Hid ((pl t, readP (pl t) ⟨k, p, d, v, f⟩) = match mget (pl t) p with
    | none => (pl t, failR 4)
    | some n => (pl t, ⟨0, p, if k = 5 then n.data else ⟨#[]⟩, if k = 7 then n.names else [], n⟩)) := by
    show _ = _
    unfold readP
    cases mget (pl t) p <;> rfl
  generalize (pl t, readP (pl t) ⟨k, p, d, v, f⟩) = R at HC ⊢
  clear hWA hxA hA hWB hxB hB hsA hok hT
  go_enter Tryz.func97, Tryz.ntmps97
  go_upto_region 1 with (fail)
  rw [HWA.out]
  rw [HWB.out]
  refine' wp_region_dag0 ((7, .val _) :: (8, .val _) :: (9, .val _) :: (10, .val _) :: (11, .val _) :: (12, .val _) :: (13, .val _) :: (5, .val _) :: []) (by exact ⟨fun _ _ _ _ _ => trivial, ⟨fun _ _ _ _ _ => trivial, ⟨fun _ _ _ _ _ => trivial, ⟨fun _ _ _ _ _ => trivial, ⟨fun _ _ _ _ _ => trivial, ⟨fun _ _ _ _ _ => trivial, ⟨fun _ _ _ _ _ => trivial, ⟨fun _ _ _ _ _ => trivial, trivial⟩⟩⟩⟩⟩⟩⟩⟩) (by kernel_rfl) (by kernel_rfl) (by kernel_rfl) ?_
  rotate_left 8
  repeat (first
    | (refine wpD_skipv ?_ ?_ ?_
       focus rfl
       focus rfl
       simp only [Act.put, List.setIfInBounds_toArray, List.set_cons_succ, List.set_cons_zero])
    | (refine' wpD_val (c := _) ?_ (fun w => Kp.refl _ w) ?_ (fun wq hwq hfq => ?_) ?_
       rotate_left
       focus rfl
       focus rfl
       focus ((have a1 := (HAB.out.kp hwq (fun f => f)).cell 1 _ rfl; have d1 := (HTB.out.blk.kp hwq (fun f => f)).cell 1 _ rfl; have hlk := tree_look (HTB.out.ext hwq) p); go_simp; first | done | rfl)
       simp only [Act.put, List.setIfInBounds_toArray, List.set_cons_succ, List.set_cons_zero])
    | (refine' wpD_con (c := _) ?_ ?_ (fun wq hwq hfq => ?_) ?_
       rotate_left
       focus rfl
       focus rfl
       focus ((have a1 := (HAB.out.kp hwq (fun f => f)).cell 1 _ rfl; have d1 := (HTB.out.blk.kp hwq (fun f => f)).cell 1 _ rfl; have hlk := tree_look (HTB.out.ext hwq) p); go_simp; (try (rw [dUpon_enter])); fail)
       simp only [Act.put, List.setIfInBounds_toArray, List.set_cons_succ, List.set_cons_zero])
    | fail)
  refine wpD_nil ?_
  intro w2 hx2 hend
  clear hend
  have HX2 := Lib.hid hx2
  clear hx2
  cases hg : mget t p with
  | none =>
    have HE : Hid (R = (pl t, failR 4)) := by show _ = _; rw [HC.out, pl_get, hg]; rfl
    clear hg HC
    go_wp2_with (fail)
    refine (fail_any 4 _).mono ?_
    rintro e9 w9 ⟨rfl, hx9⟩
    have hB9 := (HB.out.kp HX2.out (fun f => f)).kp hx9 (fun f => f)
    have HT9 := Lib.hid ((HTB.out.ext HX2.out).ext hx9)
    have HB9 := Lib.hid hB9
    have HX9 := Lib.hid ((HXB.out.ext HX2.out).ext hx9)
    unfold rsZ at hB9
    have c0 := hB9.cell 0 _ rfl
    have c1 := hB9.cell 1 _ rfl
    have c2 := hB9.cell 2 _ rfl
    have c3 := hB9.cell 3 _ rfl
    have c4 := hB9.cell 4 _ rfl
    have c5 := hB9.cell 5 _ rfl
    have c6 := hB9.cell 6 _ rfl
    have c7 := hB9.cell 7 _ rfl
    have c8 := hB9.cell 8 _ rfl
    have c9 := hB9.cell 9 _ rfl
    have c10 := hB9.cell 10 _ rfl
    have fc0 := hB9.free 0
    have fc1 := hB9.free 1
    have fc2 := hB9.free 2
    have fc3 := hB9.free 3
    have fc4 := hB9.free 4
    have fc5 := hB9.free 5
    have fc6 := hB9.free 6
    have fc7 := hB9.free 7
    have fc8 := hB9.free 8
    have fc9 := hB9.free 9
    have fc10 := hB9.free 10
    clear hB9 hx9
    unfold resA
    go_wp2_with (fail)
    go_light
    refine bodyPost_ret (v := resA 4 ⟨#[]⟩ ⟨#[]⟩ (.slice none 0 0) ndZ) (by simp [results, Tryz.results97, go_sem, resA, ndZ, c0, c1, c2, c3, c4, c5, c6, c7, c8, c9, c10]) rfl ?_
    rw [HE.out]
    have k11 := kp_set11 w9 (w.heap.size + 1) (.int .i64 4) (.string ⟨#[]⟩) (.string ⟨#[]⟩) (.slice none 0 0) (.int .i64 0) (.int .i64 0) (.int .i64 0) (.int .i64 0) (.int .i64 0) (.int .i64 0) (.int .i64 0)
    exact ⟨t, .slice none 0 0, rfl, own_nil _, HT9.out.aside HB9.out (by decide) (by decide) (by decide) k11, rfl, (Ext.kp HX9.out).next k11 (fun i hi e => by omega), Fresh.refl _ _⟩
  | some gn =>
    obtain ⟨g, n⟩ := gn
    have hmem := mget_mem hg
    have HNO : Hid (NodeOk n) := HOK.out _ hmem
    have HC2 := HC.out
    rw [pl_get, hg] at HC2
    simp only [Option.map_some] at HC2
    have HE := Lib.hid HC2
    obtain ⟨nv, hnb, hno⟩ : NdAt w2 g n := (HTB.out.nod _ hmem).ext HX2.out
    obtain ⟨na, nc, rfl⟩ := owns_slice hno
    have HNB := Lib.hid hnb
    have HNS := Lib.hid hno
    have HA2 := Lib.hid (HAB.out.kp HX2.out (fun f => f))
    clear hg hmem HC HC2 hnb hno
    simp only [Option.map_some, Option.getD_some]
    go_upto_region 4 with (fail)
    refine' wp_region_dagK 8 [] ((17, .val _) :: (18, .val _) :: (19, .val _) :: (20, .val _) :: (21, .val _) :: (22, .val _) :: (23, .val _) :: (6, ⟨fun v => ∃ r, v = .pointer (some ⟨r, 0, none⟩), fun v w => ∃ r, v = .pointer (some ⟨r, 0, none⟩) ∧ w2.heap.size ≤ r ∧ Blk w r rsZ rsuT⟩) :: []) (by exact ⟨fun _ _ _ _ _ => trivial, ⟨fun _ _ _ _ _ => trivial, ⟨fun _ _ _ _ _ => trivial, ⟨fun _ _ _ _ _ => trivial, ⟨fun _ _ _ _ _ => trivial, ⟨fun _ _ _ _ _ => trivial, ⟨fun _ _ _ _ _ => trivial, ⟨fun _ _ _ hr ⟨r, h1, h2, h3⟩ => ⟨r, h1, h2, h3.kp hr (fun f => f)⟩, trivial⟩⟩⟩⟩⟩⟩⟩⟩) (by kernel_rfl) (by kernel_rfl) (by kernel_rfl) ?_
    rotate_left 7
    simp only [List.take_succ_cons, List.take_zero]
    repeat (first
      | (refine wpD_skipv ?_ ?_ ?_
         focus rfl
         focus rfl
         simp only [Act.put, List.setIfInBounds_toArray, List.set_cons_succ, List.set_cons_zero])
      | (refine' wpD_val (c := _) ?_ (fun w => Kp.refl _ w) ?_ (fun wq hwq hfq => ?_) ?_
         rotate_left
         focus rfl
         focus rfl
         focus ((have hext : Ext w2 wq := hwq.mono (fun i hi e => by omega); have a1 := (HA2.out.kp hext (fun f => f)).cell 1 _ rfl; have n0 := (HNB.out.kp hext (fun f => f)).cell 0 (.int .i64 n.made) rfl; have n1 := (HNB.out.kp hext (fun f => f)).cell 1 (.int .i64 n.chg) rfl; have n2 := (HNB.out.kp hext (fun f => f)).cell 2 (.int .i64 n.ver) rfl; have n3 := (HNB.out.kp hext (fun f => f)).cell 3 (.int .i64 n.kids) rfl; have n4 := (HNB.out.kp hext (fun f => f)).cell 4 (.int .i64 n.own) rfl; have n5 := (HNB.out.kp hext (fun f => f)).cell 5 (.int .i64 n.len) rfl; have n6 := (HNB.out.kp hext (fun f => f)).cell 6 (.int .i64 n.cnt) rfl); go_simp; first | done | rfl)
         simp only [Act.put, List.setIfInBounds_toArray, List.set_cons_succ, List.set_cons_zero])
      | (refine' wpD_con (c := _) ?_ ?_ (fun wq hwq hfq => ?_) ?_
         rotate_left
         focus rfl
         focus rfl
         focus ((have hext : Ext w2 wq := hwq.mono (fun i hi e => by omega); have a1 := (HA2.out.kp hext (fun f => f)).cell 1 _ rfl; have n0 := (HNB.out.kp hext (fun f => f)).cell 0 (.int .i64 n.made) rfl; have n1 := (HNB.out.kp hext (fun f => f)).cell 1 (.int .i64 n.chg) rfl; have n2 := (HNB.out.kp hext (fun f => f)).cell 2 (.int .i64 n.ver) rfl; have n3 := (HNB.out.kp hext (fun f => f)).cell 3 (.int .i64 n.kids) rfl; have n4 := (HNB.out.kp hext (fun f => f)).cell 4 (.int .i64 n.own) rfl; have n5 := (HNB.out.kp hext (fun f => f)).cell 5 (.int .i64 n.len) rfl; have n6 := (HNB.out.kp hext (fun f => f)).cell 6 (.int .i64 n.cnt) rfl); go_simp; (try (rw [dUpon_enter])); fail)
         simp only [Act.put, List.setIfInBounds_toArray, List.set_cons_succ, List.set_cons_zero])
      | (refine wpD_made (A := fun v => ∃ r, v = .pointer (some ⟨r, 0, none⟩)) (V := fun v w => ∃ r, v = .pointer (some ⟨r, 0, none⟩) ∧ w2.heap.size ≤ r ∧ Blk w r rsZ rsuT) 6 ?_ ?_ ?_ ?_ (fun wq hwq hfq => ?_) (fun v6 h6 => ?_)
         focus rfl
         focus rfl
         focus (exact ⟨.pointer (some ⟨0, 0, none⟩), 0, rfl⟩)
         focus rfl
         focus ((have hext : Ext w2 wq := hwq.mono (fun i hi e => by omega); have a1 := (HA2.out.kp hext (fun f => f)).cell 1 _ rfl; have n0 := (HNB.out.kp hext (fun f => f)).cell 0 (.int .i64 n.made) rfl; have n1 := (HNB.out.kp hext (fun f => f)).cell 1 (.int .i64 n.chg) rfl; have n2 := (HNB.out.kp hext (fun f => f)).cell 2 (.int .i64 n.ver) rfl; have n3 := (HNB.out.kp hext (fun f => f)).cell 3 (.int .i64 n.kids) rfl; have n4 := (HNB.out.kp hext (fun f => f)).cell 4 (.int .i64 n.own) rfl; have n5 := (HNB.out.kp hext (fun f => f)).cell 5 (.int .i64 n.len) rfl; have n6 := (HNB.out.kp hext (fun f => f)).cell 6 (.int .i64 n.cnt) rfl); go_simp; (try (rw [dUpon_enter])); rw [dUpon_value]; exact mPost ⟨_, rfl⟩ ⟨_, rfl, hwq.size, heap_alloc_new _ _⟩ ((Kp.refl _ _).alloc _))
         obtain ⟨r6, rfl⟩ := h6
         simp only [Act.put, List.setIfInBounds_toArray, List.set_cons_succ, List.set_cons_zero])
      | fail)
    refine wpD_nil ?_
    intro w5 hx5 hend
    obtain ⟨rr, hr6, hr, hb6⟩ : ∃ r, Value.pointer (some ⟨r6, 0, none⟩) = .pointer (some ⟨r, 0, none⟩) ∧ w2.heap.size ≤ r ∧ Blk w5 r rsZ rsuT := hend 6 (by kernel_rfl)
    obtain rfl : r6 = rr := by simpa using hr6
    clear hend hr6
    have hx5' : Ext w2 w5 := hx5.mono (fun i hi e => by omega)
    obtain ⟨wR, hWR⟩ : ∃ wR, set11 w5 r6 (.int .i64 0) (.string p) (.string ⟨#[]⟩) (.slice none 0 0) (.int .i64 n.made) (.int .i64 n.chg) (.int .i64 n.ver) (.int .i64 n.kids) (.int .i64 n.own) (.int .i64 n.len) (.int .i64 n.cnt) = wR := ⟨_, rfl⟩
    have hxR : Ext w2 wR := hx5'.next (by rw [← hWR]; exact kp_set11 w5 r6 (.int .i64 0) (.string p) (.string ⟨#[]⟩) (.slice none 0 0) (.int .i64 n.made) (.int .i64 n.chg) (.int .i64 n.ver) (.int .i64 n.kids) (.int .i64 n.own) (.int .i64 n.len) (.int .i64 n.cnt)) (fun i hi e => by omega)
    have hR : Blk wR r6 (rsQ p n) rsuT := by
      rw [← hWR]
      exact blk_set11 hb6 _ _ _ _ _ _ _ _ _ _ _
    unfold set11 at hWR
    unfold rsZ at hb6
    have z0 := hb6.cell 0 _ rfl
    have z1 := hb6.cell 1 _ rfl
    have z2 := hb6.cell 2 _ rfl
    have z3 := hb6.cell 3 _ rfl
    have z4 := hb6.cell 4 _ rfl
    have z5 := hb6.cell 5 _ rfl
    have z6 := hb6.cell 6 _ rfl
    have z7 := hb6.cell 7 _ rfl
    have z8 := hb6.cell 8 _ rfl
    have z9 := hb6.cell 9 _ rfl
    have z10 := hb6.cell 10 _ rfl
    have fz0 := hb6.free 0
    have fz1 := hb6.free 1
    have fz2 := hb6.free 2
    have fz3 := hb6.free 3
    have fz4 := hb6.free 4
    have fz5 := hb6.free 5
    have fz6 := hb6.free 6
    have fz7 := hb6.free 7
    have fz8 := hb6.free 8
    have fz9 := hb6.free 9
    have fz10 := hb6.free 10
    clear hb6
    have HXR := Lib.hid hxR
    have HR := Lib.hid hR
    have haR := HA2.out.kp HXR.out (fun f => f)
    have hnbR := HNB.out.kp HXR.out (fun f => f)
    have HNR := Lib.hid (ownsRow.ext HNS.out HXR.out)
    have HBR := Lib.hid ((HB.out.kp HX2.out (fun f => f)).kp HXR.out (fun f => f))
    have HTR := Lib.hid ((HTB.out.ext HX2.out).ext HXR.out)
    have HXW := Lib.hid ((HXB.out.ext HX2.out).ext HXR.out)
    have HWR := Lib.hid hWR
    have HSR : Hid (w.heap.size + 1 < r6) := by
      have h1 := HX2.out.size
      have h3 := HB.out.lt
      show _ < _
      omega
    clear hWR hxR hR hx5 hx5'
    by_cases k5 : k = 5
    · subst k5
      have HE : Hid (R = (pl t, ⟨0, p, n.data, [], n⟩)) := HE.out.trans (by simp)
      have hr := HR.out
      obtain ⟨wS, hWS⟩ : ∃ wS, wR.setCell ⟨r6, 2, none⟩ (.string n.data) = wS := ⟨_, rfl⟩
      have hkS : Kp (fun i => i = r6) wR wS := by rw [← hWS]; exact (Kp.refl (fun i => i = r6) wR).set1 _ 2 _ rfl
      have HRS : Hid (Blk wS r6 #[.int .i64 0, .string p, .string n.data, .slice none 0 0, .int .i64 n.made, .int .i64 n.chg, .int .i64 n.ver, .int .i64 n.kids, .int .i64 n.own, .int .i64 n.len, .int .i64 n.cnt] rsuT) := by show Blk _ _ _ _; rw [← hWS]; exact hr.set 2 _
      have HBS := Lib.hid (HBR.out.kp hkS (by have := HSR.out; omega))
      have HTS := Lib.hid (HTR.out.aside hr (by decide) (by decide) (by decide) hkS)
      have HXS : Hid (Ext w wS) := HXW.out.next hkS (fun i hi e => by have := HSR.out; omega)
      have HWS := Lib.hid hWS
      unfold rsQ at hr
      unfold ndA at hnbR
      have a0 := haR.cell 0 _ rfl
      have a1 := haR.cell 1 _ rfl
      have a2 := haR.cell 2 _ rfl
      have a3 := haR.cell 3 _ rfl
      have a4 := haR.cell 4 _ rfl
      have j0 := hnbR.cell 0 _ rfl
      have j1 := hnbR.cell 1 _ rfl
      have j2 := hnbR.cell 2 _ rfl
      have j3 := hnbR.cell 3 _ rfl
      have j4 := hnbR.cell 4 _ rfl
      have j5 := hnbR.cell 5 _ rfl
      have j6 := hnbR.cell 6 _ rfl
      have j7 := hnbR.cell 7 _ rfl
      have j8 := hnbR.cell 8 _ rfl
      have j9 := hnbR.cell 9 _ rfl
      have c0 := hr.cell 0 _ rfl
      have c1 := hr.cell 1 _ rfl
      have c2 := hr.cell 2 _ rfl
      have c3 := hr.cell 3 _ rfl
      have c4 := hr.cell 4 _ rfl
      have c5 := hr.cell 5 _ rfl
      have c6 := hr.cell 6 _ rfl
      have c7 := hr.cell 7 _ rfl
      have c8 := hr.cell 8 _ rfl
      have c9 := hr.cell 9 _ rfl
      have c10 := hr.cell 10 _ rfl
      have fc0 := hr.free 0
      have fc1 := hr.free 1
      have fc2 := hr.free 2
      have fc3 := hr.free 3
      have fc4 := hr.free 4
      have fc5 := hr.free 5
      have fc6 := hr.free 6
      have fc7 := hr.free 7
      have fc8 := hr.free 8
      have fc9 := hr.free 9
      have fc10 := hr.free 10
      clear haR hnbR hr hWS hkS
      go_upto_region 5 with (fail)
      rw [HWR.out]
      clear z0 z1 z2 z3 z4 z5 z6 z7 z8 z9 z10 fz0 fz1 fz2 fz3 fz4 fz5 fz6 fz7 fz8 fz9 fz10
      go_upto_region 10 with (fail)
      rw [HWS.out]
      clear a0 a1 a2 a3 a4 j0 j1 j2 j3 j4 j5 j6 j7 j8 j9 c0 c1 c2 c3 c4 c5 c6 c7 c8 c9 c10 fc0 fc1 fc2 fc3 fc4 fc5 fc6 fc7 fc8 fc9 fc10
      have hrr := HRS.out
      have hbb := HBS.out
      unfold rsZ at hbb
      have c0 := hrr.cell 0 _ rfl
      have c1 := hrr.cell 1 _ rfl
      have c2 := hrr.cell 2 _ rfl
      have c3 := hrr.cell 3 _ rfl
      have c4 := hrr.cell 4 _ rfl
      have c5 := hrr.cell 5 _ rfl
      have c6 := hrr.cell 6 _ rfl
      have c7 := hrr.cell 7 _ rfl
      have c8 := hrr.cell 8 _ rfl
      have c9 := hrr.cell 9 _ rfl
      have c10 := hrr.cell 10 _ rfl
      have d0 := hbb.cell 0 _ rfl
      have d1 := hbb.cell 1 _ rfl
      have d2 := hbb.cell 2 _ rfl
      have d3 := hbb.cell 3 _ rfl
      have d4 := hbb.cell 4 _ rfl
      have d5 := hbb.cell 5 _ rfl
      have d6 := hbb.cell 6 _ rfl
      have d7 := hbb.cell 7 _ rfl
      have d8 := hbb.cell 8 _ rfl
      have d9 := hbb.cell 9 _ rfl
      have d10 := hbb.cell 10 _ rfl
      have fd0 := hbb.free 0
      have fd1 := hbb.free 1
      have fd2 := hbb.free 2
      have fd3 := hbb.free 3
      have fd4 := hbb.free 4
      have fd5 := hbb.free 5
      have fd6 := hbb.free 6
      have fd7 := hbb.free 7
      have fd8 := hbb.free 8
      have fd9 := hbb.free 9
      have fd10 := hbb.free 10
      clear hrr hbb
      go_wp2_with (fail)
      go_light
      refine bodyPost_ret (v := resA 0 p n.data (.slice none 0 0) n) (by simp [results, Tryz.results97, go_sem, resA, d0, d1, d2, d3, d4, d5, d6, d7, d8, d9, d10]) rfl ?_
      rw [HE.out]
      have k11 := fun W => kp_set11 W (w.heap.size + 1) (.int .i64 0) (.string p) (.string n.data) (.slice none 0 0) (.int .i64 n.made) (.int .i64 n.chg) (.int .i64 n.ver) (.int .i64 n.kids) (.int .i64 n.own) (.int .i64 n.len) (.int .i64 n.cnt)
      exact ⟨t, .slice none 0 0, rfl, own_nil _, HTS.out.aside HBS.out (by decide) (by decide) (by decide) (k11 wS), rfl, (Ext.kp HXS.out).next (k11 wS) (fun i hi e => by omega), Fresh.refl _ _⟩
    · have e5 : (k == 5) = false := by simpa using k5
      by_cases k7 : k = 7
      · subst k7
        have HE : Hid (R = (pl t, ⟨0, p, ⟨#[]⟩, n.names, n⟩)) := HE.out.trans (by simp)
        have HCL := Lib.hid (cloneS_any (.slice na n.names.length nc) n.names wR (names_own HNR.out) (by have := HNO.out.few; omega))
        have hr := HR.out
        unfold rsQ at hr
        unfold ndA at hnbR
        have a0 := haR.cell 0 _ rfl
        have a1 := haR.cell 1 _ rfl
        have a2 := haR.cell 2 _ rfl
        have a3 := haR.cell 3 _ rfl
        have a4 := haR.cell 4 _ rfl
        have j0 := hnbR.cell 0 _ rfl
        have j1 := hnbR.cell 1 _ rfl
        have j2 := hnbR.cell 2 _ rfl
        have j3 := hnbR.cell 3 _ rfl
        have j4 := hnbR.cell 4 _ rfl
        have j5 := hnbR.cell 5 _ rfl
        have j6 := hnbR.cell 6 _ rfl
        have j7 := hnbR.cell 7 _ rfl
        have j8 := hnbR.cell 8 _ rfl
        have j9 := hnbR.cell 9 _ rfl
        have c0 := hr.cell 0 _ rfl
        have c1 := hr.cell 1 _ rfl
        have c2 := hr.cell 2 _ rfl
        have c3 := hr.cell 3 _ rfl
        have c4 := hr.cell 4 _ rfl
        have c5 := hr.cell 5 _ rfl
        have c6 := hr.cell 6 _ rfl
        have c7 := hr.cell 7 _ rfl
        have c8 := hr.cell 8 _ rfl
        have c9 := hr.cell 9 _ rfl
        have c10 := hr.cell 10 _ rfl
        have fc0 := hr.free 0
        have fc1 := hr.free 1
        have fc2 := hr.free 2
        have fc3 := hr.free 3
        have fc4 := hr.free 4
        have fc5 := hr.free 5
        have fc6 := hr.free 6
        have fc7 := hr.free 7
        have fc8 := hr.free 8
        have fc9 := hr.free 9
        have fc10 := hr.free 10
        clear haR hnbR hr k5 e5
        go_upto_region 5 with (fail)
        rw [HWR.out]
        clear z0 z1 z2 z3 z4 z5 z6 z7 z8 z9 z10 fz0 fz1 fz2 fz3 fz4 fz5 fz6 fz7 fz8 fz9 fz10
        go_wp2_with (fail)
        refine HCL.out.mono ?_
        rintro e1 w6 ⟨nv6, rfl, ho6, hx6⟩
        obtain ⟨na6, nc6, rfl⟩ := owns_slice ho6
        have hr := HR.out.kp hx6 (fun f => f)
        obtain ⟨wS, hWS⟩ : ∃ wS, w6.setCell ⟨r6, 3, none⟩ (.slice na6 n.names.length nc6) = wS := ⟨_, rfl⟩
        have hkS : Kp (fun i => i = r6) w6 wS := by rw [← hWS]; exact (Kp.refl (fun i => i = r6) w6).set1 _ 3 _ rfl
        have HRS : Hid (Blk wS r6 #[.int .i64 0, .string p, .string ⟨#[]⟩, .slice na6 n.names.length nc6, .int .i64 n.made, .int .i64 n.chg, .int .i64 n.ver, .int .i64 n.kids, .int .i64 n.own, .int .i64 n.len, .int .i64 n.cnt] rsuT) := by show Blk _ _ _ _; rw [← hWS]; exact hr.set 3 _
        have HBS := Lib.hid ((HBR.out.kp hx6 (fun f => f)).kp hkS (by have := HSR.out; omega))
        have HTS := Lib.hid ((HTR.out.ext hx6).aside hr (by decide) (by decide) (by decide) hkS)
        have HXS : Hid (Ext w wS) := (HXW.out.ext hx6).next hkS (fun i hi e => by have := HSR.out; omega)
        have HOS := Lib.hid (owns_zero (ownsRow.kp ho6 hkS (fun i hi e => by have := (own_in ho6 hi).1; have := HR.out.lt; omega)))
        have HWS := Lib.hid hWS
        unfold rsQ at hr
        clear a0 a1 a2 a3 a4 j0 j1 j2 j3 j4 j5 j6 j7 j8 j9 c0 c1 c2 c3 c4 c5 c6 c7 c8 c9 c10 fc0 fc1 fc2 fc3 fc4 fc5 fc6 fc7 fc8 fc9 fc10
        have c0 := hr.cell 0 _ rfl
        have c1 := hr.cell 1 _ rfl
        have c2 := hr.cell 2 _ rfl
        have c3 := hr.cell 3 _ rfl
        have c4 := hr.cell 4 _ rfl
        have c5 := hr.cell 5 _ rfl
        have c6 := hr.cell 6 _ rfl
        have c7 := hr.cell 7 _ rfl
        have c8 := hr.cell 8 _ rfl
        have c9 := hr.cell 9 _ rfl
        have c10 := hr.cell 10 _ rfl
        have fc0 := hr.free 0
        have fc1 := hr.free 1
        have fc2 := hr.free 2
        have fc3 := hr.free 3
        have fc4 := hr.free 4
        have fc5 := hr.free 5
        have fc6 := hr.free 6
        have fc7 := hr.free 7
        have fc8 := hr.free 8
        have fc9 := hr.free 9
        have fc10 := hr.free 10
        clear hr hWS hkS hx6 ho6 HCL
        go_upto_region 10 with (fail)
        rw [HWS.out]
        clear c0 c1 c2 c3 c4 c5 c6 c7 c8 c9 c10 fc0 fc1 fc2 fc3 fc4 fc5 fc6 fc7 fc8 fc9 fc10
        have hrr := HRS.out
        have hbb := HBS.out
        unfold rsZ at hbb
        have c0 := hrr.cell 0 _ rfl
        have c1 := hrr.cell 1 _ rfl
        have c2 := hrr.cell 2 _ rfl
        have c3 := hrr.cell 3 _ rfl
        have c4 := hrr.cell 4 _ rfl
        have c5 := hrr.cell 5 _ rfl
        have c6 := hrr.cell 6 _ rfl
        have c7 := hrr.cell 7 _ rfl
        have c8 := hrr.cell 8 _ rfl
        have c9 := hrr.cell 9 _ rfl
        have c10 := hrr.cell 10 _ rfl
        have d0 := hbb.cell 0 _ rfl
        have d1 := hbb.cell 1 _ rfl
        have d2 := hbb.cell 2 _ rfl
        have d3 := hbb.cell 3 _ rfl
        have d4 := hbb.cell 4 _ rfl
        have d5 := hbb.cell 5 _ rfl
        have d6 := hbb.cell 6 _ rfl
        have d7 := hbb.cell 7 _ rfl
        have d8 := hbb.cell 8 _ rfl
        have d9 := hbb.cell 9 _ rfl
        have d10 := hbb.cell 10 _ rfl
        have fd0 := hbb.free 0
        have fd1 := hbb.free 1
        have fd2 := hbb.free 2
        have fd3 := hbb.free 3
        have fd4 := hbb.free 4
        have fd5 := hbb.free 5
        have fd6 := hbb.free 6
        have fd7 := hbb.free 7
        have fd8 := hbb.free 8
        have fd9 := hbb.free 9
        have fd10 := hbb.free 10
        clear hrr hbb
        go_wp2_with (fail)
        go_light
        refine bodyPost_ret (v := resA 0 p ⟨#[]⟩ (.slice na6 n.names.length nc6) n) (by simp [results, Tryz.results97, go_sem, resA, d0, d1, d2, d3, d4, d5, d6, d7, d8, d9, d10]) rfl ?_
        rw [HE.out]
        have k11 := fun W => kp_set11 W (w.heap.size + 1) (.int .i64 0) (.string p) (.string ⟨#[]⟩) (.slice na6 n.names.length nc6) (.int .i64 n.made) (.int .i64 n.chg) (.int .i64 n.ver) (.int .i64 n.kids) (.int .i64 n.own) (.int .i64 n.len) (.int .i64 n.cnt)
        exact ⟨t, _, rfl, own_aside HOS.out HBS.out (by decide) (k11 wS), HTS.out.aside HBS.out (by decide) (by decide) (by decide) (k11 wS), rfl, (Ext.kp HXS.out).next (k11 wS) (fun i hi e => by omega), Fresh.refl _ _⟩
      · have HE : Hid (R = (pl t, ⟨0, p, ⟨#[]⟩, [], n⟩)) := HE.out.trans (by simp [k5, k7])
        have e7 : (k == 7) = false := by simpa using k7
        have hr := HR.out
        unfold rsQ at hr
        have a0 := haR.cell 0 _ rfl
        have a1 := haR.cell 1 _ rfl
        have a2 := haR.cell 2 _ rfl
        have a3 := haR.cell 3 _ rfl
        have a4 := haR.cell 4 _ rfl
        have c0 := hr.cell 0 _ rfl
        have c1 := hr.cell 1 _ rfl
        have c2 := hr.cell 2 _ rfl
        have c3 := hr.cell 3 _ rfl
        have c4 := hr.cell 4 _ rfl
        have c5 := hr.cell 5 _ rfl
        have c6 := hr.cell 6 _ rfl
        have c7 := hr.cell 7 _ rfl
        have c8 := hr.cell 8 _ rfl
        have c9 := hr.cell 9 _ rfl
        have c10 := hr.cell 10 _ rfl
        have fc0 := hr.free 0
        have fc1 := hr.free 1
        have fc2 := hr.free 2
        have fc3 := hr.free 3
        have fc4 := hr.free 4
        have fc5 := hr.free 5
        have fc6 := hr.free 6
        have fc7 := hr.free 7
        have fc8 := hr.free 8
        have fc9 := hr.free 9
        have fc10 := hr.free 10
        clear haR hnbR hr k5 k7
        go_upto_region 5 with (fail)
        rw [HWR.out]
        clear z0 z1 z2 z3 z4 z5 z6 z7 z8 z9 z10 fz0 fz1 fz2 fz3 fz4 fz5 fz6 fz7 fz8 fz9 fz10
        have hbb := HBR.out
        unfold rsZ at hbb
        have d0 := hbb.cell 0 _ rfl
        have d1 := hbb.cell 1 _ rfl
        have d2 := hbb.cell 2 _ rfl
        have d3 := hbb.cell 3 _ rfl
        have d4 := hbb.cell 4 _ rfl
        have d5 := hbb.cell 5 _ rfl
        have d6 := hbb.cell 6 _ rfl
        have d7 := hbb.cell 7 _ rfl
        have d8 := hbb.cell 8 _ rfl
        have d9 := hbb.cell 9 _ rfl
        have d10 := hbb.cell 10 _ rfl
        have fd0 := hbb.free 0
        have fd1 := hbb.free 1
        have fd2 := hbb.free 2
        have fd3 := hbb.free 3
        have fd4 := hbb.free 4
        have fd5 := hbb.free 5
        have fd6 := hbb.free 6
        have fd7 := hbb.free 7
        have fd8 := hbb.free 8
        have fd9 := hbb.free 9
        have fd10 := hbb.free 10
        clear hbb
        go_wp2_with (fail)
        go_light
        refine bodyPost_ret (v := resA 0 p ⟨#[]⟩ (.slice none 0 0) n) (by simp [results, Tryz.results97, go_sem, resA, d0, d1, d2, d3, d4, d5, d6, d7, d8, d9, d10]) rfl ?_
        rw [HE.out]
        have k11 := fun W => kp_set11 W (w.heap.size + 1) (.int .i64 0) (.string p) (.string ⟨#[]⟩) (.slice none 0 0) (.int .i64 n.made) (.int .i64 n.chg) (.int .i64 n.ver) (.int .i64 n.kids) (.int .i64 n.own) (.int .i64 n.len) (.int .i64 n.cnt)
        exact ⟨t, .slice none 0 0, rfl, own_nil _, HTR.out.aside HBR.out (by decide) (by decide) (by decide) (k11 wR), rfl, (Ext.kp HXW.out).next (k11 wR) (fun i hi e => by omega), Fresh.refl _ _⟩
end Go.Proofs.YtdagikbdpeblhaaGreatDoor
