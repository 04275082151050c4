/- Texts put together: AvWTree, AvWTreeB, AvWTreeC. -/
import Derived.Test.YtjapjpigpakejaaGreatDoorAvG12
import Derived.Test.YtjapjpigpakejaaGreatDoorAvG14

/- Walks of package tree: New, fail, wrong, lay, Remove. -/
namespace Go.Proofs.YtjapjpigpakejaaGreatDoor
set_option maxRecDepth 100000
open Go.RowKit Av

abbrev rsuT : TypeId := 39
def NewPost (w : World) (room : Int) (e : Ending) (w' : World) : Prop := ∃ b m, e = .returned (.tuple #[.pointer (some ⟨b, 0, none⟩), .int .i64 0]) ∧ TreeR w' w.heap.size b m room [] ∧ Ext w w'
set_option maxHeartbeats 800000 in
theorem treeNew_any (room : Int) (w : World) (h1 : 1 ≤ room) (h2 : room ≤ 500) : Calls Tryz.prog 10 #[.int .i64 room] w fun e w' => NewPost w room e w' := by
  have hmm := @run_makeMap Tryz.prog
  have a1 : ¬ room < 1 := by omega
  have a2 : ¬ 500 < room := by omega
  go_enter Tryz.func10, Tryz.ntmps10
  go_wp2_with (fail)
  go_ret2
  go_light
  refine ⟨w.heap.size + 1, w.heap.size, rfl, ⟨⟨by omega, by omega, fun e he => by (cases he)⟩, ?_, ?_, fun e he => by (cases he), fun e he => by (cases he)⟩, ((Kp.refl _ _).alloc _).alloc _⟩
  · have := heap_alloc_new (w.alloc (.map #[] 0)) (.cells #[.int .i64 room, .map (some w.heap.size)] trT)
    rw [World.size_alloc] at this
    exact this
  · exact (MapK.new w).kp ((Kp.refl (fun _ => False) _).alloc _) (fun f => f)
/-- A result: err, path, data, names, stat. -/
def resA (e : Int) (p d : ByteArray) (nv : Value) (n : NodeV) : Value := .agg #[.int .i64 e, .string p, .string d, nv, .int .i64 n.made, .int .i64 n.chg, .int .i64 n.ver, .int .i64 n.kids, .int .i64 n.own, .int .i64 n.len, .int .i64 n.cnt]
def ndZ : NodeV := ⟨0, 0, 0, 0, 0, 0, 0, ⟨#[]⟩, 0, []⟩
set_option maxHeartbeats 800000 in
theorem fail_any (z : Int) (w : World) : Calls Tryz.prog 68 #[.int .i64 z] w fun e w' => e = .returned (resA z ⟨#[]⟩ ⟨#[]⟩ (.slice none 0 0) ndZ) ∧ Ext w w' := by
  go_enter Tryz.func68, Tryz.ntmps68
  obtain ⟨wA, hWA⟩ : ∃ wA, w.alloc (.cells #[.int .i64 z, .string ⟨#[]⟩, .string ⟨#[]⟩, .slice none 0 0, .int .i64 0, .int .i64 0, .int .i64 0, .int .i64 0, .int .i64 0, .int .i64 0, .int .i64 0] rsuT) = wA := ⟨_, rfl⟩
  have hxA : Ext w wA := by rw [← hWA]; exact (Kp.refl _ _).alloc _
  have hA : Blk wA w.heap.size #[.int .i64 z, .string ⟨#[]⟩, .string ⟨#[]⟩, .slice none 0 0, .int .i64 0, .int .i64 0, .int .i64 0, .int .i64 0, .int .i64 0, .int .i64 0, .int .i64 0] rsuT := by rw [← hWA]; exact heap_alloc_new w _
  have g0 := hA.cell 0 _ rfl
  have g1 := hA.cell 1 _ rfl
  have g2 := hA.cell 2 _ rfl
  have g3 := hA.cell 3 _ rfl
  have g4 := hA.cell 4 _ rfl
  have g5 := hA.cell 5 _ rfl
  have g6 := hA.cell 6 _ rfl
  have g7 := hA.cell 7 _ rfl
  have g8 := hA.cell 8 _ rfl
  have g9 := hA.cell 9 _ rfl
  have g10 := hA.cell 10 _ rfl
  have HWA := Lib.hid hWA
  have HXA := Lib.hid hxA
  clear hWA hxA hA
  go_wp2_with (fail)
  rw [HWA.out]
  go_light
  exact bodyPost_ret (v := resA z ⟨#[]⟩ ⟨#[]⟩ (.slice none 0 0) ndZ) (by simp [results, Tryz.results68, go_sem, resA, ndZ, g0, g1, g2, g3, g4, g5, g6, g7, g8, g9, g10]) rfl ⟨rfl, HXA.out⟩
set_option maxHeartbeats 800000 in
theorem wrong_any (k ver f : Int) (p d : ByteArray) (g : Nat) (n : NodeV) (w : World) (h : NdAt w g n) : Calls Tryz.prog 100 #[.agg #[.int .i64 k, .string p, .string d, .int .i64 ver, .int .i64 f], .pointer (some ⟨g, 0, none⟩)] w fun e w' => e = .returned (.bool (ver != -1 && ver != n.ver)) ∧ Ext w w' := by
  obtain ⟨nv, hb, _⟩ := h
  obtain ⟨wA, hWA⟩ : ∃ wA, w.alloc (.cells #[.int .i64 k, .string p, .string d, .int .i64 ver, .int .i64 f] 30) = wA := ⟨_, rfl⟩
  have hxA : Ext w wA := by rw [← hWA]; exact (Kp.refl _ _).alloc _
  have hA : Blk wA w.heap.size #[.int .i64 k, .string p, .string d, .int .i64 ver, .int .i64 f] 30 := by rw [← hWA]; exact heap_alloc_new w _
  have H3 := Lib.hid (hA.cell 3 _ rfl)
  have HV := Lib.hid ((hb.kp hxA (fun f => f)).cell 2 (.int .i64 n.ver) rfl)
  generalize n.ver = nver at HV ⊢
  have HWA := Lib.hid hWA
  have HXA := Lib.hid hxA
  clear hWA hxA hA hb
  go_enter Tryz.func100, Tryz.ntmps100
  go_upto_region 1 with (fail)
  rw [HWA.out]
  by_cases h1 : ver = -1
  · have E1 : Hid ((ver != -1) = false) := by show _ = _; rw [h1]; rfl
    clear h1
    refine' wp_region_dag0 ((5, .val _) :: (6, .val _) :: (7, .val _) :: (8, .val _) :: (9, .val _) :: (10, .val _) :: (11, .val _) :: (12, .val _) :: (13, .val _) :: (14, .val _) :: (15, .val _) :: (16, .val _) :: (17, .val _) :: (4, .val _) :: []) (by exact ⟨fun _ _ _ _ _ => trivial, ⟨fun _ _ _ _ _ => trivial, ⟨fun _ _ _ _ _ => trivial, ⟨fun _ _ _ _ _ => trivial, ⟨fun _ _ _ _ _ => trivial, ⟨fun _ _ _ _ _ => trivial, ⟨fun _ _ _ _ _ => trivial, ⟨fun _ _ _ _ _ => trivial, ⟨fun _ _ _ _ _ => trivial, ⟨fun _ _ _ _ _ => trivial, ⟨fun _ _ _ _ _ => trivial, ⟨fun _ _ _ _ _ => trivial, ⟨fun _ _ _ _ _ => trivial, ⟨fun _ _ _ _ _ => trivial, trivial⟩⟩⟩⟩⟩⟩⟩⟩⟩⟩⟩⟩⟩⟩) (by kernel_rfl) (by kernel_rfl) (by kernel_rfl) ?_
    rotate_left 14
    repeat (first
      | (refine wpD_skipv ?_ ?_ ?_
         focus rfl
         focus rfl
         simp only [Act.put, List.setIfInBounds_toArray, List.set_cons_succ, List.set_cons_zero])
      | (refine' wpD_val (c := _) ?_ (fun w => Kp.refl _ w) ?_ (fun wq hwq hfq => ?_) ?_
         rotate_left
         focus rfl
         focus rfl
         focus ((have h3 := hwq.cell H3.out (fun f => f); have e1 := E1.out); go_simp; first | done | rfl)
         simp only [Act.put, List.setIfInBounds_toArray, List.set_cons_succ, List.set_cons_zero])
      | (refine' wpD_con (c := _) ?_ ?_ (fun wq hwq hfq => ?_) ?_
         rotate_left
         focus rfl
         focus rfl
         focus ((have h3 := hwq.cell H3.out (fun f => f); have e1 := E1.out); go_simp; (try (rw [dUpon_enter])); fail)
         simp only [Act.put, List.setIfInBounds_toArray, List.set_cons_succ, List.set_cons_zero])
      | fail)
    refine wpD_nil ?_
    intro w5 hx5 hend
    clear hend
    have HX5 := Lib.hid (HXA.out.ext hx5)
    clear hx5
    go_wp2_with (fail)
    go_ret
    go_light
    exact ⟨ret_bool (by rw [E1.out]; rfl), HX5.out⟩
  · have E1 : Hid ((ver != -1) = true) := by show _ = _; simpa using h1
    clear h1
    refine' wp_region_dag0 ((5, .val _) :: (6, .val _) :: (7, .val _) :: (8, .val _) :: (9, .val _) :: (10, .val _) :: (11, .val _) :: (12, .val _) :: (13, .val _) :: (14, .val _) :: (15, .val _) :: (16, .val _) :: (17, .val _) :: (4, .val _) :: []) (by exact ⟨fun _ _ _ _ _ => trivial, ⟨fun _ _ _ _ _ => trivial, ⟨fun _ _ _ _ _ => trivial, ⟨fun _ _ _ _ _ => trivial, ⟨fun _ _ _ _ _ => trivial, ⟨fun _ _ _ _ _ => trivial, ⟨fun _ _ _ _ _ => trivial, ⟨fun _ _ _ _ _ => trivial, ⟨fun _ _ _ _ _ => trivial, ⟨fun _ _ _ _ _ => trivial, ⟨fun _ _ _ _ _ => trivial, ⟨fun _ _ _ _ _ => trivial, ⟨fun _ _ _ _ _ => trivial, ⟨fun _ _ _ _ _ => trivial, trivial⟩⟩⟩⟩⟩⟩⟩⟩⟩⟩⟩⟩⟩⟩) (by kernel_rfl) (by kernel_rfl) (by kernel_rfl) ?_
    rotate_left 14
    repeat (first
      | (refine wpD_skipv ?_ ?_ ?_
         focus rfl
         focus rfl
         simp only [Act.put, List.setIfInBounds_toArray, List.set_cons_succ, List.set_cons_zero])
      | (refine' wpD_val (c := _) ?_ (fun w => Kp.refl _ w) ?_ (fun wq hwq hfq => ?_) ?_
         rotate_left
         focus rfl
         focus rfl
         focus ((have h3 := hwq.cell H3.out (fun f => f); have hv := hwq.cell HV.out (fun f => f); have e1 := E1.out); go_simp; first | done | rfl)
         simp only [Act.put, List.setIfInBounds_toArray, List.set_cons_succ, List.set_cons_zero])
      | (refine' wpD_con (c := _) ?_ ?_ (fun wq hwq hfq => ?_) ?_
         rotate_left
         focus rfl
         focus rfl
         focus ((have h3 := hwq.cell H3.out (fun f => f); have hv := hwq.cell HV.out (fun f => f); have e1 := E1.out); go_simp; (try (rw [dUpon_enter])); fail)
         simp only [Act.put, List.setIfInBounds_toArray, List.set_cons_succ, List.set_cons_zero])
      | fail)
    refine wpD_nil ?_
    intro w5 hx5 hend
    clear hend
    have HX5 := Lib.hid (HXA.out.ext hx5)
    clear hx5
    go_wp2_with (fail)
    go_ret
    go_light
    exact ⟨ret_bool (by rw [E1.out]; rfl), HX5.out⟩
end Go.Proofs.YtjapjpigpakejaaGreatDoor

/- Walks of package tree: lay, Remove. -/
namespace Go.Proofs.YtjapjpigpakejaaGreatDoor
set_option maxRecDepth 100000
open Go.RowKit Av

/-- What a node's numbers and names are. -/
structure NodeOk (n : NodeV) : Prop where
  rise : Rising n.names
  few : n.names.length ≤ 100000
  ver : -9223372036854775808 ≤ n.ver
  kids : -9223372036854775808 ≤ n.kids
  next : -9223372036854775808 ≤ n.next
def TrOk (t : Tr) : Prop := ∀ e ∈ t, NodeOk e.2.2
/-- A parent hears of its child. -/
def tellUp (f : NodeV → Bs → NodeV) (t : Tr) (p : ByteArray) : Tr := match parentL p.data.toList with
  | none => t
  | some up => match mget t ⟨up.toArray⟩ with
    | none => t
    | some (g, n) => mset t ⟨up.toArray⟩ (g, f n (lastL p.data.toList))
def nodeFr (m : Nat) (t : Tr) (i : Nat) : Prop := i = m ∨ ∃ e ∈ t, i = e.2.1
theorem zPtr (w : World) : (zeroValue 83).run Tryz.prog w = .ok (.pointer none) w := by kernel_rfl
theorem tree_look {w : World} {base b m : Nat} {room : Int} {t : Tr} (h : TreeR w base b m room t) (p : ByteArray) : (Instr.lookup 75 (.map (some m)) (.string p) false).run Tryz.prog w = .ok (((mget t p).map fun e => Value.pointer (some ⟨e.1, 0, none⟩)).getD (.pointer none)) w := by
  have := MapK.lookup kStr tNodes h.map (.pointer none) zPtr p false
  rw [mget_ptrs] at this
  exact this
/-- What old memory keeps. -/
theorem gl_keep {w0 w w' : World} {base b m : Nat} {room : Int} {t : Tr} (hG : GL w0) (hb : w0.heap.size ≤ base) (hT : TreeR w base b m room t) (hw : GL w) (k : Kp (nodeFr m t) w w') : GL w' := by
  obtain ⟨x, hx⟩ := hG
  have hlt := World.block_lt_of_cell? w0 _ hx
  refine hw.kp k (fun hs => ?_)
  rcases hs with hs | ⟨e, he, hs⟩
  · have := hT.low.2.1
    simp only at hlt
    omega
  · have := hT.low.2.2 e he
    simp only at hlt
    omega
def LayPost (w : World) (base b m : Nat) (room : Int) (t : Tr) (p : ByteArray) (n : NodeV) (e : Ending) (w' : World) : Prop :=
  (∃ u, e = .returned u) ∧ ∃ g, w.heap.size ≤ g ∧ TreeR w' base b m room (tellUp ndAdd (mset t p (g, n)) p) ∧ Kp (nodeFr m t) w w'
def lookV (t : Tr) (p : ByteArray) : Value := ((mget t p).map fun e => Value.pointer (some ⟨e.1, 0, none⟩)).getD (.pointer none)
theorem mset_ok {t : Tr} (h : TrOk t) (hk : (t.map (·.1)).Nodup) {p : ByteArray} {g : Nat} {n : NodeV} (hn : NodeOk n) : TrOk (mset t p (g, n)) := by
  intro e he
  rcases mem_mset hk he with rfl | ⟨he, _⟩
  · exact hn
  · exact h e he
set_option maxHeartbeats 3200000 in
theorem treeLay_any (base b m : Nat) (room : Int) (t : Tr) (p : ByteArray) (n : NodeV) (nv : Value) (w0 w : World) (hT : TreeR w base b m room t) (hok : TrOk t) (hn : NodeOk n) (hown : w.ownsRow 0 strT 1 nv n.names.length (n.names.map encStr)) (hG0 : GL w0) (hb0 : w0.heap.size ≤ base) (hG : GL w) (hp : p.size ≤ 1000000) :
    Calls Tryz.prog 99 #[.pointer (some ⟨b, 0, none⟩), .string p, .agg (ndA n nv)] w fun e w' => LayPost w base b m room t p n e w' := by
  obtain ⟨na, nc, rfl⟩ := owns_slice hown
  obtain ⟨wA, hWA⟩ : ∃ wA, w.alloc (.cells (ndA n (.slice na n.names.length nc)) ndT) = wA := ⟨_, rfl⟩
  have hxA : Ext w wA := by rw [← hWA]; exact (Kp.refl _ _).alloc _
  have hA : NdAt wA w.heap.size n := ⟨_, by rw [← hWA]; exact heap_alloc_new w _, ownsRow.ext hown hxA⟩
  have hTA := hT.ext hxA
  obtain ⟨wM, u1, u2, u3, u4⟩ := MapK.update kStr tNodes hTA.map p (.pointer (some ⟨w.heap.size, 0, none⟩))
  have hbw : base ≤ w.heap.size := by have := hT.low.1; have := hT.blk.lt; omega
  have hTM := hTA.lay hbw hA (fun e he e2 => by have := (hT.nod e he).lt; omega) u2 u3
  have hkM : Kp (nodeFr m t) w wM := (Ext.kp hxA).trans (u3.mono (fun i _ e => .inl e))
  have hGM := gl_keep hG0 hb0 hT hG hkM
  have HTM := Lib.hid hTM
  have HKM := Lib.hid hkM
  have HOK := Lib.hid (mset_ok (p := p) (g := w.heap.size) hok hT.keys hn)
  have c1 := hTA.blk.cell 1 _ rfl
  have HPA := Lib.hid (Parent_any p wM hGM (by unfold maxLen; omega))
  have HNA := Lib.hid (fun W (hx : Ext wM W) => pathName_any p W (hGM.ext hx) (by unfold maxLen; omega))
  have HWA := Lib.hid hWA
  have HU1 := Lib.hid u1
  generalize ht1 : mset t p (w.heap.size, n) = t1 at HTM HOK
  have HT1 := Lib.hid ht1
  clear hT hok hn hown hG hG0 hb0 hp hWA hxA hA hTA u1 u2 u3 u4 hTM hkM hGM hbw ht1
  unfold ndA at HWA ⊢
  go_enter Tryz.func99, Tryz.ntmps99
  go_upto_region 1 with (fail)
  rw [HWA.out]
  have hu1 := HU1.out
  go_wp2_with (fail)
  refine HPA.out.mono ?_
  rintro e w2 ⟨rfl, hx2⟩
  have HT2 := Lib.hid (HTM.out.ext hx2)
  have HK2 := Lib.hid (HKM.out.ext hx2)
  have HX2 := Lib.hid hx2
  clear hx2 HPA hu1 c1
  cases hup : parentL p.data.toList with
  | none =>
    have HE : Hid (tellUp ndAdd t1 p = t1) := by show _ = _; unfold tellUp; rw [hup]
    clear hup
    go_wp2_with (fail)
    go_light
    exact bodyPost_end (results_none (by rfl) _ _ _) rfl ⟨⟨_, rfl⟩, w.heap.size, Nat.le_refl _, by rw [HT1.out, HE.out]; exact HT2.out, HK2.out⟩
  | some up =>
    have hlk := tree_look HT2.out ⟨up.toArray⟩
    have c1 := HT2.out.blk.cell 1 _ rfl
    have hos : optS (some up) = ⟨up.toArray⟩ := rfl
    rw [hos]
    cases hg : mget t1 ⟨up.toArray⟩ with
    | none =>
      have HE : Hid (tellUp ndAdd t1 p = t1) := by show _ = _; unfold tellUp; simp only [hup, hg]
      rw [hg] at hlk
      simp only [Option.map_none, Option.getD_none] at hlk
      clear hup hg hos
      go_wp2_with (fail)
      go_light
      exact bodyPost_end (results_none (by rfl) _ _ _) rfl ⟨⟨_, rfl⟩, w.heap.size, Nat.le_refl _, by rw [HT1.out, HE.out]; exact HT2.out, HK2.out⟩
    | some gn =>
      obtain ⟨g2, n2⟩ := gn
      have HE : Hid (tellUp ndAdd t1 p = mset t1 ⟨up.toArray⟩ (g2, ndAdd n2 (lastL p.data.toList))) := by show _ = _; unfold tellUp; simp only [hup, hg]
      rw [hg] at hlk
      simp only [Option.map_some, Option.getD_some] at hlk
      have HGE := Lib.hid hg
      have hmem := mget_mem hg
      have HOK2 := Lib.hid (HOK.out _ hmem)
      have HND := Lib.hid (HT2.out.nod _ hmem)
      have HLK := Lib.hid (fun W (hx : Ext w2 W) => by have := tree_look (HT2.out.ext hx) ⟨up.toArray⟩; rw [hg] at this; exact this)
      have HC1 := Lib.hid c1
      have HIN : Hid (g2 < w.heap.size → ∃ e ∈ t, g2 = e.2.1) := by
        intro hlt
        rw [← HT1.out] at hg
        rw [mget_mset] at hg
        by_cases hpu : (⟨up.toArray⟩ : ByteArray) = p
        · rw [if_pos hpu] at hg
          simp only [Option.some.injEq, Prod.mk.injEq] at hg
          omega
        · rw [if_neg hpu] at hg
          exact ⟨_, mget_mem hg, rfl⟩
      clear hup hg hos hmem
      go_upto_region 4 with (fail)
      refine' wp_region_dagK 8 [] ((28, .val _) :: (29, .val _) :: (30, .val _) :: (31, .val _) :: (32, .val _) :: (33, .val _) :: (34, .val _) :: (35, .val _) :: []) (by exact ⟨fun _ _ _ _ _ => trivial, ⟨fun _ _ _ _ _ => trivial, ⟨fun _ _ _ _ _ => trivial, ⟨fun _ _ _ _ _ => trivial, ⟨fun _ _ _ _ _ => trivial, ⟨fun _ _ _ _ _ => trivial, ⟨fun _ _ _ _ _ => trivial, ⟨fun _ _ _ _ _ => trivial, trivial⟩⟩⟩⟩⟩⟩⟩⟩) (by kernel_rfl) (by kernel_rfl) (by kernel_rfl) ?_
      rotate_left 8
      simp only [List.take_succ_cons, List.take_zero]
      repeat (first
        | (refine wpD_skipv ?_ ?_ ?_
           focus rfl
           focus rfl
           simp only [Act.put, List.setIfInBounds_toArray, List.set_cons_succ, List.set_cons_zero])
        | (refine' wpD_val (c := _) ?_ (fun w => Kp.refl _ w) ?_ (fun wq hwq hfq => ?_) ?_
           rotate_left
           focus rfl
           focus rfl
           focus ((have hext : Ext w2 wq := hwq.mono (fun i hi e => by omega); have c1 := hext.cell HC1.out (fun f => f); have hlk := HLK.out wq hext); go_simp; first | done | rfl)
           simp only [Act.put, List.setIfInBounds_toArray, List.set_cons_succ, List.set_cons_zero])
        | (refine' wpD_con (c := _) ?_ ?_ (fun wq hwq hfq => ?_) ?_
           rotate_left
           focus rfl
           focus rfl
           focus ((have hext : Ext w2 wq := hwq.mono (fun i hi e => by omega); have c1 := hext.cell HC1.out (fun f => f); have hlk := HLK.out wq hext); go_simp; (try (rw [dUpon_enter])); ((with_reducible refine (HNA.out _ (HX2.out.ext hext)).mono ?_); rintro e w' ⟨rfl, hx⟩; exact DEnd.con hx))
           simp only [Act.put, List.setIfInBounds_toArray, List.set_cons_succ, List.set_cons_zero])
        | fail)
      refine wpD_nil ?_
      intro w5 hx5 hend
      clear hend
      have hx5' : Ext w2 w5 := hx5.mono (fun i hi e => by omega)
      have HT5 := Lib.hid (HT2.out.ext hx5')
      have HK5 := Lib.hid (HK2.out.ext hx5')
      have HADD := Lib.hid (statAdd_any g2 n2 (lastL p.data.toList) w5 (HND.out.ext hx5') HOK2.out.rise HOK2.out.few HOK2.out.kids HOK2.out.next)
      clear hx5 hx5'
      go_wp2_with (fail)
      refine HADD.out.mono ?_
      rintro e w6 ⟨⟨u, rfl⟩, hnd6, hk6⟩
      have HT6 := Lib.hid (HT5.out.put HGE.out hnd6 hk6)
      have HK6 : Hid (Kp (nodeFr m t) w w6) := HK5.out.next hk6 (fun i hi e => by
        subst e
        exact .inr (HIN.out hi))
      clear hnd6 hk6
      go_wp2_with (fail)
      go_light
      exact bodyPost_end (results_none (by rfl) _ _ _) rfl ⟨⟨_, rfl⟩, w.heap.size, Nat.le_refl _, by rw [HT1.out, HE.out]; exact HT6.out, HK6.out⟩
end Go.Proofs.YtjapjpigpakejaaGreatDoor

/- Walks of package tree: Remove. -/
namespace Go.Proofs.YtjapjpigpakejaaGreatDoor
set_option maxRecDepth 100000
open Go.RowKit Av

def RemPost (w : World) (base b m : Nat) (room : Int) (t : Tr) (p : ByteArray) (e : Ending) (w' : World) : Prop :=
  (∃ u, e = .returned u) ∧ TreeR w' base b m room (tellUp ndRem (mdel t p) p) ∧ Kp (nodeFr m t) w w'
set_option maxHeartbeats 3200000 in
theorem treeRemove_any (base b m : Nat) (room : Int) (t : Tr) (p : ByteArray) (w0 w : World) (hT : TreeR w base b m room t) (hok : TrOk t) (hG0 : GL w0) (hb0 : w0.heap.size ≤ base) (hG : GL w) (hp : p.size ≤ 1000000) :
    Calls Tryz.prog 101 #[.pointer (some ⟨b, 0, none⟩), .string p] w fun e w' => RemPost w base b m room t p e w' := by
  obtain ⟨wM, u1, u2, u3, u4⟩ := MapK.delete kStr tNodes hT.map p
  have hTM := hT.del u2 u3
  have hkM : Kp (nodeFr m t) w wM := u3.mono (fun i _ e => .inl e)
  have hGM := gl_keep hG0 hb0 hT hG hkM
  have HTM := Lib.hid hTM
  have HKM := Lib.hid hkM
  have HOK : Hid (TrOk (mdel t p)) := fun e he => hok e (List.mem_filter.1 he).1
  have c1 := hT.blk.cell 1 _ rfl
  have HPA := Lib.hid (Parent_any p wM hGM (by unfold maxLen; omega))
  have HNA := Lib.hid (fun W (hx : Ext wM W) => pathName_any p W (hGM.ext hx) (by unfold maxLen; omega))
  have HU1 := Lib.hid u1
  generalize ht1 : mdel t p = t1 at HTM HOK
  have HT1 := Lib.hid ht1
  clear hT hok hG hG0 hb0 hp u1 u2 u3 u4 hTM hkM hGM ht1
  go_enter Tryz.func101, Tryz.ntmps101
  have hu1 := HU1.out
  go_wp2_with (fail)
  refine HPA.out.mono ?_
  rintro e w2 ⟨rfl, hx2⟩
  have HT2 := Lib.hid (HTM.out.ext hx2)
  have HK2 := Lib.hid (HKM.out.ext hx2)
  have HX2 := Lib.hid hx2
  clear hx2 HPA hu1 c1
  cases hup : parentL p.data.toList with
  | none =>
    have HE : Hid (tellUp ndRem t1 p = t1) := by show _ = _; unfold tellUp; rw [hup]
    clear hup
    go_wp2_with (fail)
    go_light
    exact bodyPost_end (results_none (by rfl) _ _ _) rfl ⟨⟨_, rfl⟩, by rw [HT1.out, HE.out]; exact HT2.out, HK2.out⟩
  | some up =>
    have hlk := tree_look HT2.out ⟨up.toArray⟩
    have c1 := HT2.out.blk.cell 1 _ rfl
    have hos : optS (some up) = ⟨up.toArray⟩ := rfl
    rw [hos]
    cases hg : mget t1 ⟨up.toArray⟩ with
    | none =>
      have HE : Hid (tellUp ndRem t1 p = t1) := by show _ = _; unfold tellUp; simp only [hup, hg]
      rw [hg] at hlk
      simp only [Option.map_none, Option.getD_none] at hlk
      clear hup hg hos
      go_wp2_with (fail)
      go_light
      exact bodyPost_end (results_none (by rfl) _ _ _) rfl ⟨⟨_, rfl⟩, by rw [HT1.out, HE.out]; exact HT2.out, HK2.out⟩
    | some gn =>
      obtain ⟨g2, n2⟩ := gn
      have HE : Hid (tellUp ndRem t1 p = mset t1 ⟨up.toArray⟩ (g2, ndRem n2 (lastL p.data.toList))) := by show _ = _; unfold tellUp; simp only [hup, hg]
      rw [hg] at hlk
      simp only [Option.map_some, Option.getD_some] at hlk
      have HGE := Lib.hid hg
      have hmem := mget_mem hg
      have HOK2 := Lib.hid (HOK.out _ hmem)
      have HND := Lib.hid (HT2.out.nod _ hmem)
      have HLK := Lib.hid (fun W (hx : Ext w2 W) => by have := tree_look (HT2.out.ext hx) ⟨up.toArray⟩; rw [hg] at this; exact this)
      have HC1 := Lib.hid c1
      have HIN : Hid (g2 < w.heap.size → ∃ e ∈ t, g2 = e.2.1) := by
        intro _
        rw [← HT1.out] at hmem
        exact ⟨_, (List.mem_filter.1 hmem).1, rfl⟩
      clear hup hg hos hmem
      go_upto_region 3 with (fail)
      refine' wp_region_dagK 8 [] ((26, .val _) :: (27, .val _) :: (28, .val _) :: (29, .val _) :: (30, .val _) :: (31, .val _) :: (32, .val _) :: (33, .val _) :: []) (by exact ⟨fun _ _ _ _ _ => trivial, ⟨fun _ _ _ _ _ => trivial, ⟨fun _ _ _ _ _ => trivial, ⟨fun _ _ _ _ _ => trivial, ⟨fun _ _ _ _ _ => trivial, ⟨fun _ _ _ _ _ => trivial, ⟨fun _ _ _ _ _ => trivial, ⟨fun _ _ _ _ _ => trivial, trivial⟩⟩⟩⟩⟩⟩⟩⟩) (by kernel_rfl) (by kernel_rfl) (by kernel_rfl) ?_
      rotate_left 8
      simp only [List.take_succ_cons, List.take_zero]
      repeat (first
        | (refine wpD_skipv ?_ ?_ ?_
           focus rfl
           focus rfl
           simp only [Act.put, List.setIfInBounds_toArray, List.set_cons_succ, List.set_cons_zero])
        | (refine' wpD_val (c := _) ?_ (fun w => Kp.refl _ w) ?_ (fun wq hwq hfq => ?_) ?_
           rotate_left
           focus rfl
           focus rfl
           focus ((have hext : Ext w2 wq := hwq.mono (fun i hi e => by omega); have c1 := hext.cell HC1.out (fun f => f); have hlk := HLK.out wq hext); go_simp; first | done | rfl)
           simp only [Act.put, List.setIfInBounds_toArray, List.set_cons_succ, List.set_cons_zero])
        | (refine' wpD_con (c := _) ?_ ?_ (fun wq hwq hfq => ?_) ?_
           rotate_left
           focus rfl
           focus rfl
           focus ((have hext : Ext w2 wq := hwq.mono (fun i hi e => by omega); have c1 := hext.cell HC1.out (fun f => f); have hlk := HLK.out wq hext); go_simp; (try (rw [dUpon_enter])); ((with_reducible refine (HNA.out _ (HX2.out.ext hext)).mono ?_); rintro e w' ⟨rfl, hx⟩; exact DEnd.con hx))
           simp only [Act.put, List.setIfInBounds_toArray, List.set_cons_succ, List.set_cons_zero])
        | fail)
      refine wpD_nil ?_
      intro w5 hx5 hend
      clear hend
      have hx5' : Ext w2 w5 := hx5.mono (fun i hi e => by omega)
      have HT5 := Lib.hid (HT2.out.ext hx5')
      have HK5 := Lib.hid (HK2.out.ext hx5')
      have HADD := Lib.hid (statRemove_any g2 n2 (lastL p.data.toList) w5 (HND.out.ext hx5') HOK2.out.rise HOK2.out.few HOK2.out.kids)
      clear hx5 hx5'
      go_wp2_with (fail)
      refine HADD.out.mono ?_
      rintro e w6 ⟨⟨u, rfl⟩, hnd6, hk6⟩
      have HT6 := Lib.hid (HT5.out.put HGE.out hnd6 hk6)
      have HK6 : Hid (Kp (nodeFr m t) w w6) := HK5.out.next hk6 (fun i hi e => by
        subst e
        exact .inr (HIN.out hi))
      clear hnd6 hk6
      go_wp2_with (fail)
      go_light
      exact bodyPost_end (results_none (by rfl) _ _ _) rfl ⟨⟨_, rfl⟩, by rw [HT1.out, HE.out]; exact HT6.out, HK6.out⟩
end Go.Proofs.YtjapjpigpakejaaGreatDoor
