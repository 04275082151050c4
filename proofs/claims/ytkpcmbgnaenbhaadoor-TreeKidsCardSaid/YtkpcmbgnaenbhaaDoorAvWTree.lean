/- Walks of package tree: New, fail, wrong, lay, Remove. -/
import Derived.Test.YtkpcmbgnaenbhaaDoorAvTree
import Derived.Test.YtkpcmbgnaenbhaaDoorAvWPathC
namespace Go.Proofs.YtkpcmbgnaenbhaaDoor
set_option maxRecDepth 100000
open Go.RowKit Av

abbrev rsuT : TypeId := 32
def NewPost (w : World) (room : Int) (e : Ending) (w' : World) : Prop := ∃ b m, e = .returned (.tuple #[.pointer (some ⟨b, 0, none⟩), .int .i64 0]) ∧ TreeR w' w.heap.size b m room [] ∧ Ext w w'
set_option maxHeartbeats 800000 in
theorem treeNew_any (room : Int) (w : World) (h1 : 1 ≤ room) (h2 : room ≤ 500) : Calls Tryd.prog 7 #[.int .i64 room] w fun e w' => NewPost w room e w' := by
  have hmm := @run_makeMap Tryd.prog
  have a1 : ¬ room < 1 := by omega
  have a2 : ¬ 500 < room := by omega
  go_enter Tryd.func7, Tryd.ntmps7
  go_wp2_with (fail)
  go_ret2
  go_light
  refine ⟨w.heap.size + 1, w.heap.size, rfl, ⟨⟨by omega, by omega, fun e he => by (cases he)⟩, ?_, ?_, fun e he => by (cases he), fun e he => by (cases he)⟩, ((Kp.refl _ _).alloc _).alloc _⟩
  · have := heap_alloc_new (w.alloc (.map #[] 0)) (.cells #[.int .i64 room, .map (some w.heap.size)] trT)
    rw [World.size_alloc] at this
    exact this
  · exact (MapK.new w).kp ((Kp.refl (fun _ => False) _).alloc _) (fun f => f)
/-- A result: err, path, data, names, stat. -/
def resA (e : Int) (p d : ByteArray) (nv : Value) (n : NodeV) : Value := .agg #[.int .i64 e, .string p, .string d, nv, .int .i64 n.made, .int .i64 n.chg, .int .i64 n.ver, .int .i64 n.kids, .int .i64 n.own, .int .i64 n.len, .int .i64 n.cnt]
def ndZ : NodeV := ⟨0, 0, 0, 0, 0, 0, 0, ⟨#[]⟩, 0, []⟩
set_option maxHeartbeats 800000 in
theorem fail_any (z : Int) (w : World) : Calls Tryd.prog 15 #[.int .i64 z] w fun e w' => e = .returned (resA z ⟨#[]⟩ ⟨#[]⟩ (.slice none 0 0) ndZ) ∧ Ext w w' := by
  go_enter Tryd.func15, Tryd.ntmps15
  obtain ⟨wA, hWA⟩ : ∃ wA, w.alloc (.cells #[.int .i64 z, .string ⟨#[]⟩, .string ⟨#[]⟩, .slice none 0 0, .int .i64 0, .int .i64 0, .int .i64 0, .int .i64 0, .int .i64 0, .int .i64 0, .int .i64 0] rsuT) = wA := ⟨_, rfl⟩
  have hxA : Ext w wA := by rw [← hWA]; exact (Kp.refl _ _).alloc _
  have hA : Blk wA w.heap.size #[.int .i64 z, .string ⟨#[]⟩, .string ⟨#[]⟩, .slice none 0 0, .int .i64 0, .int .i64 0, .int .i64 0, .int .i64 0, .int .i64 0, .int .i64 0, .int .i64 0] rsuT := by rw [← hWA]; exact heap_alloc_new w _
  have g0 := hA.cell 0 _ rfl
  have g1 := hA.cell 1 _ rfl
  have g2 := hA.cell 2 _ rfl
  have g3 := hA.cell 3 _ rfl
  have g4 := hA.cell 4 _ rfl
  have g5 := hA.cell 5 _ rfl
  have g6 := hA.cell 6 _ rfl
  have g7 := hA.cell 7 _ rfl
  have g8 := hA.cell 8 _ rfl
  have g9 := hA.cell 9 _ rfl
  have g10 := hA.cell 10 _ rfl
  have HWA := Lib.hid hWA
  have HXA := Lib.hid hxA
  clear hWA hxA hA
  go_wp2_with (fail)
  rw [HWA.out]
  go_light
  exact bodyPost_ret (v := resA z ⟨#[]⟩ ⟨#[]⟩ (.slice none 0 0) ndZ) (by simp [results, Tryd.results15, go_sem, resA, ndZ, g0, g1, g2, g3, g4, g5, g6, g7, g8, g9, g10]) rfl ⟨rfl, HXA.out⟩
set_option maxHeartbeats 800000 in
theorem wrong_any (k ver f : Int) (p d : ByteArray) (g : Nat) (n : NodeV) (w : World) (h : NdAt w g n) : Calls Tryd.prog 26 #[.agg #[.int .i64 k, .string p, .string d, .int .i64 ver, .int .i64 f], .pointer (some ⟨g, 0, none⟩)] w fun e w' => e = .returned (.bool (ver != -1 && ver != n.ver)) ∧ Ext w w' := by
  obtain ⟨nv, hb, _⟩ := h
  obtain ⟨wA, hWA⟩ : ∃ wA, w.alloc (.cells #[.int .i64 k, .string p, .string d, .int .i64 ver, .int .i64 f] 35) = wA := ⟨_, rfl⟩
  have hxA : Ext w wA := by rw [← hWA]; exact (Kp.refl _ _).alloc _
  have hA : Blk wA w.heap.size #[.int .i64 k, .string p, .string d, .int .i64 ver, .int .i64 f] 35 := by rw [← hWA]; exact heap_alloc_new w _
  have H3 := Lib.hid (hA.cell 3 _ rfl)
  have HV := Lib.hid ((hb.kp hxA (fun f => f)).cell 2 (.int .i64 n.ver) rfl)
  generalize n.ver = nver at HV ⊢
  have HWA := Lib.hid hWA
  have HXA := Lib.hid hxA
  clear hWA hxA hA hb
  go_enter Tryd.func26, Tryd.ntmps26
  go_upto_region 1 with (fail)
  rw [HWA.out]
  by_cases h1 : ver = -1
  · have E1 : Hid ((ver != -1) = false) := by show _ = _; rw [h1]; rfl
    clear h1
    refine' wp_region_dag0 ((5, .val _) :: (6, .val _) :: (7, .val _) :: (8, .val _) :: (9, .val _) :: (10, .val _) :: (11, .val _) :: (12, .val _) :: (13, .val _) :: (14, .val _) :: (15, .val _) :: (16, .val _) :: (17, .val _) :: (4, .val _) :: []) (by exact ⟨fun _ _ _ _ _ => trivial, ⟨fun _ _ _ _ _ => trivial, ⟨fun _ _ _ _ _ => trivial, ⟨fun _ _ _ _ _ => trivial, ⟨fun _ _ _ _ _ => trivial, ⟨fun _ _ _ _ _ => trivial, ⟨fun _ _ _ _ _ => trivial, ⟨fun _ _ _ _ _ => trivial, ⟨fun _ _ _ _ _ => trivial, ⟨fun _ _ _ _ _ => trivial, ⟨fun _ _ _ _ _ => trivial, ⟨fun _ _ _ _ _ => trivial, ⟨fun _ _ _ _ _ => trivial, ⟨fun _ _ _ _ _ => trivial, trivial⟩⟩⟩⟩⟩⟩⟩⟩⟩⟩⟩⟩⟩⟩) (by kernel_rfl) (by kernel_rfl) (by kernel_rfl) ?_
    rotate_left 14
    repeat (first
      | (refine wpD_skipv ?_ ?_ ?_
         focus rfl
         focus rfl
         simp only [Act.put, List.setIfInBounds_toArray, List.set_cons_succ, List.set_cons_zero])
      | (refine' wpD_val (c := _) ?_ (fun w => Kp.refl _ w) ?_ (fun wq hwq hfq => ?_) ?_
         rotate_left
         focus rfl
         focus rfl
         focus ((have h3 := hwq.cell H3.out (fun f => f); have e1 := E1.out); go_simp; first | done | rfl)
         simp only [Act.put, List.setIfInBounds_toArray, List.set_cons_succ, List.set_cons_zero])
      | (refine' wpD_con (c := _) ?_ ?_ (fun wq hwq hfq => ?_) ?_
         rotate_left
         focus rfl
         focus rfl
         focus ((have h3 := hwq.cell H3.out (fun f => f); have e1 := E1.out); go_simp; (try (rw [dUpon_enter])); fail)
         simp only [Act.put, List.setIfInBounds_toArray, List.set_cons_succ, List.set_cons_zero])
      | fail)
    refine wpD_nil ?_
    intro w5 hx5 hend
    clear hend
    have HX5 := Lib.hid (HXA.out.ext hx5)
    clear hx5
    go_wp2_with (fail)
    go_ret
    go_light
    exact ⟨ret_bool (by rw [E1.out]; rfl), HX5.out⟩
  · have E1 : Hid ((ver != -1) = true) := by show _ = _; simpa using h1
    clear h1
    refine' wp_region_dag0 ((5, .val _) :: (6, .val _) :: (7, .val _) :: (8, .val _) :: (9, .val _) :: (10, .val _) :: (11, .val _) :: (12, .val _) :: (13, .val _) :: (14, .val _) :: (15, .val _) :: (16, .val _) :: (17, .val _) :: (4, .val _) :: []) (by exact ⟨fun _ _ _ _ _ => trivial, ⟨fun _ _ _ _ _ => trivial, ⟨fun _ _ _ _ _ => trivial, ⟨fun _ _ _ _ _ => trivial, ⟨fun _ _ _ _ _ => trivial, ⟨fun _ _ _ _ _ => trivial, ⟨fun _ _ _ _ _ => trivial, ⟨fun _ _ _ _ _ => trivial, ⟨fun _ _ _ _ _ => trivial, ⟨fun _ _ _ _ _ => trivial, ⟨fun _ _ _ _ _ => trivial, ⟨fun _ _ _ _ _ => trivial, ⟨fun _ _ _ _ _ => trivial, ⟨fun _ _ _ _ _ => trivial, trivial⟩⟩⟩⟩⟩⟩⟩⟩⟩⟩⟩⟩⟩⟩) (by kernel_rfl) (by kernel_rfl) (by kernel_rfl) ?_
    rotate_left 14
    repeat (first
      | (refine wpD_skipv ?_ ?_ ?_
         focus rfl
         focus rfl
         simp only [Act.put, List.setIfInBounds_toArray, List.set_cons_succ, List.set_cons_zero])
      | (refine' wpD_val (c := _) ?_ (fun w => Kp.refl _ w) ?_ (fun wq hwq hfq => ?_) ?_
         rotate_left
         focus rfl
         focus rfl
         focus ((have h3 := hwq.cell H3.out (fun f => f); have hv := hwq.cell HV.out (fun f => f); have e1 := E1.out); go_simp; first | done | rfl)
         simp only [Act.put, List.setIfInBounds_toArray, List.set_cons_succ, List.set_cons_zero])
      | (refine' wpD_con (c := _) ?_ ?_ (fun wq hwq hfq => ?_) ?_
         rotate_left
         focus rfl
         focus rfl
         focus ((have h3 := hwq.cell H3.out (fun f => f); have hv := hwq.cell HV.out (fun f => f); have e1 := E1.out); go_simp; (try (rw [dUpon_enter])); fail)
         simp only [Act.put, List.setIfInBounds_toArray, List.set_cons_succ, List.set_cons_zero])
      | fail)
    refine wpD_nil ?_
    intro w5 hx5 hend
    clear hend
    have HX5 := Lib.hid (HXA.out.ext hx5)
    clear hx5
    go_wp2_with (fail)
    go_ret
    go_light
    exact ⟨ret_bool (by rw [E1.out]; rfl), HX5.out⟩
end Go.Proofs.YtkpcmbgnaenbhaaDoor
