/- Walks of package plan: Results. -/
import Derived.Test.YtmgnndhhpnedkaaGreatDoorAvWPops
import Derived.Test.YtmgnndhhpnedkaaGreatDoorAvResLaw
namespace Go.Proofs.YtmgnndhhpnedkaaGreatDoor
set_option maxRecDepth 100000
open Go.RowKit Av

abbrev rsT : TypeId := 57
abbrev reT : TypeId := 64
theorem res_facts : ElemOk Tryz.prog rsT reT 11 := ⟨by kernel_rfl, by kernel_rfl⟩
theorem mk_res1 (w : World) : (Instr.makeSlice rsT (.int .i64 1) (.int .i64 1)).run Tryz.prog w = .ok (.slice (some ⟨w.heap.size, 0, none⟩) 1 1) (w.alloc (.cells ((List.replicate 1 resZ).flatMap rsC).toArray reT)) := by kernel_rfl
theorem mk_res2 (w : World) : (Instr.makeSlice rsT (.int .i64 2) (.int .i64 2)).run Tryz.prog w = .ok (.slice (some ⟨w.heap.size, 0, none⟩) 2 2) (w.alloc (.cells ((List.replicate 2 resZ).flatMap rsC).toArray reT)) := by kernel_rfl
theorem mk_res3 (w : World) : (Instr.makeSlice rsT (.int .i64 3) (.int .i64 3)).run Tryz.prog w = .ok (.slice (some ⟨w.heap.size, 0, none⟩) 3 3) (w.alloc (.cells ((List.replicate 3 resZ).flatMap rsC).toArray reT)) := by kernel_rfl
theorem mk_res4 (w : World) : (Instr.makeSlice rsT (.int .i64 4) (.int .i64 4)).run Tryz.prog w = .ok (.slice (some ⟨w.heap.size, 0, none⟩) 4 4) (w.alloc (.cells ((List.replicate 4 resZ).flatMap rsC).toArray reT)) := by kernel_rfl
theorem mk_res5 (w : World) : (Instr.makeSlice rsT (.int .i64 5) (.int .i64 5)).run Tryz.prog w = .ok (.slice (some ⟨w.heap.size, 0, none⟩) 5 5) (w.alloc (.cells ((List.replicate 5 resZ).flatMap rsC).toArray reT)) := by kernel_rfl
theorem mk_res6 (w : World) : (Instr.makeSlice rsT (.int .i64 6) (.int .i64 6)).run Tryz.prog w = .ok (.slice (some ⟨w.heap.size, 0, none⟩) 6 6) (w.alloc (.cells ((List.replicate 6 resZ).flatMap rsC).toArray reT)) := by kernel_rfl
theorem mk_res7 (w : World) : (Instr.makeSlice rsT (.int .i64 7) (.int .i64 7)).run Tryz.prog w = .ok (.slice (some ⟨w.heap.size, 0, none⟩) 7 7) (w.alloc (.cells ((List.replicate 7 resZ).flatMap rsC).toArray reT)) := by kernel_rfl
theorem mk_res8 (w : World) : (Instr.makeSlice rsT (.int .i64 8) (.int .i64 8)).run Tryz.prog w = .ok (.slice (some ⟨w.heap.size, 0, none⟩) 8 8) (w.alloc (.cells ((List.replicate 8 resZ).flatMap rsC).toArray reT)) := by kernel_rfl
theorem mk_res9 (w : World) : (Instr.makeSlice rsT (.int .i64 9) (.int .i64 9)).run Tryz.prog w = .ok (.slice (some ⟨w.heap.size, 0, none⟩) 9 9) (w.alloc (.cells ((List.replicate 9 resZ).flatMap rsC).toArray reT)) := by kernel_rfl
theorem mk_res10 (w : World) : (Instr.makeSlice rsT (.int .i64 10) (.int .i64 10)).run Tryz.prog w = .ok (.slice (some ⟨w.heap.size, 0, none⟩) 10 10) (w.alloc (.cells ((List.replicate 10 resZ).flatMap rsC).toArray reT)) := by kernel_rfl
theorem mk_res11 (w : World) : (Instr.makeSlice rsT (.int .i64 11) (.int .i64 11)).run Tryz.prog w = .ok (.slice (some ⟨w.heap.size, 0, none⟩) 11 11) (w.alloc (.cells ((List.replicate 11 resZ).flatMap rsC).toArray reT)) := by kernel_rfl
theorem mk_res12 (w : World) : (Instr.makeSlice rsT (.int .i64 12) (.int .i64 12)).run Tryz.prog w = .ok (.slice (some ⟨w.heap.size, 0, none⟩) 12 12) (w.alloc (.cells ((List.replicate 12 resZ).flatMap rsC).toArray reT)) := by kernel_rfl
theorem mk_res13 (w : World) : (Instr.makeSlice rsT (.int .i64 13) (.int .i64 13)).run Tryz.prog w = .ok (.slice (some ⟨w.heap.size, 0, none⟩) 13 13) (w.alloc (.cells ((List.replicate 13 resZ).flatMap rsC).toArray reT)) := by kernel_rfl
theorem mk_res14 (w : World) : (Instr.makeSlice rsT (.int .i64 14) (.int .i64 14)).run Tryz.prog w = .ok (.slice (some ⟨w.heap.size, 0, none⟩) 14 14) (w.alloc (.cells ((List.replicate 14 resZ).flatMap rsC).toArray reT)) := by kernel_rfl
theorem mk_res15 (w : World) : (Instr.makeSlice rsT (.int .i64 15) (.int .i64 15)).run Tryz.prog w = .ok (.slice (some ⟨w.heap.size, 0, none⟩) 15 15) (w.alloc (.cells ((List.replicate 15 resZ).flatMap rsC).toArray reT)) := by kernel_rfl
theorem mk_res16 (w : World) : (Instr.makeSlice rsT (.int .i64 16) (.int .i64 16)).run Tryz.prog w = .ok (.slice (some ⟨w.heap.size, 0, none⟩) 16 16) (w.alloc (.cells ((List.replicate 16 resZ).flatMap rsC).toArray reT)) := by kernel_rfl
theorem mk_res (n : Nat) (h1 : 1 ≤ n) (h4 : n ≤ 16) (w : World) : (Instr.makeSlice rsT (.int .i64 n) (.int .i64 n)).run Tryz.prog w = .ok (.slice (some ⟨w.heap.size, 0, none⟩) n n) (w.alloc (.cells ((List.replicate n resZ).flatMap rsC).toArray reT)) := by
  have : n = 1 ∨ n = 2 ∨ n = 3 ∨ n = 4 ∨ n = 5 ∨ n = 6 ∨ n = 7 ∨ n = 8 ∨ n = 9 ∨ n = 10 ∨ n = 11 ∨ n = 12 ∨ n = 13 ∨ n = 14 ∨ n = 15 ∨ n = 16 := by omega
  rcases this with rfl | rfl | rfl | rfl | rfl | rfl | rfl | rfl | rfl | rfl | rfl | rfl | rfl | rfl | rfl | rfl
  · exact mk_res1 w
  · exact mk_res2 w
  · exact mk_res3 w
  · exact mk_res4 w
  · exact mk_res5 w
  · exact mk_res6 w
  · exact mk_res7 w
  · exact mk_res8 w
  · exact mk_res9 w
  · exact mk_res10 w
  · exact mk_res11 w
  · exact mk_res12 w
  · exact mk_res13 w
  · exact mk_res14 w
  · exact mk_res15 w
  · exact mk_res16 w
set_option maxHeartbeats 400000 in
theorem cloneNil_any (w : World) : Calls Tryz.prog 39 #[.slice none 0 0] w fun e w' => e = .returned (.slice none 0 0) ∧ w = w' := by
  have q22 : ∀ (w : World) (a : Option Addr) (n c n' c' : Nat), (binOp .eql 60 (.slice a n c) (.slice none n' c')).run Tryz.prog w = .ok (.bool a.isNone) w := fun w a n c n' c' => Lib.run_eql_slice_nil w _ _ a n c n' c' Tryz.underlying60
  go_enter Tryz.func39, Tryz.ntmps39
  go_wp2_with (fail)
  go_ret
  exact ⟨rfl, rfl⟩
set_option maxHeartbeats 800000 in
theorem places0_any (s n i : Int) (ov sv plv : Value) (xs : List OpV) (ss : List Nat) (pl : List (List Nat)) (w0 w : World) (h : PlanR w0 ov sv plv xs ss pl) (hx0 : Ext w0 w) :
    Calls Tryz.prog 37 #[planV s n ov sv plv, .int .i64 i] w fun e w' => ∃ v, e = .returned v ∧ NatsR w0 v (plAt pl i) ∧ Ext w w' := by
  have HP := Lib.hid h
  obtain ⟨⟨a1, c1, rfl⟩, ⟨a2, c2, rfl⟩, a3, c3, rfl⟩ := h.open
  clear h
  unfold planV
  by_cases hi : i < 0
  · have HE : Hid (plAt pl i = []) := by show _ = _; unfold plAt; rw [if_pos (.inl hi)]
    go_enter Tryz.func37, Tryz.ntmps37
    go_wp2_with (fail)
    go_ret
    exact ⟨_, rfl, by rw [HE.out]; exact NatsR.nil _, (Kp.refl _ _).alloc _⟩
  · by_cases hj : (pl.length : Int) ≤ i
    · have HE : Hid (plAt pl i = []) := by show _ = _; unfold plAt; rw [if_pos (.inr hj)]
      go_enter Tryz.func37, Tryz.ntmps37
      go_wp2_with (fail)
      go_ret
      exact ⟨_, rfl, by rw [HE.out]; exact NatsR.nil _, (Kp.refl _ _).alloc _⟩
    · obtain ⟨k, rfl⟩ := Int.eq_ofNat_of_zero_le (show 0 ≤ i by omega)
      have hk : k < pl.length := by omega
      have HE : Hid (plAt pl k = pl[k]) := by show _ = _; rw [plAt_nat]; simp [List.getD, List.getElem?_eq_getElem hk]
      obtain ⟨b, off, a', c', rfl, hc, hn⟩ := HP.out.row k hk
      obtain ⟨wB, hWB⟩ : ∃ wB, w.alloc (.cells #[.int .i64 s, .int .i64 n, .slice a1 xs.length c1, .slice a2 ss.length c2, .slice (some ⟨b, off, none⟩) pl.length c3] plT) = wB := ⟨_, rfl⟩
      have hxB : Ext w wB := by rw [← hWB]; exact (Kp.refl _ _).alloc _
      have hbB : Blk wB w.heap.size #[.int .i64 s, .int .i64 n, .slice a1 xs.length c1, .slice a2 ss.length c2, .slice (some ⟨b, off, none⟩) pl.length c3] plT := by rw [← hWB]; exact heap_alloc_new w _
      have hc' := (hx0.ext hxB).cell hc (fun f => f)
      have c4 := hbB.cell 4 _ rfl
      have k1 : (k : Int) < pl.length := by omega
      have HN := Lib.hid hn
      have HX := Lib.hid hxB
      clear hn hxB hbB hc HP
      go_enter Tryz.func37, Tryz.ntmps37
      go_wp2_with (fail)
      go_ret
      exact ⟨_, rfl, by rw [HE.out]; exact HN.out, HX.out⟩
end Go.Proofs.YtmgnndhhpnedkaaGreatDoor
