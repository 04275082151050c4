/- Walks of package tree: Node, Len. -/
import Derived.Test.YtjapjpigpakejaaGreatDoorAvHWTreeC
namespace Go.Proofs.YtjapjpigpakejaaGreatDoor
set_option maxRecDepth 100000
open Go.RowKit Av

def nodeT (t : Tr) (p : ByteArray) : NodeV × Bool := match mget t p with
  | none => (ndZ, false)
  | some e => (e.2, true)
def NodePost (w : World) (x : NodeV × Bool) (e : Ending) (w' : World) : Prop :=
  ∃ nv, e = .returned (.tuple #[.agg (ndA x.1 nv), .bool x.2]) ∧ w'.ownsRow w.heap.size strT 1 nv x.1.names.length (x.1.names.map encStr) ∧ Ext w w'
def ndZA : Array Value := #[.int .i64 0, .int .i64 0, .int .i64 0, .int .i64 0, .int .i64 0, .int .i64 0, .int .i64 0, .string ⟨#[]⟩, .int .i64 0, .slice none 0 0]
def set10 (w : World) (r : Nat) (u0 u1 u2 u3 u4 u5 u6 u7 u8 u9 : Value) : World := (((((((((w.setCell ⟨r, 0, none⟩ u0).setCell ⟨r, 1, none⟩ u1).setCell ⟨r, 2, none⟩ u2).setCell ⟨r, 3, none⟩ u3).setCell ⟨r, 4, none⟩ u4).setCell ⟨r, 5, none⟩ u5).setCell ⟨r, 6, none⟩ u6).setCell ⟨r, 7, none⟩ u7).setCell ⟨r, 8, none⟩ u8).setCell ⟨r, 9, none⟩ u9
theorem kp_set10 (w : World) (r : Nat) (u0 u1 u2 u3 u4 u5 u6 u7 u8 u9 : Value) : Kp (fun i => i = r) w (set10 w r u0 u1 u2 u3 u4 u5 u6 u7 u8 u9) := by
  have k : ∀ {W : World} (i : Nat) (u : Value), Kp (fun i => i = r) w W → Kp (fun i => i = r) w (W.setCell ⟨r, i, none⟩ u) := fun i u h => h.set1 r i u rfl
  exact k 9 u9 (k 8 u8 (k 7 u7 (k 6 u6 (k 5 u5 (k 4 u4 (k 3 u3 (k 2 u2 (k 1 u1 (k 0 u0 (Kp.refl _ _))))))))))
set_option maxHeartbeats 3200000 in
theorem treeNode_any (base b m : Nat) (room : Int) (t : Tr) (p : ByteArray) (w : World) (hT : TreeR w base b m room t) (hok : TrOk t) :
    Calls Tryz.prog 14 #[.pointer (some ⟨b, 0, none⟩), .string p] w fun e w' => NodePost w (nodeT t p) e w' := by
  obtain ⟨wB, hWB⟩ : ∃ wB, w.alloc (.cells ndZA ndT) = wB := ⟨_, rfl⟩
  have hxB : Ext w wB := by rw [← hWB]; exact (Kp.refl _ _).alloc _
  have hB : Blk wB w.heap.size ndZA ndT := by rw [← hWB]; exact heap_alloc_new w _
  have HB := Lib.hid hB
  have HXB := Lib.hid hxB
  have hTB := hT.ext hxB
  have HTB := Lib.hid hTB
  unfold ndZA at hWB
  have HWB := Lib.hid hWB
  have HOK := Lib.hid hok
  have hlk := tree_look hTB p
  have c1 := hTB.blk.cell 1 _ rfl
  clear hWB hxB hB hTB hok hT
  cases hg : mget t p with
  | none =>
    have HE : Hid (nodeT t p = (ndZ, false)) := by show _ = _; unfold nodeT; rw [hg]
    rw [hg] at hlk
    simp only [Option.map_none, Option.getD_none] at hlk
    clear hg
    generalize nodeT t p = R at HE ⊢
    have hbb := HB.out
    unfold ndZA at hbb
    have d0 := hbb.cell 0 _ rfl
    have d1 := hbb.cell 1 _ rfl
    have d2 := hbb.cell 2 _ rfl
    have d3 := hbb.cell 3 _ rfl
    have d4 := hbb.cell 4 _ rfl
    have d5 := hbb.cell 5 _ rfl
    have d6 := hbb.cell 6 _ rfl
    have d7 := hbb.cell 7 _ rfl
    have d8 := hbb.cell 8 _ rfl
    have d9 := hbb.cell 9 _ rfl
    have fd0 := hbb.free 0
    have fd1 := hbb.free 1
    have fd2 := hbb.free 2
    have fd3 := hbb.free 3
    have fd4 := hbb.free 4
    have fd5 := hbb.free 5
    have fd6 := hbb.free 6
    have fd7 := hbb.free 7
    have fd8 := hbb.free 8
    have fd9 := hbb.free 9
    clear hbb
    go_enter Tryz.func14, Tryz.ntmps14
    go_upto_region 1 with (fail)
    rw [HWB.out]
    go_wp2_with (fail)
    go_light
    refine bodyPost_ret (v := .tuple #[.agg (ndA ndZ (.slice none 0 0)), .bool false]) (by simp [results, Tryz.results14, go_sem, ndA, ndZ, d0, d1, d2, d3, d4, d5, d6, d7, d8, d9]) rfl ?_
    rw [HE.out]
    have k10 := kp_set10 wB w.heap.size (.int .i64 0) (.int .i64 0) (.int .i64 0) (.int .i64 0) (.int .i64 0) (.int .i64 0) (.int .i64 0) (.string ⟨#[]⟩) (.int .i64 0) (.slice none 0 0)
    exact ⟨_, rfl, ⟨rfl, .inl ⟨rfl, rfl⟩⟩, HXB.out.next k10 (fun i hi e => by omega)⟩
  | some gn =>
    obtain ⟨g, n⟩ := gn
    have HE : Hid (nodeT t p = (n, true)) := by show _ = _; unfold nodeT; rw [hg]
    rw [hg] at hlk
    simp only [Option.map_some, Option.getD_some] at hlk
    have hmem := mget_mem hg
    have HNO := Lib.hid (HOK.out _ hmem)
    obtain ⟨nv, hnb, hno⟩ := HTB.out.nod _ hmem
    obtain ⟨na, nc, rfl⟩ := owns_slice hno
    have HCP := Lib.hid (statCopied_any n (.slice na n.names.length nc) wB (names_own hno) HNO.out.few)
    unfold ndA at HCP
    clear hg hmem hno
    generalize nodeT t p = R at HE ⊢
    unfold ndA at hnb
    have j0 := hnb.cell 0 _ rfl
    have j1 := hnb.cell 1 _ rfl
    have j2 := hnb.cell 2 _ rfl
    have j3 := hnb.cell 3 _ rfl
    have j4 := hnb.cell 4 _ rfl
    have j5 := hnb.cell 5 _ rfl
    have j6 := hnb.cell 6 _ rfl
    have j7 := hnb.cell 7 _ rfl
    have j8 := hnb.cell 8 _ rfl
    have j9 := hnb.cell 9 _ rfl
    clear hnb
    go_enter Tryz.func14, Tryz.ntmps14
    go_upto_region 1 with (fail)
    rw [HWB.out]
    go_wp2_with (fail)
    refine HCP.out.mono ?_
    rintro e1 w5 ⟨nv5, rfl, ho5, hx5⟩
    obtain ⟨na5, nc5, rfl⟩ := owns_slice ho5
    have hbb := HB.out.kp hx5 (fun f => f)
    have HO5 := Lib.hid ho5
    have HX5 := Lib.hid (HXB.out.ext hx5)
    unfold ndZA at hbb
    have d0 := hbb.cell 0 _ rfl
    have d1 := hbb.cell 1 _ rfl
    have d2 := hbb.cell 2 _ rfl
    have d3 := hbb.cell 3 _ rfl
    have d4 := hbb.cell 4 _ rfl
    have d5 := hbb.cell 5 _ rfl
    have d6 := hbb.cell 6 _ rfl
    have d7 := hbb.cell 7 _ rfl
    have d8 := hbb.cell 8 _ rfl
    have d9 := hbb.cell 9 _ rfl
    have fd0 := hbb.free 0
    have fd1 := hbb.free 1
    have fd2 := hbb.free 2
    have fd3 := hbb.free 3
    have fd4 := hbb.free 4
    have fd5 := hbb.free 5
    have fd6 := hbb.free 6
    have fd7 := hbb.free 7
    have fd8 := hbb.free 8
    have fd9 := hbb.free 9
    clear hbb hx5 ho5 HCP j0 j1 j2 j3 j4 j5 j6 j7 j8 j9 c1 hlk
    go_wp2_with (fail)
    go_light
    refine bodyPost_ret (v := .tuple #[.agg (ndA n (.slice na5 n.names.length nc5)), .bool true]) (by simp [results, Tryz.results14, go_sem, ndA, d0, d1, d2, d3, d4, d5, d6, d7, d8, d9]) rfl ?_
    rw [HE.out]
    have k10 := kp_set10 w5 w.heap.size (.int .i64 n.made) (.int .i64 n.chg) (.int .i64 n.ver) (.int .i64 n.kids) (.int .i64 n.own) (.int .i64 n.len) (.int .i64 n.cnt) (.string n.data) (.int .i64 n.next) (.slice na5 n.names.length nc5)
    exact ⟨_, rfl, own_less (ownsRow.kp HO5.out k10 (fun i hi e => by have h1 := (own_in HO5.out hi).1; have h2 := HB.out.lt; omega)) HXB.out.size, HX5.out.next k10 (fun i hi e => by omega)⟩
set_option maxHeartbeats 400000 in
theorem treeLen_any (base b m : Nat) (room : Int) (t : Tr) (w : World) (hT : TreeR w base b m room t) : Calls Tryz.prog 19 #[.pointer (some ⟨b, 0, none⟩)] w fun e w' => e = .returned (.int .i64 t.length) ∧ w = w' := by
  have c1 := hT.blk.cell 1 _ rfl
  have hl := MapK.len tNodes hT.map
  rw [show (ptrs t).length = t.length from List.length_map _] at hl
  clear hT
  go_enter Tryz.func19, Tryz.ntmps19
  go_wp2_with (fail)
  go_ret
  exact ⟨rfl, rfl⟩
end Go.Proofs.YtjapjpigpakejaaGreatDoor
