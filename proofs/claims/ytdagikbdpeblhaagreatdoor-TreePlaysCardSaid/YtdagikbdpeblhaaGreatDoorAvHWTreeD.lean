/- Walks of package tree: place. -/
import Derived.Test.YtdagikbdpeblhaaGreatDoorAvHWTreeC
namespace Go.Proofs.YtdagikbdpeblhaaGreatDoor
set_option maxRecDepth 100000
open Go.RowKit Av

/-- Where a node would be laid, or why not. -/
def finP (room : Int) (t : Tr) (p : ByteArray) : ByteArray × Int := if (mget t p).isSome = true then (⟨#[]⟩, 5) else if room ≤ (t.length : Int) then (⟨#[]⟩, 9) else (p, 0)
def seqF (f : Int) : Bool := decide (2 ≤ f)
def placeT (room : Int) (t : Tr) (p : ByteArray) (f : Int) : ByteArray × Int := match parentL p.data.toList with
  | none => finP room t p
  | some up => match mget t ⟨up.toArray⟩ with
    | none => (⟨#[]⟩, 4)
    | some (_, n) => if n.own ≠ 0 then (⟨#[]⟩, 8) else if seqF f = true then (match numberL p.data.toList n.next with
      | none => (⟨#[]⟩, 1)
      | some q => finP room t ⟨q.toArray⟩) else finP room t p
set_option maxHeartbeats 6400000 in
theorem place_any (base b m : Nat) (room : Int) (t : Tr) (k : Int) (p d : ByteArray) (v f : Int) (w : World) (hT : TreeR w base b m room t) (hG : GT w) (hp : p.size ≤ 1000000) (hf0 : 0 ≤ f) (hf3 : f ≤ 3) :
    Calls Tryz.prog 134 #[.pointer (some ⟨b, 0, none⟩), .agg #[.int .i64 k, .string p, .string d, .int .i64 v, .int .i64 f]] w fun e w' => e = .returned (.tuple #[.string (placeT room t p f).1, .int .i64 (placeT room t p f).2]) ∧ Ext w w' := by
  obtain ⟨wA, hWA⟩ : ∃ wA, w.alloc (.cells #[.int .i64 k, .string p, .string d, .int .i64 v, .int .i64 f] 33) = wA := ⟨_, rfl⟩
  have hxA : Ext w wA := by rw [← hWA]; exact (Kp.refl _ _).alloc _
  have hA : Blk wA w.heap.size #[.int .i64 k, .string p, .string d, .int .i64 v, .int .i64 f] 33 := by rw [← hWA]; exact heap_alloc_new w _
  have HA := Lib.hid hA
  have HXA := Lib.hid hxA
  have HTA := Lib.hid (hT.ext hxA)
  have HWA := Lib.hid hWA
  have HPA := Lib.hid (Parent_any p wA (hG.gl.ext hxA) (by unfold maxLen; omega))
  have HNU := Lib.hid (fun W (hx : Ext wA W) x => pathNumber_any p x W (hG.ext (hxA.ext hx)) (by unfold maxLen; omega))
  have HPL : Hid (placeT room t p f = match parentL p.data.toList with
    | none => finP room t p
    | some up => match mget t ⟨up.toArray⟩ with
      | none => (⟨#[]⟩, 4)
      | some (_, n) => if n.own ≠ 0 then (⟨#[]⟩, 8) else if seqF f = true then (match numberL p.data.toList n.next with
        | none => (⟨#[]⟩, 1)
        | some q => finP room t ⟨q.toArray⟩) else finP room t p) := rfl
  generalize placeT room t p f = R at HPL ⊢
  have c1 := hA.cell 1 _ rfl
  clear hT hG hp hWA hxA hA
  go_enter Tryz.func134, Tryz.ntmps134
  go_upto_region 1 with (fail)
  rw [HWA.out]
  go_wp2_with (fail)
  refine HPA.out.mono ?_
  rintro e w2 ⟨rfl, hx2⟩
  have HT2 := Lib.hid (HTA.out.ext hx2)
  have HX2 := Lib.hid hx2
  clear hx2 HPA c1
  cases hup : parentL p.data.toList with
  | none =>
    have HE : Hid (R = finP room t p) := by show _ = _; rw [HPL.out, hup]
    clear hup
    have hlk2 := tree_look HT2.out p
    have d0 := HT2.out.blk.cell 0 _ rfl
    have d1 := HT2.out.blk.cell 1 _ rfl
    cases hq : mget t p with
    | some gq =>
      have HE2 : Hid (R = (⟨#[]⟩, 5)) := by show _ = _; rw [HE.out]; unfold finP; rw [hq]; rfl
      rw [hq] at hlk2
      simp only [Option.map_some, Option.getD_some] at hlk2
      clear hq
      go_wp2_with (fail)
      go_ret2
      go_light
      rw [HE2.out]
      exact ⟨rfl, HXA.out.ext HX2.out⟩
    | none =>
      rw [hq] at hlk2
      simp only [Option.map_none, Option.getD_none] at hlk2
      have HLN := Lib.hid (fun W (hx : Ext w2 W) ty => by have := MapK.len tNodes (HT2.out.map.ext hx) ty; rw [show (ptrs t).length = t.length by simp [ptrs]] at this; exact this)
      have HD0 := Lib.hid d0
      have HD1 := Lib.hid d1
      by_cases hrm : room ≤ (t.length : Int)
      · have HE2 : Hid (R = (⟨#[]⟩, 9)) := by show _ = _; rw [HE.out]; unfold finP; rw [hq, if_neg (by simp), if_pos hrm]
        clear hq
        go_upto_region 16 with (fail)
        refine' wp_region_dag0 ((58, .val _) :: (59, .val _) :: (60, .val _) :: (61, .val _) :: (62, .val _) :: (63, .val _) :: (64, .val _) :: (65, .val _) :: (66, .val _) :: (67, .val _) :: (57, .val _) :: []) (by exact ⟨fun _ _ _ _ _ => trivial, ⟨fun _ _ _ _ _ => trivial, ⟨fun _ _ _ _ _ => trivial, ⟨fun _ _ _ _ _ => trivial, ⟨fun _ _ _ _ _ => trivial, ⟨fun _ _ _ _ _ => trivial, ⟨fun _ _ _ _ _ => trivial, ⟨fun _ _ _ _ _ => trivial, ⟨fun _ _ _ _ _ => trivial, ⟨fun _ _ _ _ _ => trivial, ⟨fun _ _ _ _ _ => trivial, trivial⟩⟩⟩⟩⟩⟩⟩⟩⟩⟩⟩) (by kernel_rfl) (by kernel_rfl) (by kernel_rfl) ?_
        rotate_left 11
        repeat (first
          | (refine wpD_skipv ?_ ?_ ?_
             focus rfl
             focus rfl
             simp only [Act.put, List.setIfInBounds_toArray, List.set_cons_succ, List.set_cons_zero])
          | (refine' wpD_val (c := _) ?_ (fun w => Kp.refl _ w) ?_ (fun wq hwq hfq => ?_) ?_
             rotate_left
             focus rfl
             focus rfl
             focus ((have d0 := hwq.cell HD0.out (fun f => f); have d1 := hwq.cell HD1.out (fun f => f); have hln := HLN.out wq hwq); go_simp; first | done | rfl)
             simp only [Act.put, List.setIfInBounds_toArray, List.set_cons_succ, List.set_cons_zero])
          | (refine' wpD_con (c := _) ?_ ?_ (fun wq hwq hfq => ?_) ?_
             rotate_left
             focus rfl
             focus rfl
             focus ((have d0 := hwq.cell HD0.out (fun f => f); have d1 := hwq.cell HD1.out (fun f => f); have hln := HLN.out wq hwq); go_simp; (try (rw [dUpon_enter])); fail)
             simp only [Act.put, List.setIfInBounds_toArray, List.set_cons_succ, List.set_cons_zero])
          | fail)
        refine wpD_nil ?_
        intro w7 hx7 hend
        clear hend
        have HX7 := Lib.hid (HX2.out.ext hx7)
        clear hx7
        go_wp2_with (fail)
        go_ret2
        go_light
        rw [HE2.out]
        exact ⟨rfl, HXA.out.ext HX7.out⟩
      · have HE2 : Hid (R = (p, 0)) := by show _ = _; rw [HE.out]; unfold finP; rw [hq, if_neg (by simp), if_neg hrm]
        clear hq
        go_upto_region 16 with (fail)
        refine' wp_region_dag0 ((58, .val _) :: (59, .val _) :: (60, .val _) :: (61, .val _) :: (62, .val _) :: (63, .val _) :: (64, .val _) :: (65, .val _) :: (66, .val _) :: (67, .val _) :: (57, .val _) :: []) (by exact ⟨fun _ _ _ _ _ => trivial, ⟨fun _ _ _ _ _ => trivial, ⟨fun _ _ _ _ _ => trivial, ⟨fun _ _ _ _ _ => trivial, ⟨fun _ _ _ _ _ => trivial, ⟨fun _ _ _ _ _ => trivial, ⟨fun _ _ _ _ _ => trivial, ⟨fun _ _ _ _ _ => trivial, ⟨fun _ _ _ _ _ => trivial, ⟨fun _ _ _ _ _ => trivial, ⟨fun _ _ _ _ _ => trivial, trivial⟩⟩⟩⟩⟩⟩⟩⟩⟩⟩⟩) (by kernel_rfl) (by kernel_rfl) (by kernel_rfl) ?_
        rotate_left 11
        repeat (first
          | (refine wpD_skipv ?_ ?_ ?_
             focus rfl
             focus rfl
             simp only [Act.put, List.setIfInBounds_toArray, List.set_cons_succ, List.set_cons_zero])
          | (refine' wpD_val (c := _) ?_ (fun w => Kp.refl _ w) ?_ (fun wq hwq hfq => ?_) ?_
             rotate_left
             focus rfl
             focus rfl
             focus ((have d0 := hwq.cell HD0.out (fun f => f); have d1 := hwq.cell HD1.out (fun f => f); have hln := HLN.out wq hwq); go_simp; first | done | rfl)
             simp only [Act.put, List.setIfInBounds_toArray, List.set_cons_succ, List.set_cons_zero])
          | (refine' wpD_con (c := _) ?_ ?_ (fun wq hwq hfq => ?_) ?_
             rotate_left
             focus rfl
             focus rfl
             focus ((have d0 := hwq.cell HD0.out (fun f => f); have d1 := hwq.cell HD1.out (fun f => f); have hln := HLN.out wq hwq); go_simp; (try (rw [dUpon_enter])); fail)
             simp only [Act.put, List.setIfInBounds_toArray, List.set_cons_succ, List.set_cons_zero])
          | fail)
        refine wpD_nil ?_
        intro w7 hx7 hend
        clear hend
        have HX7 := Lib.hid (HX2.out.ext hx7)
        clear hx7
        go_wp2_with (fail)
        go_ret2
        go_light
        rw [HE2.out]
        exact ⟨rfl, HXA.out.ext HX7.out⟩
  | some up =>
    have hlk := tree_look HT2.out ⟨up.toArray⟩
    have d1 := HT2.out.blk.cell 1 _ rfl
    have hos : optS (some up) = ⟨up.toArray⟩ := rfl
    rw [hos]
    cases hg : mget t ⟨up.toArray⟩ with
    | none =>
      have HE : Hid (R = (⟨#[]⟩, 4)) := by show _ = _; rw [HPL.out]; simp only [hup, hg]
      rw [hg] at hlk
      simp only [Option.map_none, Option.getD_none] at hlk
      clear hup hg hos
      go_wp2_with (fail)
      go_ret2
      go_light
      rw [HE.out]
      exact ⟨rfl, HXA.out.ext HX2.out⟩
    | some gn =>
      obtain ⟨g2, n2⟩ := gn
      have HU := Lib.hid hup
      have HGQ := Lib.hid hg
      have hmem := mget_mem hg
      have hnd := HT2.out.nod _ hmem
      have HEP := Lib.hid (ephemeral_any g2 n2 w2 hnd)
      have HND := Lib.hid hnd
      rw [hg] at hlk
      simp only [Option.map_some, Option.getD_some] at hlk
      have h4 := (HA.out.kp HX2.out (fun f => f)).cell 4 _ rfl
      clear hup hg hos hmem hnd
      by_cases ho : n2.own = 0
      · have HR : Hid (R = if seqF f = true then (match numberL p.data.toList n2.next with
          | none => (⟨#[]⟩, 1)
          | some q => finP room t ⟨q.toArray⟩) else finP room t p) := by show _ = _; rw [HPL.out]; simp only [HU.out, HGQ.out]; rw [if_neg (by simpa using ho)]
        rw [ho] at HEP
        clear ho
        go_wp2_with (fail)
        refine HEP.out.mono ?_
        rintro e w3 ⟨rfl, rfl⟩
        have hfc : f = 0 ∨ f = 1 ∨ f = 2 ∨ f = 3 := by omega
        obtain ⟨nv, hnb, _⟩ := HND.out
        have n8 := hnb.cell 8 (.int .i64 n2.next) rfl
        have HN8 := Lib.hid n8
        clear hnb n8 hlk d1
        rcases hfc with rfl | rfl | rfl | rfl
        · have HE : Hid (R = finP room t p) := by show _ = _; rw [HR.out]; exact if_neg (by decide)
          have hlk2 := tree_look HT2.out p
          have d0 := HT2.out.blk.cell 0 _ rfl
          have d1 := HT2.out.blk.cell 1 _ rfl
          cases hq : mget t p with
          | some gq =>
            have HE2 : Hid (R = (⟨#[]⟩, 5)) := by show _ = _; rw [HE.out]; unfold finP; rw [hq]; rfl
            rw [hq] at hlk2
            simp only [Option.map_some, Option.getD_some] at hlk2
            clear hq
            go_wp2_with (fail)
            go_ret2
            go_light
            rw [HE2.out]
            exact ⟨rfl, HXA.out.ext HX2.out⟩
          | none =>
            rw [hq] at hlk2
            simp only [Option.map_none, Option.getD_none] at hlk2
            have HLN := Lib.hid (fun W (hx : Ext w2 W) ty => by have := MapK.len tNodes (HT2.out.map.ext hx) ty; rw [show (ptrs t).length = t.length by simp [ptrs]] at this; exact this)
            have HD0 := Lib.hid d0
            have HD1 := Lib.hid d1
            by_cases hrm : room ≤ (t.length : Int)
            · have HE2 : Hid (R = (⟨#[]⟩, 9)) := by show _ = _; rw [HE.out]; unfold finP; rw [hq, if_neg (by simp), if_pos hrm]
              clear hq
              go_upto_region 16 with (fail)
              refine' wp_region_dag0 ((58, .val _) :: (59, .val _) :: (60, .val _) :: (61, .val _) :: (62, .val _) :: (63, .val _) :: (64, .val _) :: (65, .val _) :: (66, .val _) :: (67, .val _) :: (57, .val _) :: []) (by exact ⟨fun _ _ _ _ _ => trivial, ⟨fun _ _ _ _ _ => trivial, ⟨fun _ _ _ _ _ => trivial, ⟨fun _ _ _ _ _ => trivial, ⟨fun _ _ _ _ _ => trivial, ⟨fun _ _ _ _ _ => trivial, ⟨fun _ _ _ _ _ => trivial, ⟨fun _ _ _ _ _ => trivial, ⟨fun _ _ _ _ _ => trivial, ⟨fun _ _ _ _ _ => trivial, ⟨fun _ _ _ _ _ => trivial, trivial⟩⟩⟩⟩⟩⟩⟩⟩⟩⟩⟩) (by kernel_rfl) (by kernel_rfl) (by kernel_rfl) ?_
              rotate_left 11
              repeat (first
                | (refine wpD_skipv ?_ ?_ ?_
                   focus rfl
                   focus rfl
                   simp only [Act.put, List.setIfInBounds_toArray, List.set_cons_succ, List.set_cons_zero])
                | (refine' wpD_val (c := _) ?_ (fun w => Kp.refl _ w) ?_ (fun wq hwq hfq => ?_) ?_
                   rotate_left
                   focus rfl
                   focus rfl
                   focus ((have d0 := hwq.cell HD0.out (fun f => f); have d1 := hwq.cell HD1.out (fun f => f); have hln := HLN.out wq hwq); go_simp; first | done | rfl)
                   simp only [Act.put, List.setIfInBounds_toArray, List.set_cons_succ, List.set_cons_zero])
                | (refine' wpD_con (c := _) ?_ ?_ (fun wq hwq hfq => ?_) ?_
                   rotate_left
                   focus rfl
                   focus rfl
                   focus ((have d0 := hwq.cell HD0.out (fun f => f); have d1 := hwq.cell HD1.out (fun f => f); have hln := HLN.out wq hwq); go_simp; (try (rw [dUpon_enter])); fail)
                   simp only [Act.put, List.setIfInBounds_toArray, List.set_cons_succ, List.set_cons_zero])
                | fail)
              refine wpD_nil ?_
              intro w7 hx7 hend
              clear hend
              have HX7 := Lib.hid (HX2.out.ext hx7)
              clear hx7
              go_wp2_with (fail)
              go_ret2
              go_light
              rw [HE2.out]
              exact ⟨rfl, HXA.out.ext HX7.out⟩
            · have HE2 : Hid (R = (p, 0)) := by show _ = _; rw [HE.out]; unfold finP; rw [hq, if_neg (by simp), if_neg hrm]
              clear hq
              go_upto_region 16 with (fail)
              refine' wp_region_dag0 ((58, .val _) :: (59, .val _) :: (60, .val _) :: (61, .val _) :: (62, .val _) :: (63, .val _) :: (64, .val _) :: (65, .val _) :: (66, .val _) :: (67, .val _) :: (57, .val _) :: []) (by exact ⟨fun _ _ _ _ _ => trivial, ⟨fun _ _ _ _ _ => trivial, ⟨fun _ _ _ _ _ => trivial, ⟨fun _ _ _ _ _ => trivial, ⟨fun _ _ _ _ _ => trivial, ⟨fun _ _ _ _ _ => trivial, ⟨fun _ _ _ _ _ => trivial, ⟨fun _ _ _ _ _ => trivial, ⟨fun _ _ _ _ _ => trivial, ⟨fun _ _ _ _ _ => trivial, ⟨fun _ _ _ _ _ => trivial, trivial⟩⟩⟩⟩⟩⟩⟩⟩⟩⟩⟩) (by kernel_rfl) (by kernel_rfl) (by kernel_rfl) ?_
              rotate_left 11
              repeat (first
                | (refine wpD_skipv ?_ ?_ ?_
                   focus rfl
                   focus rfl
                   simp only [Act.put, List.setIfInBounds_toArray, List.set_cons_succ, List.set_cons_zero])
                | (refine' wpD_val (c := _) ?_ (fun w => Kp.refl _ w) ?_ (fun wq hwq hfq => ?_) ?_
                   rotate_left
                   focus rfl
                   focus rfl
                   focus ((have d0 := hwq.cell HD0.out (fun f => f); have d1 := hwq.cell HD1.out (fun f => f); have hln := HLN.out wq hwq); go_simp; first | done | rfl)
                   simp only [Act.put, List.setIfInBounds_toArray, List.set_cons_succ, List.set_cons_zero])
                | (refine' wpD_con (c := _) ?_ ?_ (fun wq hwq hfq => ?_) ?_
                   rotate_left
                   focus rfl
                   focus rfl
                   focus ((have d0 := hwq.cell HD0.out (fun f => f); have d1 := hwq.cell HD1.out (fun f => f); have hln := HLN.out wq hwq); go_simp; (try (rw [dUpon_enter])); fail)
                   simp only [Act.put, List.setIfInBounds_toArray, List.set_cons_succ, List.set_cons_zero])
                | fail)
              refine wpD_nil ?_
              intro w7 hx7 hend
              clear hend
              have HX7 := Lib.hid (HX2.out.ext hx7)
              clear hx7
              go_wp2_with (fail)
              go_ret2
              go_light
              rw [HE2.out]
              exact ⟨rfl, HXA.out.ext HX7.out⟩
        · have HE : Hid (R = finP room t p) := by show _ = _; rw [HR.out]; exact if_neg (by decide)
          have hlk2 := tree_look HT2.out p
          have d0 := HT2.out.blk.cell 0 _ rfl
          have d1 := HT2.out.blk.cell 1 _ rfl
          cases hq : mget t p with
          | some gq =>
            have HE2 : Hid (R = (⟨#[]⟩, 5)) := by show _ = _; rw [HE.out]; unfold finP; rw [hq]; rfl
            rw [hq] at hlk2
            simp only [Option.map_some, Option.getD_some] at hlk2
            clear hq
            go_wp2_with (fail)
            go_ret2
            go_light
            rw [HE2.out]
            exact ⟨rfl, HXA.out.ext HX2.out⟩
          | none =>
            rw [hq] at hlk2
            simp only [Option.map_none, Option.getD_none] at hlk2
            have HLN := Lib.hid (fun W (hx : Ext w2 W) ty => by have := MapK.len tNodes (HT2.out.map.ext hx) ty; rw [show (ptrs t).length = t.length by simp [ptrs]] at this; exact this)
            have HD0 := Lib.hid d0
            have HD1 := Lib.hid d1
            by_cases hrm : room ≤ (t.length : Int)
            · have HE2 : Hid (R = (⟨#[]⟩, 9)) := by show _ = _; rw [HE.out]; unfold finP; rw [hq, if_neg (by simp), if_pos hrm]
              clear hq
              go_upto_region 16 with (fail)
              refine' wp_region_dag0 ((58, .val _) :: (59, .val _) :: (60, .val _) :: (61, .val _) :: (62, .val _) :: (63, .val _) :: (64, .val _) :: (65, .val _) :: (66, .val _) :: (67, .val _) :: (57, .val _) :: []) (by exact ⟨fun _ _ _ _ _ => trivial, ⟨fun _ _ _ _ _ => trivial, ⟨fun _ _ _ _ _ => trivial, ⟨fun _ _ _ _ _ => trivial, ⟨fun _ _ _ _ _ => trivial, ⟨fun _ _ _ _ _ => trivial, ⟨fun _ _ _ _ _ => trivial, ⟨fun _ _ _ _ _ => trivial, ⟨fun _ _ _ _ _ => trivial, ⟨fun _ _ _ _ _ => trivial, ⟨fun _ _ _ _ _ => trivial, trivial⟩⟩⟩⟩⟩⟩⟩⟩⟩⟩⟩) (by kernel_rfl) (by kernel_rfl) (by kernel_rfl) ?_
              rotate_left 11
              repeat (first
                | (refine wpD_skipv ?_ ?_ ?_
                   focus rfl
                   focus rfl
                   simp only [Act.put, List.setIfInBounds_toArray, List.set_cons_succ, List.set_cons_zero])
                | (refine' wpD_val (c := _) ?_ (fun w => Kp.refl _ w) ?_ (fun wq hwq hfq => ?_) ?_
                   rotate_left
                   focus rfl
                   focus rfl
                   focus ((have d0 := hwq.cell HD0.out (fun f => f); have d1 := hwq.cell HD1.out (fun f => f); have hln := HLN.out wq hwq); go_simp; first | done | rfl)
                   simp only [Act.put, List.setIfInBounds_toArray, List.set_cons_succ, List.set_cons_zero])
                | (refine' wpD_con (c := _) ?_ ?_ (fun wq hwq hfq => ?_) ?_
                   rotate_left
                   focus rfl
                   focus rfl
                   focus ((have d0 := hwq.cell HD0.out (fun f => f); have d1 := hwq.cell HD1.out (fun f => f); have hln := HLN.out wq hwq); go_simp; (try (rw [dUpon_enter])); fail)
                   simp only [Act.put, List.setIfInBounds_toArray, List.set_cons_succ, List.set_cons_zero])
                | fail)
              refine wpD_nil ?_
              intro w7 hx7 hend
              clear hend
              have HX7 := Lib.hid (HX2.out.ext hx7)
              clear hx7
              go_wp2_with (fail)
              go_ret2
              go_light
              rw [HE2.out]
              exact ⟨rfl, HXA.out.ext HX7.out⟩
            · have HE2 : Hid (R = (p, 0)) := by show _ = _; rw [HE.out]; unfold finP; rw [hq, if_neg (by simp), if_neg hrm]
              clear hq
              go_upto_region 16 with (fail)
              refine' wp_region_dag0 ((58, .val _) :: (59, .val _) :: (60, .val _) :: (61, .val _) :: (62, .val _) :: (63, .val _) :: (64, .val _) :: (65, .val _) :: (66, .val _) :: (67, .val _) :: (57, .val _) :: []) (by exact ⟨fun _ _ _ _ _ => trivial, ⟨fun _ _ _ _ _ => trivial, ⟨fun _ _ _ _ _ => trivial, ⟨fun _ _ _ _ _ => trivial, ⟨fun _ _ _ _ _ => trivial, ⟨fun _ _ _ _ _ => trivial, ⟨fun _ _ _ _ _ => trivial, ⟨fun _ _ _ _ _ => trivial, ⟨fun _ _ _ _ _ => trivial, ⟨fun _ _ _ _ _ => trivial, ⟨fun _ _ _ _ _ => trivial, trivial⟩⟩⟩⟩⟩⟩⟩⟩⟩⟩⟩) (by kernel_rfl) (by kernel_rfl) (by kernel_rfl) ?_
              rotate_left 11
              repeat (first
                | (refine wpD_skipv ?_ ?_ ?_
                   focus rfl
                   focus rfl
                   simp only [Act.put, List.setIfInBounds_toArray, List.set_cons_succ, List.set_cons_zero])
                | (refine' wpD_val (c := _) ?_ (fun w => Kp.refl _ w) ?_ (fun wq hwq hfq => ?_) ?_
                   rotate_left
                   focus rfl
                   focus rfl
                   focus ((have d0 := hwq.cell HD0.out (fun f => f); have d1 := hwq.cell HD1.out (fun f => f); have hln := HLN.out wq hwq); go_simp; first | done | rfl)
                   simp only [Act.put, List.setIfInBounds_toArray, List.set_cons_succ, List.set_cons_zero])
                | (refine' wpD_con (c := _) ?_ ?_ (fun wq hwq hfq => ?_) ?_
                   rotate_left
                   focus rfl
                   focus rfl
                   focus ((have d0 := hwq.cell HD0.out (fun f => f); have d1 := hwq.cell HD1.out (fun f => f); have hln := HLN.out wq hwq); go_simp; (try (rw [dUpon_enter])); fail)
                   simp only [Act.put, List.setIfInBounds_toArray, List.set_cons_succ, List.set_cons_zero])
                | fail)
              refine wpD_nil ?_
              intro w7 hx7 hend
              clear hend
              have HX7 := Lib.hid (HX2.out.ext hx7)
              clear hx7
              go_wp2_with (fail)
              go_ret2
              go_light
              rw [HE2.out]
              exact ⟨rfl, HXA.out.ext HX7.out⟩
        all_goals
          have HRS : Hid (R = (match numberL p.data.toList n2.next with
            | none => (⟨#[]⟩, 1)
            | some q => finP room t ⟨q.toArray⟩)) := by show _ = _; rw [HR.out]; exact if_pos (by decide)
          have n8 := HN8.out
          have HNB := Lib.hid (HNU.out w2 HX2.out n2.next)
          cases hnu : numberL p.data.toList n2.next with
          | none =>
            rw [hnu] at HNB
            have HE : Hid (R = (⟨#[]⟩, 1)) := by show _ = _; rw [HRS.out, hnu]
            rw [show errI none = 1 from rfl] at HNB
            clear hnu
            go_wp2_with (fail)
            refine HNB.out.mono ?_
            rintro e w4 ⟨rfl, hx4⟩
            have HX4 := Lib.hid (HX2.out.ext hx4)
            clear hx4
            go_wp2_with (fail)
            go_ret2
            go_light
            rw [HE.out]
            exact ⟨rfl, HXA.out.ext HX4.out⟩
          | some q =>
            rw [hnu] at HNB
            have HE : Hid (R = finP room t ⟨q.toArray⟩) := by show _ = _; rw [HRS.out, hnu]
            rw [show errI (some q) = 0 from rfl, show optS (some q) = ⟨q.toArray⟩ from rfl] at HNB
            clear hnu
            go_wp2_with (fail)
            refine HNB.out.mono ?_
            rintro e w4 ⟨rfl, hx4⟩
            have HX4 := Lib.hid (HX2.out.ext hx4)
            have HT4 := Lib.hid (HT2.out.ext hx4)
            clear hx4 n8
            have hlk2 := tree_look HT4.out (⟨q.toArray⟩ : ByteArray)
            have d0 := HT4.out.blk.cell 0 _ rfl
            have d1 := HT4.out.blk.cell 1 _ rfl
            cases hq : mget t (⟨q.toArray⟩ : ByteArray) with
            | some gq =>
              have HE2 : Hid (R = (⟨#[]⟩, 5)) := by show _ = _; rw [HE.out]; unfold finP; rw [hq]; rfl
              rw [hq] at hlk2
              simp only [Option.map_some, Option.getD_some] at hlk2
              clear hq
              go_wp2_with (fail)
              go_ret2
              go_light
              rw [HE2.out]
              exact ⟨rfl, HXA.out.ext HX4.out⟩
            | none =>
              rw [hq] at hlk2
              simp only [Option.map_none, Option.getD_none] at hlk2
              have HLN := Lib.hid (fun W (hx : Ext w4 W) ty => by have := MapK.len tNodes (HT4.out.map.ext hx) ty; rw [show (ptrs t).length = t.length by simp [ptrs]] at this; exact this)
              have HD0 := Lib.hid d0
              have HD1 := Lib.hid d1
              by_cases hrm : room ≤ (t.length : Int)
              · have HE2 : Hid (R = (⟨#[]⟩, 9)) := by show _ = _; rw [HE.out]; unfold finP; rw [hq, if_neg (by simp), if_pos hrm]
                clear hq
                go_upto_region 16 with (fail)
                refine' wp_region_dag0 ((58, .val _) :: (59, .val _) :: (60, .val _) :: (61, .val _) :: (62, .val _) :: (63, .val _) :: (64, .val _) :: (65, .val _) :: (66, .val _) :: (67, .val _) :: (57, .val _) :: []) (by exact ⟨fun _ _ _ _ _ => trivial, ⟨fun _ _ _ _ _ => trivial, ⟨fun _ _ _ _ _ => trivial, ⟨fun _ _ _ _ _ => trivial, ⟨fun _ _ _ _ _ => trivial, ⟨fun _ _ _ _ _ => trivial, ⟨fun _ _ _ _ _ => trivial, ⟨fun _ _ _ _ _ => trivial, ⟨fun _ _ _ _ _ => trivial, ⟨fun _ _ _ _ _ => trivial, ⟨fun _ _ _ _ _ => trivial, trivial⟩⟩⟩⟩⟩⟩⟩⟩⟩⟩⟩) (by kernel_rfl) (by kernel_rfl) (by kernel_rfl) ?_
                rotate_left 11
                repeat (first
                  | (refine wpD_skipv ?_ ?_ ?_
                     focus rfl
                     focus rfl
                     simp only [Act.put, List.setIfInBounds_toArray, List.set_cons_succ, List.set_cons_zero])
                  | (refine' wpD_val (c := _) ?_ (fun w => Kp.refl _ w) ?_ (fun wq hwq hfq => ?_) ?_
                     rotate_left
                     focus rfl
                     focus rfl
                     focus ((have d0 := hwq.cell HD0.out (fun f => f); have d1 := hwq.cell HD1.out (fun f => f); have hln := HLN.out wq hwq); go_simp; first | done | rfl)
                     simp only [Act.put, List.setIfInBounds_toArray, List.set_cons_succ, List.set_cons_zero])
                  | (refine' wpD_con (c := _) ?_ ?_ (fun wq hwq hfq => ?_) ?_
                     rotate_left
                     focus rfl
                     focus rfl
                     focus ((have d0 := hwq.cell HD0.out (fun f => f); have d1 := hwq.cell HD1.out (fun f => f); have hln := HLN.out wq hwq); go_simp; (try (rw [dUpon_enter])); fail)
                     simp only [Act.put, List.setIfInBounds_toArray, List.set_cons_succ, List.set_cons_zero])
                  | fail)
                refine wpD_nil ?_
                intro w7 hx7 hend
                clear hend
                have HX7 := Lib.hid (HX4.out.ext hx7)
                clear hx7
                go_wp2_with (fail)
                go_ret2
                go_light
                rw [HE2.out]
                exact ⟨rfl, HXA.out.ext HX7.out⟩
              · have HE2 : Hid (R = ((⟨q.toArray⟩ : ByteArray), 0)) := by show _ = _; rw [HE.out]; unfold finP; rw [hq, if_neg (by simp), if_neg hrm]
                clear hq
                go_upto_region 16 with (fail)
                refine' wp_region_dag0 ((58, .val _) :: (59, .val _) :: (60, .val _) :: (61, .val _) :: (62, .val _) :: (63, .val _) :: (64, .val _) :: (65, .val _) :: (66, .val _) :: (67, .val _) :: (57, .val _) :: []) (by exact ⟨fun _ _ _ _ _ => trivial, ⟨fun _ _ _ _ _ => trivial, ⟨fun _ _ _ _ _ => trivial, ⟨fun _ _ _ _ _ => trivial, ⟨fun _ _ _ _ _ => trivial, ⟨fun _ _ _ _ _ => trivial, ⟨fun _ _ _ _ _ => trivial, ⟨fun _ _ _ _ _ => trivial, ⟨fun _ _ _ _ _ => trivial, ⟨fun _ _ _ _ _ => trivial, ⟨fun _ _ _ _ _ => trivial, trivial⟩⟩⟩⟩⟩⟩⟩⟩⟩⟩⟩) (by kernel_rfl) (by kernel_rfl) (by kernel_rfl) ?_
                rotate_left 11
                repeat (first
                  | (refine wpD_skipv ?_ ?_ ?_
                     focus rfl
                     focus rfl
                     simp only [Act.put, List.setIfInBounds_toArray, List.set_cons_succ, List.set_cons_zero])
                  | (refine' wpD_val (c := _) ?_ (fun w => Kp.refl _ w) ?_ (fun wq hwq hfq => ?_) ?_
                     rotate_left
                     focus rfl
                     focus rfl
                     focus ((have d0 := hwq.cell HD0.out (fun f => f); have d1 := hwq.cell HD1.out (fun f => f); have hln := HLN.out wq hwq); go_simp; first | done | rfl)
                     simp only [Act.put, List.setIfInBounds_toArray, List.set_cons_succ, List.set_cons_zero])
                  | (refine' wpD_con (c := _) ?_ ?_ (fun wq hwq hfq => ?_) ?_
                     rotate_left
                     focus rfl
                     focus rfl
                     focus ((have d0 := hwq.cell HD0.out (fun f => f); have d1 := hwq.cell HD1.out (fun f => f); have hln := HLN.out wq hwq); go_simp; (try (rw [dUpon_enter])); fail)
                     simp only [Act.put, List.setIfInBounds_toArray, List.set_cons_succ, List.set_cons_zero])
                  | fail)
                refine wpD_nil ?_
                intro w7 hx7 hend
                clear hend
                have HX7 := Lib.hid (HX4.out.ext hx7)
                clear hx7
                go_wp2_with (fail)
                go_ret2
                go_light
                rw [HE2.out]
                exact ⟨rfl, HXA.out.ext HX7.out⟩
      · have HE : Hid (R = (⟨#[]⟩, 8)) := by show _ = _; rw [HPL.out]; simp only [HU.out, HGQ.out]; exact if_pos (by simpa using ho)
        have hb : (n2.own != 0) = true := by simpa using ho
        rw [hb] at HEP
        clear ho hb
        go_wp2_with (fail)
        refine HEP.out.mono ?_
        rintro e w3 ⟨rfl, rfl⟩
        go_wp2_with (fail)
        go_ret2
        go_light
        rw [HE.out]
        exact ⟨rfl, HXA.out.ext HX2.out⟩
end Go.Proofs.YtdagikbdpeblhaaGreatDoor
