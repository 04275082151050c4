/- Walks of package tree: Remove. -/
import Derived.Test.YtdagikbdpeblhaaGreatDoorAvG10
namespace Go.Proofs.YtdagikbdpeblhaaGreatDoor
set_option maxRecDepth 100000
open Go.RowKit Av

def RemPost (w : World) (base b m : Nat) (room : Int) (t : Tr) (p : ByteArray) (e : Ending) (w' : World) : Prop :=
  (∃ u, e = .returned u) ∧ TreeR w' base b m room (tellUp ndRem (mdel t p) p) ∧ Kp (nodeFr m t) w w'
set_option maxHeartbeats 3200000 in
theorem treeRemove_any (base b m : Nat) (room : Int) (t : Tr) (p : ByteArray) (w0 w : World) (hT : TreeR w base b m room t) (hok : TrOk t) (hG0 : GL w0) (hb0 : w0.heap.size ≤ base) (hG : GL w) (hp : p.size ≤ 1000000) :
    Calls Tryz.prog 138 #[.pointer (some ⟨b, 0, none⟩), .string p] w fun e w' => RemPost w base b m room t p e w' := by
  obtain ⟨wM, u1, u2, u3, u4⟩ := MapK.delete kStr tNodes hT.map p
  have hTM := hT.del u2 u3
  have hkM : Kp (nodeFr m t) w wM := u3.mono (fun i _ e => .inl e)
  have hGM := gl_keep hG0 hb0 hT hG hkM
  have HTM := Lib.hid hTM
  have HKM := Lib.hid hkM
  have HOK : Hid (TrOk (mdel t p)) := fun e he => hok e (List.mem_filter.1 he).1
  have c1 := hT.blk.cell 1 _ rfl
  have HPA := Lib.hid (Parent_any p wM hGM (by unfold maxLen; omega))
  have HNA := Lib.hid (fun W (hx : Ext wM W) => pathName_any p W (hGM.ext hx) (by unfold maxLen; omega))
  have HU1 := Lib.hid u1
  generalize ht1 : mdel t p = t1 at HTM HOK
  have HT1 := Lib.hid ht1
  clear hT hok hG hG0 hb0 hp u1 u2 u3 u4 hTM hkM hGM ht1
  go_enter Tryz.func138, Tryz.ntmps138
  have hu1 := HU1.out
  go_wp2_with (fail)
  refine HPA.out.mono ?_
  rintro e w2 ⟨rfl, hx2⟩
  have HT2 := Lib.hid (HTM.out.ext hx2)
  have HK2 := Lib.hid (HKM.out.ext hx2)
  have HX2 := Lib.hid hx2
  clear hx2 HPA hu1 c1
  cases hup : parentL p.data.toList with
  | none =>
    have HE : Hid (tellUp ndRem t1 p = t1) := by show _ = _; unfold tellUp; rw [hup]
    clear hup
    go_wp2_with (fail)
    go_light
    exact bodyPost_end (results_none (by rfl) _ _ _) rfl ⟨⟨_, rfl⟩, by rw [HT1.out, HE.out]; exact HT2.out, HK2.out⟩
  | some up =>
    have hlk := tree_look HT2.out ⟨up.toArray⟩
    have c1 := HT2.out.blk.cell 1 _ rfl
    have hos : optS (some up) = ⟨up.toArray⟩ := rfl
    rw [hos]
    cases hg : mget t1 ⟨up.toArray⟩ with
    | none =>
      have HE : Hid (tellUp ndRem t1 p = t1) := by show _ = _; unfold tellUp; simp only [hup, hg]
      rw [hg] at hlk
      simp only [Option.map_none, Option.getD_none] at hlk
      clear hup hg hos
      go_wp2_with (fail)
      go_light
      exact bodyPost_end (results_none (by rfl) _ _ _) rfl ⟨⟨_, rfl⟩, by rw [HT1.out, HE.out]; exact HT2.out, HK2.out⟩
    | some gn =>
      obtain ⟨g2, n2⟩ := gn
      have HE : Hid (tellUp ndRem t1 p = mset t1 ⟨up.toArray⟩ (g2, ndRem n2 (lastL p.data.toList))) := by show _ = _; unfold tellUp; simp only [hup, hg]
      rw [hg] at hlk
      simp only [Option.map_some, Option.getD_some] at hlk
      have HGE := Lib.hid hg
      have hmem := mget_mem hg
      have HOK2 := Lib.hid (HOK.out _ hmem)
      have HND := Lib.hid (HT2.out.nod _ hmem)
      have HLK := Lib.hid (fun W (hx : Ext w2 W) => by have := tree_look (HT2.out.ext hx) ⟨up.toArray⟩; rw [hg] at this; exact this)
      have HC1 := Lib.hid c1
      have HIN : Hid (g2 < w.heap.size → ∃ e ∈ t, g2 = e.2.1) := by
        intro _
        rw [← HT1.out] at hmem
        exact ⟨_, (List.mem_filter.1 hmem).1, rfl⟩
      clear hup hg hos hmem
      go_upto_region 3 with (fail)
      refine' wp_region_dagK 8 [] ((26, .val _) :: (27, .val _) :: (28, .val _) :: (29, .val _) :: (30, .val _) :: (31, .val _) :: (32, .val _) :: (33, .val _) :: []) (by exact ⟨fun _ _ _ _ _ => trivial, ⟨fun _ _ _ _ _ => trivial, ⟨fun _ _ _ _ _ => trivial, ⟨fun _ _ _ _ _ => trivial, ⟨fun _ _ _ _ _ => trivial, ⟨fun _ _ _ _ _ => trivial, ⟨fun _ _ _ _ _ => trivial, ⟨fun _ _ _ _ _ => trivial, trivial⟩⟩⟩⟩⟩⟩⟩⟩) (by kernel_rfl) (by kernel_rfl) (by kernel_rfl) ?_
      rotate_left 8
      simp only [List.take_succ_cons, List.take_zero]
      repeat (first
        | (refine wpD_skipv ?_ ?_ ?_
           focus rfl
           focus rfl
           simp only [Act.put, List.setIfInBounds_toArray, List.set_cons_succ, List.set_cons_zero])
        | (refine' wpD_val (c := _) ?_ (fun w => Kp.refl _ w) ?_ (fun wq hwq hfq => ?_) ?_
           rotate_left
           focus rfl
           focus rfl
           focus ((have hext : Ext w2 wq := hwq.mono (fun i hi e => by omega); have c1 := hext.cell HC1.out (fun f => f); have hlk := HLK.out wq hext); go_simp; first | done | rfl)
           simp only [Act.put, List.setIfInBounds_toArray, List.set_cons_succ, List.set_cons_zero])
        | (refine' wpD_con (c := _) ?_ ?_ (fun wq hwq hfq => ?_) ?_
           rotate_left
           focus rfl
           focus rfl
           focus ((have hext : Ext w2 wq := hwq.mono (fun i hi e => by omega); have c1 := hext.cell HC1.out (fun f => f); have hlk := HLK.out wq hext); go_simp; (try (rw [dUpon_enter])); ((with_reducible refine (HNA.out _ (HX2.out.ext hext)).mono ?_); rintro e w' ⟨rfl, hx⟩; exact DEnd.con hx))
           simp only [Act.put, List.setIfInBounds_toArray, List.set_cons_succ, List.set_cons_zero])
        | fail)
      refine wpD_nil ?_
      intro w5 hx5 hend
      clear hend
      have hx5' : Ext w2 w5 := hx5.mono (fun i hi e => by omega)
      have HT5 := Lib.hid (HT2.out.ext hx5')
      have HK5 := Lib.hid (HK2.out.ext hx5')
      have HADD := Lib.hid (statRemove_any g2 n2 (lastL p.data.toList) w5 (HND.out.ext hx5') HOK2.out.rise HOK2.out.few HOK2.out.kids)
      clear hx5 hx5'
      go_wp2_with (fail)
      refine HADD.out.mono ?_
      rintro e w6 ⟨⟨u, rfl⟩, hnd6, hk6⟩
      have HT6 := Lib.hid (HT5.out.put HGE.out hnd6 hk6)
      have HK6 : Hid (Kp (nodeFr m t) w w6) := HK5.out.next hk6 (fun i hi e => by
        subst e
        exact .inr (HIN.out hi))
      clear hnd6 hk6
      go_wp2_with (fail)
      go_light
      exact bodyPost_end (results_none (by rfl) _ _ _) rfl ⟨⟨_, rfl⟩, by rw [HT1.out, HE.out]; exact HT6.out, HK6.out⟩
end Go.Proofs.YtdagikbdpeblhaaGreatDoor
