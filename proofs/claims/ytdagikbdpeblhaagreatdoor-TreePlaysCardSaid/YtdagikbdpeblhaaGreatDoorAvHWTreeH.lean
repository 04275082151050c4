/- Walks of package tree: do, Do, Try. -/
import Derived.Test.YtdagikbdpeblhaaGreatDoorAvHWTreeG
import Derived.Test.YtdagikbdpeblhaaGreatDoorAvG18
import Derived.Test.YtdagikbdpeblhaaGreatDoorAvG19
namespace Go.Proofs.YtdagikbdpeblhaaGreatDoor
set_option maxRecDepth 100000
open Go.RowKit Av

theorem good_flags {o : OpV} (h : goodO o = 0) : 0 ≤ o.flags ∧ o.flags ≤ 3 := by
  unfold goodO at h
  split at h
  · rename_i h1
    unfold formedB at h1
    simp only [Bool.and_eq_true, decide_eq_true_eq] at h1
    omega
  · exact absurd h (by decide)
set_option maxHeartbeats 6400000 in
theorem do_any (base b m : Nat) (room : Int) (t : Tr) (k : Int) (p d : ByteArray) (v f sess z : Int) (only : Bool) (w0 w : World) (hT : TreeR w base b m room t) (hok : TrOk t) (hG0 : GT w0) (hb0 : w0.heap.size ≤ base) (hE : Ext w0 w) (hp : p.size ≤ 1000000) (hd : d.size ≤ 1000000) :
    Calls Tryz.prog 47 #[.pointer (some ⟨b, 0, none⟩), .agg #[.int .i64 k, .string p, .string d, .int .i64 v, .int .i64 f], .int .i64 sess, .int .i64 z, .bool only] w fun e w' => DoPost w base b m room t (doP room (pl t) ⟨k, p, d, v, f⟩ sess z only) e w' := by
  obtain ⟨wA, hWA⟩ : ∃ wA, w.alloc (.cells #[.int .i64 k, .string p, .string d, .int .i64 v, .int .i64 f] 33) = wA := ⟨_, rfl⟩
  have hxA : Ext w wA := by rw [← hWA]; exact (Kp.refl _ _).alloc _
  have hA : Blk wA w.heap.size #[.int .i64 k, .string p, .string d, .int .i64 v, .int .i64 f] 33 := by rw [← hWA]; exact heap_alloc_new w _
  obtain ⟨wB, hWB⟩ : ∃ wB, wA.alloc (.cells rsZ rsuT) = wB := ⟨_, rfl⟩
  have hxB : Ext wA wB := by rw [← hWB]; exact (Kp.refl _ _).alloc _
  have hsA : wA.heap.size = w.heap.size + 1 := by rw [← hWA]; exact World.size_alloc _ _
  have hB : Blk wB (w.heap.size + 1) rsZ rsuT := by rw [← hWB, ← hsA]; exact heap_alloc_new wA _
  have HAB := Lib.hid (hA.kp hxB (fun f => f))
  have HB := Lib.hid hB
  have HXB := Lib.hid (hxA.ext hxB)
  have HTB := Lib.hid (hT.ext (hxA.ext hxB))
  have HWA := Lib.hid hWA
  unfold rsZ at hWB
  have HWB := Lib.hid hWB
  have HOK := Lib.hid hok
  have HFR : Hid (∀ i, nodeFr m t i → i < w.heap.size) := by
    rintro i (rfl | ⟨e, he, rfl⟩)
    · exact hT.map.lt
    · exact (hT.nod e he).lt
  have HGO := Lib.hid (opGood_any ⟨k, p, d, v, f⟩ wB (hG0.ext (hE.ext (hxA.ext hxB))) (by unfold maxLen; simp only; omega) (by unfold maxLen; simp only; omega))
  have HX := Lib.hid (And.intro hb0 (And.intro hE (And.intro hG0 hp)))
  have HC : Hid (doP room (pl t) ⟨k, p, d, v, f⟩ sess z only = if goodO ⟨k, p, d, v, f⟩ ≠ 0 then (pl t, failR (goodO ⟨k, p, d, v, f⟩)) else
    if sess < 1 ∨ z < 0 then (pl t, failR 1) else
    if k = 1 then createP room (pl t) ⟨k, p, d, v, f⟩ sess z only else
    if k = 2 ∨ k = 3 ∨ k = 4 then changeP (pl t) ⟨k, p, d, v, f⟩ z only else (pl t, readP (pl t) ⟨k, p, d, v, f⟩)) := rfl
  have HGF : Hid (goodO ⟨k, p, d, v, f⟩ = 0 → 0 ≤ f ∧ f ≤ 3) := fun h => good_flags h
  generalize doP room (pl t) ⟨k, p, d, v, f⟩ sess z only = R at HC ⊢
  generalize goodO ⟨k, p, d, v, f⟩ = E at HC HGO HGF
  unfold OpV.val at HGO
  clear hWA hxA hA hWB hxB hB hsA hok hb0 hE hG0 hp hT hd
  go_enter Tryz.func47, Tryz.ntmps47
  go_upto_region 1 with (fail)
  rw [HWA.out]
  rw [HWB.out]
  have hab := HAB.out
  have a0 := hab.cell 0 _ rfl
  have a1 := hab.cell 1 _ rfl
  have a2 := hab.cell 2 _ rfl
  have a3 := hab.cell 3 _ rfl
  have a4 := hab.cell 4 _ rfl
  clear hab
  go_wp2_with (fail)
  refine HGO.out.mono ?_
  rintro e1 w2 ⟨rfl, hx2⟩
  have HX2 := Lib.hid hx2
  clear HGO hx2 a0 a1 a2 a3 a4
  by_cases hE0 : E = 0
  · subst hE0
    have HC2 := HC.out
    rw [if_neg (by simp)] at HC2
    by_cases h1 : sess < 1
    · have HE : Hid (R = (pl t, failR 1)) := HC2.trans (if_pos (.inl h1))
      clear HC HC2
      go_wp2_with (fail)
      refine (fail_any 1 _).mono ?_
      rintro e9 w9 ⟨rfl, hx9⟩
      have hB9 := (HB.out.kp HX2.out (fun f => f)).kp hx9 (fun f => f)
      have HT9 := Lib.hid ((HTB.out.ext HX2.out).ext hx9)
      have HB9 := Lib.hid hB9
      have HX9 := Lib.hid ((HXB.out.ext HX2.out).ext hx9)
      unfold rsZ at hB9
      have c0 := hB9.cell 0 _ rfl
      have c1 := hB9.cell 1 _ rfl
      have c2 := hB9.cell 2 _ rfl
      have c3 := hB9.cell 3 _ rfl
      have c4 := hB9.cell 4 _ rfl
      have c5 := hB9.cell 5 _ rfl
      have c6 := hB9.cell 6 _ rfl
      have c7 := hB9.cell 7 _ rfl
      have c8 := hB9.cell 8 _ rfl
      have c9 := hB9.cell 9 _ rfl
      have c10 := hB9.cell 10 _ rfl
      have fc0 := hB9.free 0
      have fc1 := hB9.free 1
      have fc2 := hB9.free 2
      have fc3 := hB9.free 3
      have fc4 := hB9.free 4
      have fc5 := hB9.free 5
      have fc6 := hB9.free 6
      have fc7 := hB9.free 7
      have fc8 := hB9.free 8
      have fc9 := hB9.free 9
      have fc10 := hB9.free 10
      clear hB9 hx9
      unfold resA
      go_wp2_with (fail)
      go_light
      refine bodyPost_ret (v := resA 1 ⟨#[]⟩ ⟨#[]⟩ (.slice none 0 0) ndZ) (by simp [results, Tryz.results47, go_sem, resA, ndZ, c0, c1, c2, c3, c4, c5, c6, c7, c8, c9, c10]) rfl ?_
      rw [HE.out]
      have k11 := kp_set11 w9 (w.heap.size + 1) (.int .i64 1) (.string ⟨#[]⟩) (.string ⟨#[]⟩) (.slice none 0 0) (.int .i64 0) (.int .i64 0) (.int .i64 0) (.int .i64 0) (.int .i64 0) (.int .i64 0) (.int .i64 0)
      exact ⟨t, .slice none 0 0, rfl, own_nil _, HT9.out.aside HB9.out (by decide) (by decide) (by decide) k11, rfl, (Ext.kp HX9.out).next k11 (fun i hi e => by omega), Fresh.refl _ _⟩
    · by_cases h2 : z < 0
      · have HE : Hid (R = (pl t, failR 1)) := HC2.trans (if_pos (.inr h2))
        clear HC HC2
        go_wp2_with (fail)
        refine (fail_any 1 _).mono ?_
        rintro e9 w9 ⟨rfl, hx9⟩
        have hB9 := (HB.out.kp HX2.out (fun f => f)).kp hx9 (fun f => f)
        have HT9 := Lib.hid ((HTB.out.ext HX2.out).ext hx9)
        have HB9 := Lib.hid hB9
        have HX9 := Lib.hid ((HXB.out.ext HX2.out).ext hx9)
        unfold rsZ at hB9
        have c0 := hB9.cell 0 _ rfl
        have c1 := hB9.cell 1 _ rfl
        have c2 := hB9.cell 2 _ rfl
        have c3 := hB9.cell 3 _ rfl
        have c4 := hB9.cell 4 _ rfl
        have c5 := hB9.cell 5 _ rfl
        have c6 := hB9.cell 6 _ rfl
        have c7 := hB9.cell 7 _ rfl
        have c8 := hB9.cell 8 _ rfl
        have c9 := hB9.cell 9 _ rfl
        have c10 := hB9.cell 10 _ rfl
        have fc0 := hB9.free 0
        have fc1 := hB9.free 1
        have fc2 := hB9.free 2
        have fc3 := hB9.free 3
        have fc4 := hB9.free 4
        have fc5 := hB9.free 5
        have fc6 := hB9.free 6
        have fc7 := hB9.free 7
        have fc8 := hB9.free 8
        have fc9 := hB9.free 9
        have fc10 := hB9.free 10
        clear hB9 hx9
        unfold resA
        go_wp2_with (fail)
        go_light
        refine bodyPost_ret (v := resA 1 ⟨#[]⟩ ⟨#[]⟩ (.slice none 0 0) ndZ) (by simp [results, Tryz.results47, go_sem, resA, ndZ, c0, c1, c2, c3, c4, c5, c6, c7, c8, c9, c10]) rfl ?_
        rw [HE.out]
        have k11 := kp_set11 w9 (w.heap.size + 1) (.int .i64 1) (.string ⟨#[]⟩) (.string ⟨#[]⟩) (.slice none 0 0) (.int .i64 0) (.int .i64 0) (.int .i64 0) (.int .i64 0) (.int .i64 0) (.int .i64 0) (.int .i64 0)
        exact ⟨t, .slice none 0 0, rfl, own_nil _, HT9.out.aside HB9.out (by decide) (by decide) (by decide) k11, rfl, (Ext.kp HX9.out).next k11 (fun i hi e => by omega), Fresh.refl _ _⟩
      · rw [if_neg (by omega)] at HC2
        have ha2 := HAB.out.kp HX2.out (fun f => f)
        have a0 := ha2.cell 0 _ rfl
        have a1 := ha2.cell 1 _ rfl
        have a2 := ha2.cell 2 _ rfl
        have a3 := ha2.cell 3 _ rfl
        have a4 := ha2.cell 4 _ rfl
        clear ha2 HC
        by_cases k1 : k = 1
        · subst k1
          rw [if_pos rfl] at HC2
          have HCR := Lib.hid (create_any base b m room t 1 p d v f sess z only w0 w2 (HTB.out.ext HX2.out) HOK.out HX.out.2.2.1 HX.out.1 (HX.out.2.1.ext (HXB.out.ext HX2.out)) HX.out.2.2.2 (HGF.out rfl).1 (HGF.out rfl).2)
          rw [← HC2] at HCR
          clear HC2
          go_wp2_with (fail)
          refine HCR.out.mono ?_
          rintro e1 w6 ⟨t', nv, rfl, ho6, ht6, hp6, hk6, hf6⟩
          have HF6 := Lib.hid hf6
          obtain ⟨na, nc, rfl⟩ := owns_slice ho6
          have hB6 := (HB.out.kp HX2.out (fun f => f)).kp hk6 (fun h => by have := HFR.out _ h; omega)
          have HB6 := Lib.hid hB6
          have HT6 := Lib.hid ht6
          have HO6 := Lib.hid ho6
          have HP6 := Lib.hid hp6
          have HK6 : Hid (Kp (nodeFr m t) w w6) := (Ext.kp (HXB.out.ext HX2.out)).trans hk6
          unfold rsZ at hB6
          have c0 := hB6.cell 0 _ rfl
          have c1 := hB6.cell 1 _ rfl
          have c2 := hB6.cell 2 _ rfl
          have c3 := hB6.cell 3 _ rfl
          have c4 := hB6.cell 4 _ rfl
          have c5 := hB6.cell 5 _ rfl
          have c6 := hB6.cell 6 _ rfl
          have c7 := hB6.cell 7 _ rfl
          have c8 := hB6.cell 8 _ rfl
          have c9 := hB6.cell 9 _ rfl
          have c10 := hB6.cell 10 _ rfl
          have fc0 := hB6.free 0
          have fc1 := hB6.free 1
          have fc2 := hB6.free 2
          have fc3 := hB6.free 3
          have fc4 := hB6.free 4
          have fc5 := hB6.free 5
          have fc6 := hB6.free 6
          have fc7 := hB6.free 7
          have fc8 := hB6.free 8
          have fc9 := hB6.free 9
          have fc10 := hB6.free 10
          clear hB6 ht6 ho6 hp6 hk6 hf6 HCR
          unfold resA
          go_wp2_with (fail)
          go_light
          refine bodyPost_ret (v := resA R.2.err R.2.path R.2.data (.slice na R.2.names.length nc) R.2.st) (by simp [results, Tryz.results47, go_sem, resA, c0, c1, c2, c3, c4, c5, c6, c7, c8, c9, c10]) rfl ?_
          have k11 := kp_set11 w6 (w.heap.size + 1) (.int .i64 R.2.err) (.string R.2.path) (.string R.2.data) (.slice na R.2.names.length nc) (.int .i64 R.2.st.made) (.int .i64 R.2.st.chg) (.int .i64 R.2.st.ver) (.int .i64 R.2.st.kids) (.int .i64 R.2.st.own) (.int .i64 R.2.st.len) (.int .i64 R.2.st.cnt)
          exact ⟨t', _, rfl, own_aside HO6.out HB6.out (by decide) k11, HT6.out.aside HB6.out (by decide) (by decide) (by decide) k11, HP6.out, HK6.out.next k11 (fun i hi e => by omega), HF6.out.mono (HXB.out.ext HX2.out).size⟩
        · rw [if_neg k1] at HC2
          by_cases k234 : k = 2 ∨ k = 3 ∨ k = 4
          · rw [if_pos k234] at HC2
            have HCR := Lib.hid (change_any base b m room t k p d v f z only w0 w2 (HTB.out.ext HX2.out) HOK.out HX.out.2.2.1 HX.out.1 (HX.out.2.1.ext (HXB.out.ext HX2.out)) HX.out.2.2.2)
            rw [← HC2] at HCR
            clear HC2 k1
            rcases k234 with rfl | rfl | rfl
            · go_wp2_with (fail)
              refine HCR.out.mono ?_
              rintro e1 w6 ⟨t', nv, rfl, ho6, ht6, hp6, hk6, hf6⟩
              have HF6 := Lib.hid hf6
              obtain ⟨na, nc, rfl⟩ := owns_slice ho6
              have hB6 := (HB.out.kp HX2.out (fun f => f)).kp hk6 (fun h => by have := HFR.out _ h; omega)
              have HB6 := Lib.hid hB6
              have HT6 := Lib.hid ht6
              have HO6 := Lib.hid ho6
              have HP6 := Lib.hid hp6
              have HK6 : Hid (Kp (nodeFr m t) w w6) := (Ext.kp (HXB.out.ext HX2.out)).trans hk6
              unfold rsZ at hB6
              have c0 := hB6.cell 0 _ rfl
              have c1 := hB6.cell 1 _ rfl
              have c2 := hB6.cell 2 _ rfl
              have c3 := hB6.cell 3 _ rfl
              have c4 := hB6.cell 4 _ rfl
              have c5 := hB6.cell 5 _ rfl
              have c6 := hB6.cell 6 _ rfl
              have c7 := hB6.cell 7 _ rfl
              have c8 := hB6.cell 8 _ rfl
              have c9 := hB6.cell 9 _ rfl
              have c10 := hB6.cell 10 _ rfl
              have fc0 := hB6.free 0
              have fc1 := hB6.free 1
              have fc2 := hB6.free 2
              have fc3 := hB6.free 3
              have fc4 := hB6.free 4
              have fc5 := hB6.free 5
              have fc6 := hB6.free 6
              have fc7 := hB6.free 7
              have fc8 := hB6.free 8
              have fc9 := hB6.free 9
              have fc10 := hB6.free 10
              clear hB6 ht6 ho6 hp6 hk6 hf6 HCR
              unfold resA
              go_wp2_with (fail)
              go_light
              refine bodyPost_ret (v := resA R.2.err R.2.path R.2.data (.slice na R.2.names.length nc) R.2.st) (by simp [results, Tryz.results47, go_sem, resA, c0, c1, c2, c3, c4, c5, c6, c7, c8, c9, c10]) rfl ?_
              have k11 := kp_set11 w6 (w.heap.size + 1) (.int .i64 R.2.err) (.string R.2.path) (.string R.2.data) (.slice na R.2.names.length nc) (.int .i64 R.2.st.made) (.int .i64 R.2.st.chg) (.int .i64 R.2.st.ver) (.int .i64 R.2.st.kids) (.int .i64 R.2.st.own) (.int .i64 R.2.st.len) (.int .i64 R.2.st.cnt)
              exact ⟨t', _, rfl, own_aside HO6.out HB6.out (by decide) k11, HT6.out.aside HB6.out (by decide) (by decide) (by decide) k11, HP6.out, HK6.out.next k11 (fun i hi e => by omega), HF6.out.mono (HXB.out.ext HX2.out).size⟩
            · go_wp2_with (fail)
              refine HCR.out.mono ?_
              rintro e1 w6 ⟨t', nv, rfl, ho6, ht6, hp6, hk6, hf6⟩
              have HF6 := Lib.hid hf6
              obtain ⟨na, nc, rfl⟩ := owns_slice ho6
              have hB6 := (HB.out.kp HX2.out (fun f => f)).kp hk6 (fun h => by have := HFR.out _ h; omega)
              have HB6 := Lib.hid hB6
              have HT6 := Lib.hid ht6
              have HO6 := Lib.hid ho6
              have HP6 := Lib.hid hp6
              have HK6 : Hid (Kp (nodeFr m t) w w6) := (Ext.kp (HXB.out.ext HX2.out)).trans hk6
              unfold rsZ at hB6
              have c0 := hB6.cell 0 _ rfl
              have c1 := hB6.cell 1 _ rfl
              have c2 := hB6.cell 2 _ rfl
              have c3 := hB6.cell 3 _ rfl
              have c4 := hB6.cell 4 _ rfl
              have c5 := hB6.cell 5 _ rfl
              have c6 := hB6.cell 6 _ rfl
              have c7 := hB6.cell 7 _ rfl
              have c8 := hB6.cell 8 _ rfl
              have c9 := hB6.cell 9 _ rfl
              have c10 := hB6.cell 10 _ rfl
              have fc0 := hB6.free 0
              have fc1 := hB6.free 1
              have fc2 := hB6.free 2
              have fc3 := hB6.free 3
              have fc4 := hB6.free 4
              have fc5 := hB6.free 5
              have fc6 := hB6.free 6
              have fc7 := hB6.free 7
              have fc8 := hB6.free 8
              have fc9 := hB6.free 9
              have fc10 := hB6.free 10
              clear hB6 ht6 ho6 hp6 hk6 hf6 HCR
              unfold resA
              go_wp2_with (fail)
              go_light
              refine bodyPost_ret (v := resA R.2.err R.2.path R.2.data (.slice na R.2.names.length nc) R.2.st) (by simp [results, Tryz.results47, go_sem, resA, c0, c1, c2, c3, c4, c5, c6, c7, c8, c9, c10]) rfl ?_
              have k11 := kp_set11 w6 (w.heap.size + 1) (.int .i64 R.2.err) (.string R.2.path) (.string R.2.data) (.slice na R.2.names.length nc) (.int .i64 R.2.st.made) (.int .i64 R.2.st.chg) (.int .i64 R.2.st.ver) (.int .i64 R.2.st.kids) (.int .i64 R.2.st.own) (.int .i64 R.2.st.len) (.int .i64 R.2.st.cnt)
              exact ⟨t', _, rfl, own_aside HO6.out HB6.out (by decide) k11, HT6.out.aside HB6.out (by decide) (by decide) (by decide) k11, HP6.out, HK6.out.next k11 (fun i hi e => by omega), HF6.out.mono (HXB.out.ext HX2.out).size⟩
            · go_wp2_with (fail)
              refine HCR.out.mono ?_
              rintro e1 w6 ⟨t', nv, rfl, ho6, ht6, hp6, hk6, hf6⟩
              have HF6 := Lib.hid hf6
              obtain ⟨na, nc, rfl⟩ := owns_slice ho6
              have hB6 := (HB.out.kp HX2.out (fun f => f)).kp hk6 (fun h => by have := HFR.out _ h; omega)
              have HB6 := Lib.hid hB6
              have HT6 := Lib.hid ht6
              have HO6 := Lib.hid ho6
              have HP6 := Lib.hid hp6
              have HK6 : Hid (Kp (nodeFr m t) w w6) := (Ext.kp (HXB.out.ext HX2.out)).trans hk6
              unfold rsZ at hB6
              have c0 := hB6.cell 0 _ rfl
              have c1 := hB6.cell 1 _ rfl
              have c2 := hB6.cell 2 _ rfl
              have c3 := hB6.cell 3 _ rfl
              have c4 := hB6.cell 4 _ rfl
              have c5 := hB6.cell 5 _ rfl
              have c6 := hB6.cell 6 _ rfl
              have c7 := hB6.cell 7 _ rfl
              have c8 := hB6.cell 8 _ rfl
              have c9 := hB6.cell 9 _ rfl
              have c10 := hB6.cell 10 _ rfl
              have fc0 := hB6.free 0
              have fc1 := hB6.free 1
              have fc2 := hB6.free 2
              have fc3 := hB6.free 3
              have fc4 := hB6.free 4
              have fc5 := hB6.free 5
              have fc6 := hB6.free 6
              have fc7 := hB6.free 7
              have fc8 := hB6.free 8
              have fc9 := hB6.free 9
              have fc10 := hB6.free 10
              clear hB6 ht6 ho6 hp6 hk6 hf6 HCR
              unfold resA
              go_wp2_with (fail)
              go_light
              refine bodyPost_ret (v := resA R.2.err R.2.path R.2.data (.slice na R.2.names.length nc) R.2.st) (by simp [results, Tryz.results47, go_sem, resA, c0, c1, c2, c3, c4, c5, c6, c7, c8, c9, c10]) rfl ?_
              have k11 := kp_set11 w6 (w.heap.size + 1) (.int .i64 R.2.err) (.string R.2.path) (.string R.2.data) (.slice na R.2.names.length nc) (.int .i64 R.2.st.made) (.int .i64 R.2.st.chg) (.int .i64 R.2.st.ver) (.int .i64 R.2.st.kids) (.int .i64 R.2.st.own) (.int .i64 R.2.st.len) (.int .i64 R.2.st.cnt)
              exact ⟨t', _, rfl, own_aside HO6.out HB6.out (by decide) k11, HT6.out.aside HB6.out (by decide) (by decide) (by decide) k11, HP6.out, HK6.out.next k11 (fun i hi e => by omega), HF6.out.mono (HXB.out.ext HX2.out).size⟩
          · rw [if_neg k234] at HC2
            have HCR := Lib.hid (read_any base b m room t k p d v f w2 (HTB.out.ext HX2.out) HOK.out)
            rw [← HC2] at HCR
            have e1 : (k == 1) = false := by simpa using k1
            have e2 : (k == 2) = false := by simpa using fun h => k234 (.inl h)
            have e3 : (k == 3) = false := by simpa using fun h => k234 (.inr (.inl h))
            have e4 : (k == 4) = false := by simpa using fun h => k234 (.inr (.inr h))
            clear HC2 k1 k234
            go_wp2_with (fail)
            refine HCR.out.mono ?_
            rintro e1 w6 ⟨t', nv, rfl, ho6, ht6, hp6, hk6, hf6⟩
            have HF6 := Lib.hid hf6
            obtain ⟨na, nc, rfl⟩ := owns_slice ho6
            have hB6 := (HB.out.kp HX2.out (fun f => f)).kp hk6 (fun h => by have := HFR.out _ h; omega)
            have HB6 := Lib.hid hB6
            have HT6 := Lib.hid ht6
            have HO6 := Lib.hid ho6
            have HP6 := Lib.hid hp6
            have HK6 : Hid (Kp (nodeFr m t) w w6) := (Ext.kp (HXB.out.ext HX2.out)).trans hk6
            unfold rsZ at hB6
            have c0 := hB6.cell 0 _ rfl
            have c1 := hB6.cell 1 _ rfl
            have c2 := hB6.cell 2 _ rfl
            have c3 := hB6.cell 3 _ rfl
            have c4 := hB6.cell 4 _ rfl
            have c5 := hB6.cell 5 _ rfl
            have c6 := hB6.cell 6 _ rfl
            have c7 := hB6.cell 7 _ rfl
            have c8 := hB6.cell 8 _ rfl
            have c9 := hB6.cell 9 _ rfl
            have c10 := hB6.cell 10 _ rfl
            have fc0 := hB6.free 0
            have fc1 := hB6.free 1
            have fc2 := hB6.free 2
            have fc3 := hB6.free 3
            have fc4 := hB6.free 4
            have fc5 := hB6.free 5
            have fc6 := hB6.free 6
            have fc7 := hB6.free 7
            have fc8 := hB6.free 8
            have fc9 := hB6.free 9
            have fc10 := hB6.free 10
            clear hB6 ht6 ho6 hp6 hk6 hf6 HCR
            unfold resA
            go_wp2_with (fail)
            go_light
            refine bodyPost_ret (v := resA R.2.err R.2.path R.2.data (.slice na R.2.names.length nc) R.2.st) (by simp [results, Tryz.results47, go_sem, resA, c0, c1, c2, c3, c4, c5, c6, c7, c8, c9, c10]) rfl ?_
            have k11 := kp_set11 w6 (w.heap.size + 1) (.int .i64 R.2.err) (.string R.2.path) (.string R.2.data) (.slice na R.2.names.length nc) (.int .i64 R.2.st.made) (.int .i64 R.2.st.chg) (.int .i64 R.2.st.ver) (.int .i64 R.2.st.kids) (.int .i64 R.2.st.own) (.int .i64 R.2.st.len) (.int .i64 R.2.st.cnt)
            exact ⟨t', _, rfl, own_aside HO6.out HB6.out (by decide) k11, HT6.out.aside HB6.out (by decide) (by decide) (by decide) k11, HP6.out, HK6.out.next k11 (fun i hi e => by omega), HF6.out.mono (HXB.out.ext HX2.out).size⟩
  · have HE : Hid (R = (pl t, failR E)) := HC.out.trans (if_pos hE0)
    clear HC
    go_wp2_with (fail)
    refine (fail_any E _).mono ?_
    rintro e9 w9 ⟨rfl, hx9⟩
    have hB9 := (HB.out.kp HX2.out (fun f => f)).kp hx9 (fun f => f)
    have HT9 := Lib.hid ((HTB.out.ext HX2.out).ext hx9)
    have HB9 := Lib.hid hB9
    have HX9 := Lib.hid ((HXB.out.ext HX2.out).ext hx9)
    unfold rsZ at hB9
    have c0 := hB9.cell 0 _ rfl
    have c1 := hB9.cell 1 _ rfl
    have c2 := hB9.cell 2 _ rfl
    have c3 := hB9.cell 3 _ rfl
    have c4 := hB9.cell 4 _ rfl
    have c5 := hB9.cell 5 _ rfl
    have c6 := hB9.cell 6 _ rfl
    have c7 := hB9.cell 7 _ rfl
    have c8 := hB9.cell 8 _ rfl
    have c9 := hB9.cell 9 _ rfl
    have c10 := hB9.cell 10 _ rfl
    have fc0 := hB9.free 0
    have fc1 := hB9.free 1
    have fc2 := hB9.free 2
    have fc3 := hB9.free 3
    have fc4 := hB9.free 4
    have fc5 := hB9.free 5
    have fc6 := hB9.free 6
    have fc7 := hB9.free 7
    have fc8 := hB9.free 8
    have fc9 := hB9.free 9
    have fc10 := hB9.free 10
    clear hB9 hx9
    unfold resA
    go_wp2_with (fail)
    go_light
    refine bodyPost_ret (v := resA E ⟨#[]⟩ ⟨#[]⟩ (.slice none 0 0) ndZ) (by simp [results, Tryz.results47, go_sem, resA, ndZ, c0, c1, c2, c3, c4, c5, c6, c7, c8, c9, c10]) rfl ?_
    rw [HE.out]
    have k11 := kp_set11 w9 (w.heap.size + 1) (.int .i64 E) (.string ⟨#[]⟩) (.string ⟨#[]⟩) (.slice none 0 0) (.int .i64 0) (.int .i64 0) (.int .i64 0) (.int .i64 0) (.int .i64 0) (.int .i64 0) (.int .i64 0)
    exact ⟨t, .slice none 0 0, rfl, own_nil _, HT9.out.aside HB9.out (by decide) (by decide) (by decide) k11, rfl, (Ext.kp HX9.out).next k11 (fun i hi e => by omega), Fresh.refl _ _⟩
set_option maxHeartbeats 3200000 in
theorem treeDo_any (base b m : Nat) (room : Int) (t : Tr) (k : Int) (p d : ByteArray) (v f sess z : Int) (w0 w : World) (hT : TreeR w base b m room t) (hok : TrOk t) (hG0 : GT w0) (hb0 : w0.heap.size ≤ base) (hE : Ext w0 w) (hp : p.size ≤ 1000000) (hd : d.size ≤ 1000000) :
    Calls Tryz.prog 9 #[.pointer (some ⟨b, 0, none⟩), .agg #[.int .i64 k, .string p, .string d, .int .i64 v, .int .i64 f], .int .i64 sess, .int .i64 z] w fun e w' => DoPost w base b m room t (doP room (pl t) ⟨k, p, d, v, f⟩ sess z false) e w' := by
  obtain ⟨wA, hWA⟩ : ∃ wA, w.alloc (.cells #[.int .i64 k, .string p, .string d, .int .i64 v, .int .i64 f] 33) = wA := ⟨_, rfl⟩
  have hxA : Ext w wA := by rw [← hWA]; exact (Kp.refl _ _).alloc _
  have hA : Blk wA w.heap.size #[.int .i64 k, .string p, .string d, .int .i64 v, .int .i64 f] 33 := by rw [← hWA]; exact heap_alloc_new w _
  obtain ⟨wB, hWB⟩ : ∃ wB, wA.alloc (.cells rsZ rsuT) = wB := ⟨_, rfl⟩
  have hxB : Ext wA wB := by rw [← hWB]; exact (Kp.refl _ _).alloc _
  have hsA : wA.heap.size = w.heap.size + 1 := by rw [← hWA]; exact World.size_alloc _ _
  have hB : Blk wB (w.heap.size + 1) rsZ rsuT := by rw [← hWB, ← hsA]; exact heap_alloc_new wA _
  have HAB := Lib.hid (hA.kp hxB (fun f => f))
  have HB := Lib.hid hB
  have HXB := Lib.hid (hxA.ext hxB)
  have HTB := Lib.hid (hT.ext (hxA.ext hxB))
  have HWA := Lib.hid hWA
  unfold rsZ at hWB
  have HWB := Lib.hid hWB
  have HOK := Lib.hid hok
  have HFR : Hid (∀ i, nodeFr m t i → i < w.heap.size) := by
    rintro i (rfl | ⟨e, he, rfl⟩)
    · exact hT.map.lt
    · exact (hT.nod e he).lt
  have HX2 : Hid (Ext wB wB) := Kp.refl _ _
  have HCR := Lib.hid (do_any base b m room t k p d v f sess z false w0 wB HTB.out hok hG0 hb0 (hE.ext HXB.out) hp hd)
  generalize doP room (pl t) ⟨k, p, d, v, f⟩ sess z false = R at HCR ⊢
  clear hWA hxA hA hWB hxB hB hsA hok hb0 hE hG0 hp hT hd
  go_enter Tryz.func9, Tryz.ntmps9
  go_upto_region 1 with (fail)
  rw [HWA.out]
  rw [HWB.out]
  have hab := HAB.out
  have a0 := hab.cell 0 _ rfl
  have a1 := hab.cell 1 _ rfl
  have a2 := hab.cell 2 _ rfl
  have a3 := hab.cell 3 _ rfl
  have a4 := hab.cell 4 _ rfl
  clear hab
  go_wp2_with (fail)
  refine HCR.out.mono ?_
  rintro e1 w6 ⟨t', nv, rfl, ho6, ht6, hp6, hk6, hf6⟩
  have HF6 := Lib.hid hf6
  obtain ⟨na, nc, rfl⟩ := owns_slice ho6
  have hB6 := (HB.out.kp HX2.out (fun f => f)).kp hk6 (fun h => by have := HFR.out _ h; omega)
  have HB6 := Lib.hid hB6
  have HT6 := Lib.hid ht6
  have HO6 := Lib.hid ho6
  have HP6 := Lib.hid hp6
  have HK6 : Hid (Kp (nodeFr m t) w w6) := (Ext.kp (HXB.out.ext HX2.out)).trans hk6
  unfold rsZ at hB6
  have c0 := hB6.cell 0 _ rfl
  have c1 := hB6.cell 1 _ rfl
  have c2 := hB6.cell 2 _ rfl
  have c3 := hB6.cell 3 _ rfl
  have c4 := hB6.cell 4 _ rfl
  have c5 := hB6.cell 5 _ rfl
  have c6 := hB6.cell 6 _ rfl
  have c7 := hB6.cell 7 _ rfl
  have c8 := hB6.cell 8 _ rfl
  have c9 := hB6.cell 9 _ rfl
  have c10 := hB6.cell 10 _ rfl
  have fc0 := hB6.free 0
  have fc1 := hB6.free 1
  have fc2 := hB6.free 2
  have fc3 := hB6.free 3
  have fc4 := hB6.free 4
  have fc5 := hB6.free 5
  have fc6 := hB6.free 6
  have fc7 := hB6.free 7
  have fc8 := hB6.free 8
  have fc9 := hB6.free 9
  have fc10 := hB6.free 10
  clear hB6 ht6 ho6 hp6 hk6 hf6 HCR
  unfold resA
  go_wp2_with (fail)
  go_light
  refine bodyPost_ret (v := resA R.2.err R.2.path R.2.data (.slice na R.2.names.length nc) R.2.st) (by simp [results, Tryz.results9, go_sem, resA, c0, c1, c2, c3, c4, c5, c6, c7, c8, c9, c10]) rfl ?_
  have k11 := kp_set11 w6 (w.heap.size + 1) (.int .i64 R.2.err) (.string R.2.path) (.string R.2.data) (.slice na R.2.names.length nc) (.int .i64 R.2.st.made) (.int .i64 R.2.st.chg) (.int .i64 R.2.st.ver) (.int .i64 R.2.st.kids) (.int .i64 R.2.st.own) (.int .i64 R.2.st.len) (.int .i64 R.2.st.cnt)
  exact ⟨t', _, rfl, own_aside HO6.out HB6.out (by decide) k11, HT6.out.aside HB6.out (by decide) (by decide) (by decide) k11, HP6.out, HK6.out.next k11 (fun i hi e => by omega), HF6.out.mono (HXB.out.ext HX2.out).size⟩
set_option maxHeartbeats 3200000 in
theorem treeTry_any (base b m : Nat) (room : Int) (t : Tr) (k : Int) (p d : ByteArray) (v f sess z : Int) (w0 w : World) (hT : TreeR w base b m room t) (hok : TrOk t) (hG0 : GT w0) (hb0 : w0.heap.size ≤ base) (hE : Ext w0 w) (hp : p.size ≤ 1000000) (hd : d.size ≤ 1000000) :
    Calls Tryz.prog 11 #[.pointer (some ⟨b, 0, none⟩), .agg #[.int .i64 k, .string p, .string d, .int .i64 v, .int .i64 f], .int .i64 sess, .int .i64 z] w fun e w' => DoPost w base b m room t (doP room (pl t) ⟨k, p, d, v, f⟩ sess z true) e w' := by
  obtain ⟨wA, hWA⟩ : ∃ wA, w.alloc (.cells #[.int .i64 k, .string p, .string d, .int .i64 v, .int .i64 f] 33) = wA := ⟨_, rfl⟩
  have hxA : Ext w wA := by rw [← hWA]; exact (Kp.refl _ _).alloc _
  have hA : Blk wA w.heap.size #[.int .i64 k, .string p, .string d, .int .i64 v, .int .i64 f] 33 := by rw [← hWA]; exact heap_alloc_new w _
  obtain ⟨wB, hWB⟩ : ∃ wB, wA.alloc (.cells rsZ rsuT) = wB := ⟨_, rfl⟩
  have hxB : Ext wA wB := by rw [← hWB]; exact (Kp.refl _ _).alloc _
  have hsA : wA.heap.size = w.heap.size + 1 := by rw [← hWA]; exact World.size_alloc _ _
  have hB : Blk wB (w.heap.size + 1) rsZ rsuT := by rw [← hWB, ← hsA]; exact heap_alloc_new wA _
  have HAB := Lib.hid (hA.kp hxB (fun f => f))
  have HB := Lib.hid hB
  have HXB := Lib.hid (hxA.ext hxB)
  have HTB := Lib.hid (hT.ext (hxA.ext hxB))
  have HWA := Lib.hid hWA
  unfold rsZ at hWB
  have HWB := Lib.hid hWB
  have HOK := Lib.hid hok
  have HFR : Hid (∀ i, nodeFr m t i → i < w.heap.size) := by
    rintro i (rfl | ⟨e, he, rfl⟩)
    · exact hT.map.lt
    · exact (hT.nod e he).lt
  have HX2 : Hid (Ext wB wB) := Kp.refl _ _
  have HCR := Lib.hid (do_any base b m room t k p d v f sess z true w0 wB HTB.out hok hG0 hb0 (hE.ext HXB.out) hp hd)
  generalize doP room (pl t) ⟨k, p, d, v, f⟩ sess z true = R at HCR ⊢
  clear hWA hxA hA hWB hxB hB hsA hok hb0 hE hG0 hp hT hd
  go_enter Tryz.func11, Tryz.ntmps11
  go_upto_region 1 with (fail)
  rw [HWA.out]
  rw [HWB.out]
  have hab := HAB.out
  have a0 := hab.cell 0 _ rfl
  have a1 := hab.cell 1 _ rfl
  have a2 := hab.cell 2 _ rfl
  have a3 := hab.cell 3 _ rfl
  have a4 := hab.cell 4 _ rfl
  clear hab
  go_wp2_with (fail)
  refine HCR.out.mono ?_
  rintro e1 w6 ⟨t', nv, rfl, ho6, ht6, hp6, hk6, hf6⟩
  have HF6 := Lib.hid hf6
  obtain ⟨na, nc, rfl⟩ := owns_slice ho6
  have hB6 := (HB.out.kp HX2.out (fun f => f)).kp hk6 (fun h => by have := HFR.out _ h; omega)
  have HB6 := Lib.hid hB6
  have HT6 := Lib.hid ht6
  have HO6 := Lib.hid ho6
  have HP6 := Lib.hid hp6
  have HK6 : Hid (Kp (nodeFr m t) w w6) := (Ext.kp (HXB.out.ext HX2.out)).trans hk6
  unfold rsZ at hB6
  have c0 := hB6.cell 0 _ rfl
  have c1 := hB6.cell 1 _ rfl
  have c2 := hB6.cell 2 _ rfl
  have c3 := hB6.cell 3 _ rfl
  have c4 := hB6.cell 4 _ rfl
  have c5 := hB6.cell 5 _ rfl
  have c6 := hB6.cell 6 _ rfl
  have c7 := hB6.cell 7 _ rfl
  have c8 := hB6.cell 8 _ rfl
  have c9 := hB6.cell 9 _ rfl
  have c10 := hB6.cell 10 _ rfl
  have fc0 := hB6.free 0
  have fc1 := hB6.free 1
  have fc2 := hB6.free 2
  have fc3 := hB6.free 3
  have fc4 := hB6.free 4
  have fc5 := hB6.free 5
  have fc6 := hB6.free 6
  have fc7 := hB6.free 7
  have fc8 := hB6.free 8
  have fc9 := hB6.free 9
  have fc10 := hB6.free 10
  clear hB6 ht6 ho6 hp6 hk6 hf6 HCR
  unfold resA
  go_wp2_with (fail)
  go_light
  refine bodyPost_ret (v := resA R.2.err R.2.path R.2.data (.slice na R.2.names.length nc) R.2.st) (by simp [results, Tryz.results11, go_sem, resA, c0, c1, c2, c3, c4, c5, c6, c7, c8, c9, c10]) rfl ?_
  have k11 := kp_set11 w6 (w.heap.size + 1) (.int .i64 R.2.err) (.string R.2.path) (.string R.2.data) (.slice na R.2.names.length nc) (.int .i64 R.2.st.made) (.int .i64 R.2.st.chg) (.int .i64 R.2.st.ver) (.int .i64 R.2.st.kids) (.int .i64 R.2.st.own) (.int .i64 R.2.st.len) (.int .i64 R.2.st.cnt)
  exact ⟨t', _, rfl, own_aside HO6.out HB6.out (by decide) k11, HT6.out.aside HB6.out (by decide) (by decide) (by decide) k11, HP6.out, HK6.out.next k11 (fun i hi e => by omega), HF6.out.mono (HXB.out.ext HX2.out).size⟩
end Go.Proofs.YtdagikbdpeblhaaGreatDoor
