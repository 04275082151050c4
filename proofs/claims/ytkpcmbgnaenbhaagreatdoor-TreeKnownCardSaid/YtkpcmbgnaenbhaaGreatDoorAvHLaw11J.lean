/- Walks of package aviarylaw11: TreeKnown (printed by tools/gen11k.py). -/
import Derived.Test.YtkpcmbgnaenbhaaGreatDoorAvG42
import Derived.Test.YtkpcmbgnaenbhaaGreatDoorAvHOwners
namespace Go.Proofs.YtkpcmbgnaenbhaaGreatDoor
set_option maxRecDepth 100000
open Go.RowKit Av

set_option maxHeartbeats 800000 in
theorem treeNew_bad (room : Int) (w : World) (h : room < 1 ∨ 500 < room) : Calls Tryz.prog 10 #[.int .i64 room] w fun e w' => e = .returned (.tuple #[.pointer none, .int .i64 1]) ∧ Ext w w' := by
  by_cases h1 : room < 1
  · go_enter Tryz.func10, Tryz.ntmps10
    go_wp2_with (fail)
    go_ret2
    exact ⟨rfl, Kp.refl _ _⟩
  · have h2 : 500 < room := by omega
    go_enter Tryz.func10, Tryz.ntmps10
    go_wp2_with (fail)
    go_ret2
    exact ⟨rfl, Kp.refl _ _⟩
def ko1 : OpV := ⟨1, ⟨#[47, 97, 47, 98]⟩, ⟨#[]⟩, 0, 0⟩
def kn1 : Pt × Rp := doP 3 ([] : Pt) ko1 1 1 false
def ko2 : OpV := ⟨1, ⟨#[47, 97]⟩, ⟨#[]⟩, 0, 0⟩
def kn2 : Pt × Rp := doP 3 kn1.1 ko2 1 1 false
def ko3 : OpV := ⟨1, ⟨#[47, 97]⟩, ⟨#[]⟩, 0, 0⟩
def kn3 : Pt × Rp := doP 3 kn2.1 ko3 1 2 false
def ko4 : OpV := ⟨1, ⟨#[47, 101]⟩, ⟨#[]⟩, 0, 1⟩
def kn4 : Pt × Rp := doP 3 kn3.1 ko4 5 3 false
def ko5 : OpV := ⟨1, ⟨#[47, 101, 47, 120]⟩, ⟨#[]⟩, 0, 0⟩
def kn5 : Pt × Rp := doP 3 kn4.1 ko5 1 4 false
def ko6 : OpV := ⟨1, ⟨#[47, 97, 47, 98]⟩, ⟨#[]⟩, 0, 0⟩
def kn6 : Pt × Rp := doP 3 kn5.1 ko6 1 5 false
def ko7 : OpV := ⟨1, ⟨#[47, 99]⟩, ⟨#[]⟩, 0, 0⟩
def kn7 : Pt × Rp := doP 3 kn6.1 ko7 1 6 false
def ko8 : OpV := ⟨2, ⟨#[47, 97]⟩, ⟨#[]⟩, -1, 0⟩
def kn8 : Pt × Rp := doP 3 kn7.1 ko8 1 7 false
def ko9 : OpV := ⟨3, ⟨#[47, 97]⟩, ⟨#[120]⟩, 3, 0⟩
def kn9 : Pt × Rp := doP 3 kn8.1 ko9 1 8 false
def ko10 : OpV := ⟨5, ⟨#[47, 97]⟩, ⟨#[]⟩, 0, 0⟩
def kn10 : Pt × Rp := doP 3 kn9.1 ko10 0 9 false
def ko11 : OpV := ⟨2, ⟨#[47, 97, 47, 98]⟩, ⟨#[]⟩, 0, 0⟩
def kn11 : Pt × Rp := doP 3 kn10.1 ko11 1 9 true
def ko12 : OpV := ⟨7, ⟨#[47, 97]⟩, ⟨#[]⟩, 0, 0⟩
def kn12 : Pt × Rp := doP 3 kn11.1 ko12 1 9 false
theorem kn_errs : kn1.2.err = 4 ∧ kn3.2.err = 5 ∧ kn5.2.err = 8 ∧ kn7.2.err = 9 ∧ kn8.2.err = 7 ∧ kn9.2.err = 6 ∧ kn10.2.err = 1 ∧ kn11.2.err = 0 ∧ kn12.2.names.length = 1 := by decide +kernel
theorem kn_names : ¬ Named [[98], [97]] := by
  rintro ⟨h, _⟩
  obtain ⟨h1, _, _, h3⟩ := h 1 (by decide)
  exact absurd (show ([98] : Bs) < [97] from h3 (by decide)) (by decide)
theorem good_both {room : Int} {S : List Int} {P : Pt} {K : Nat} (h : GoodT room S P ∧ PtK K P) (o : OpV) {sess : Int} (z : Int) (hs : 1 ≤ sess → sess ∈ S) : GoodT room S (doP room P o sess z false).1 ∧ PtK (K + 1) (doP room P o sess z false).1 :=
  ⟨h.1.step h.2 o z hs, h.2.doP _ _ _ _ _⟩
theorem kn_start : GoodT 3 [1, 5] [] ∧ PtK 0 [] := ⟨GoodT.nil (by decide) _, PtK.nil⟩
theorem kn_good1 : GoodT 3 [1, 5] kn1.1 ∧ PtK 1 kn1.1 := good_both kn_start ko1 1 (by decide)
theorem kn_good2 : GoodT 3 [1, 5] kn2.1 ∧ PtK 2 kn2.1 := good_both kn_good1 ko2 1 (by decide)
theorem kn_good3 : GoodT 3 [1, 5] kn3.1 ∧ PtK 3 kn3.1 := good_both kn_good2 ko3 2 (by decide)
theorem kn_good4 : GoodT 3 [1, 5] kn4.1 ∧ PtK 4 kn4.1 := good_both kn_good3 ko4 3 (by decide)
theorem kn_good5 : GoodT 3 [1, 5] kn5.1 ∧ PtK 5 kn5.1 := good_both kn_good4 ko5 4 (by decide)
theorem kn_good6 : GoodT 3 [1, 5] kn6.1 ∧ PtK 6 kn6.1 := good_both kn_good5 ko6 5 (by decide)
theorem kn_good7 : GoodT 3 [1, 5] kn7.1 ∧ PtK 7 kn7.1 := good_both kn_good6 ko7 6 (by decide)
theorem kn_good8 : GoodT 3 [1, 5] kn8.1 ∧ PtK 8 kn8.1 := good_both kn_good7 ko8 7 (by decide)
theorem kn_good9 : GoodT 3 [1, 5] kn9.1 ∧ PtK 9 kn9.1 := good_both kn_good8 ko9 8 (by decide)
theorem kn_good10 : GoodT 3 [1, 5] kn10.1 ∧ PtK 10 kn10.1 := good_both kn_good9 ko10 9 (by decide)
theorem kn_good11 : GoodT 3 [1, 5] kn11.1 ∧ PtK 11 kn11.1 := by
  rw [show kn11.1 = kn10.1 from doP_try _ _ _ _ _]
  exact ⟨kn_good10.1, kn_good10.2.mono (by decide)⟩
theorem kn_good12 : GoodT 3 [1, 5] kn12.1 ∧ PtK 12 kn12.1 := good_both kn_good11 ko12 9 (by decide)
theorem kn_good : GoodT 3 [1, 5] kn12.1 ∧ PtK 12 kn12.1 := kn_good12
theorem kn_keys : kn12.1.map (fun e => e.1.data.toList) = [[47, 97], [47, 101], [47, 97, 47, 98]] := by decide +kernel
theorem kn_paths : pathsP kn12.1 = [[47, 97], [47, 97, 47, 98], [47, 101]] := by
  refine rising_ext (pathsP_rising kn_good.2.1) (by decide) (fun x => ?_)
  have h1 : x ∈ pathsP kn12.1 ↔ x ∈ kn12.1.map (fun e => e.1.data.toList) := by rw [pathsP_mem, List.mem_map]
  rw [h1, kn_keys]
  simp only [List.mem_cons, List.not_mem_nil, or_false]
  constructor
  · rintro (h | h | h) <;> simp [h]
  · rintro (h | h | h) <;> simp [h]
theorem kn_of : ofS kn12.1 (pathsP kn12.1) 5 = [[47, 101]] := by
  rw [kn_paths]
  decide +kernel
/-- Results that are kept in blocks: their errors. -/
def Saved (w : World) (l : List (Nat × Int)) : Prop := ∀ x ∈ l, ∃ A, Blk w x.1 A rsuT ∧ A[0]? = some (.int .i64 x.2)
theorem Saved.ext {w w' : World} {l : List (Nat × Int)} (h : Saved w l) (k : Ext w w') : Saved w' l := fun x hx => by
  obtain ⟨A, h1, h2⟩ := h x hx
  exact ⟨A, h1.kp k (fun f => f), h2⟩
theorem Saved.under {w w' : World} {base b m : Nat} {room : Int} {t : Tr} {l : List (Nat × Int)} (h : Saved w l) (ht : TreeR w base b m room t) (k : Kp (nodeFr m t) w w') : Saved w' l := fun x hx => by
  obtain ⟨A, h1, h2⟩ := h x hx
  exact ⟨A, ht.blk' k h1 (by decide), h2⟩
theorem Saved.add {w : World} {l : List (Nat × Int)} (h : Saved w l) {g : Nat} {A : Array Value} {e : Int} (hb : Blk w g A rsuT) (h0 : A[0]? = some (.int .i64 e)) : Saved w (l ++ [(g, e)]) := fun x hx => by
  rcases List.mem_append.1 hx with hx | hx
  · exact h x hx
  · rw [List.mem_singleton.1 hx]; exact ⟨A, hb, h0⟩
theorem Saved.get {w : World} {l : List (Nat × Int)} (h : Saved w l) {g : Nat} {e : Int} (hm : (g, e) ∈ l) : w.cell? ⟨g, 0, none⟩ = some (.int .i64 e) := by
  obtain ⟨A, h1, h2⟩ := h _ hm
  exact h1.cell 0 _ h2
set_option maxHeartbeats 40000000 in
theorem treeKnown_any (w : World) (hG : GT w) : Calls Tryz.prog 7 #[] w fun e w' => e = .returned (.bool true) ∧ Ext w w' := by
  have HG := Lib.hid hG
  clear hG
  go_enter Tryz.func7, Tryz.ntmps7
  go_wp2_with (fail)
  refine (awake_any w HG.out).mono ?_
  rintro e w0 ⟨rfl, hx0⟩
  have HX0 := Lib.hid hx0
  have HG0 := Lib.hid (HG.out.ext hx0)
  clear hx0 HG
  go_wp2_with (fail)
  refine (treeNew_bad 0 _ (by omega)).mono ?_
  rintro e wa ⟨rfl, hxa⟩
  have HXa := Lib.hid hxa
  clear hxa
  go_wp2_with (fail)
  refine (treeNew_bad 501 _ (by omega)).mono ?_
  rintro e wb ⟨rfl, hxb⟩
  have HXb := Lib.hid (HXa.out.trans hxb)
  clear hxb HXa
  go_wp2_with (fail)
  refine (tsNew 3 w0 _ HXb.out (by omega) (by omega)).mono ?_
  rintro e x0 ⟨b, m, rfl, h1, _, _, _⟩
  have HT0 := Lib.hid h1
  have HP0 : Hid (pl ([] : Tr) = ([] : Pt)) := rfl
  have HS0 : Hid (Saved x0 []) := fun x hx => by (cases hx)
  clear h1 HXb
  go_wp2_with (fail)
  refine (made_any _ _ _).mono ?_
  rintro e y1 ⟨rfl, hy⟩
  have HTy := Lib.hid (HT0.out.ext hy)
  have HSy := Lib.hid (HS0.out.ext hy)
  clear hy HT0 HS0
  have HD := Lib.hid (by have := tsDo HTy.out HG0.out (by omega) ko1 1 1 (by decide) (by decide); rw [HP0.out] at this; exact (show Calls _ _ _ _ (fun e w' => TDone w0 _ b m 3 _ _ kn1 e w') from this))
  unfold ko1 at HD
  go_wp2_with (fail)
  refine HD.out.mono ?_
  rintro e z1 ⟨t1, nv, rfl, ho, ht, hp, hk, hf⟩
  have HP1 := Lib.hid (show pl t1 = kn1.1 from hp)
  have HSz := Lib.hid (HSy.out.under HTy.out.tr hk)
  obtain ⟨a1, c1, rfl⟩ := owns_slice ho
  obtain ⟨x1, hX⟩ : ∃ wA, z1.alloc (.cells #[.int .i64 kn1.2.err, .string kn1.2.path, .string kn1.2.data, .slice a1 kn1.2.names.length c1, .int .i64 kn1.2.st.made, .int .i64 kn1.2.st.chg, .int .i64 kn1.2.st.ver, .int .i64 kn1.2.st.kids, .int .i64 kn1.2.st.own, .int .i64 kn1.2.st.len, .int .i64 kn1.2.st.cnt] rsuT) = wA := ⟨_, rfl⟩
  have hxA : Ext z1 x1 := by rw [← hX]; exact (Kp.refl _ _).alloc _
  have hA : Blk x1 z1.heap.size (resB kn1.2 a1 c1) rsuT := by rw [← hX]; exact heap_alloc_new z1 _
  have HS1 := Lib.hid ((HSz.out.ext hxA).add hA (rfl : (resB kn1.2 a1 c1)[0]? = some (.int .i64 kn1.2.err)))
  have HT1 := Lib.hid (ht.ext hxA)
  have HX := Lib.hid hX
  clear hX hxA hA ho ht hp hk hf HD HSz HTy HSy HP0
  unfold resA
  go_upto_region 7 with (fail)
  rw [HX.out]
  clear HX
  go_wp2_with (fail)
  refine (made_any _ _ _).mono ?_
  rintro e y2 ⟨rfl, hy⟩
  have HTy := Lib.hid (HT1.out.ext hy)
  have HSy := Lib.hid (HS1.out.ext hy)
  clear hy HT1 HS1
  have HD := Lib.hid (by have := tsDo HTy.out HG0.out (by omega) ko2 1 1 (by decide) (by decide); rw [HP1.out] at this; exact (show Calls _ _ _ _ (fun e w' => TDone w0 _ b m 3 _ _ kn2 e w') from this))
  unfold ko2 at HD
  go_wp2_with (fail)
  refine HD.out.mono ?_
  rintro e z2 ⟨t2, nv, rfl, ho, ht, hp, hk, hf⟩
  have HP2 := Lib.hid (show pl t2 = kn2.1 from hp)
  have HSz := Lib.hid (HSy.out.under HTy.out.tr hk)
  have HT2 := Lib.hid ht
  have HS2 := HSz
  clear ho ht hp hk hf HD HSz HTy HSy HP1
  go_wp2_with (fail)
  refine (made_any _ _ _).mono ?_
  rintro e y3 ⟨rfl, hy⟩
  have HTy := Lib.hid (HT2.out.ext hy)
  have HSy := Lib.hid (HS2.out.ext hy)
  clear hy HT2 HS2
  have HD := Lib.hid (by have := tsDo HTy.out HG0.out (by omega) ko3 1 2 (by decide) (by decide); rw [HP2.out] at this; exact (show Calls _ _ _ _ (fun e w' => TDone w0 _ b m 3 _ _ kn3 e w') from this))
  unfold ko3 at HD
  go_wp2_with (fail)
  refine HD.out.mono ?_
  rintro e z3 ⟨t3, nv, rfl, ho, ht, hp, hk, hf⟩
  have HP3 := Lib.hid (show pl t3 = kn3.1 from hp)
  have HSz := Lib.hid (HSy.out.under HTy.out.tr hk)
  obtain ⟨a3, c3, rfl⟩ := owns_slice ho
  obtain ⟨x3, hX⟩ : ∃ wA, z3.alloc (.cells #[.int .i64 kn3.2.err, .string kn3.2.path, .string kn3.2.data, .slice a3 kn3.2.names.length c3, .int .i64 kn3.2.st.made, .int .i64 kn3.2.st.chg, .int .i64 kn3.2.st.ver, .int .i64 kn3.2.st.kids, .int .i64 kn3.2.st.own, .int .i64 kn3.2.st.len, .int .i64 kn3.2.st.cnt] rsuT) = wA := ⟨_, rfl⟩
  have hxA : Ext z3 x3 := by rw [← hX]; exact (Kp.refl _ _).alloc _
  have hA : Blk x3 z3.heap.size (resB kn3.2 a3 c3) rsuT := by rw [← hX]; exact heap_alloc_new z3 _
  have HS3 := Lib.hid ((HSz.out.ext hxA).add hA (rfl : (resB kn3.2 a3 c3)[0]? = some (.int .i64 kn3.2.err)))
  have HT3 := Lib.hid (ht.ext hxA)
  have HX := Lib.hid hX
  clear hX hxA hA ho ht hp hk hf HD HSz HTy HSy HP2
  unfold resA
  go_upto_region 9 with (fail)
  rw [HX.out]
  clear HX
  go_wp2_with (fail)
  refine (made_any _ _ _).mono ?_
  rintro e y4 ⟨rfl, hy⟩
  have HTy := Lib.hid (HT3.out.ext hy)
  have HSy := Lib.hid (HS3.out.ext hy)
  clear hy HT3 HS3
  have HD := Lib.hid (by have := tsDo HTy.out HG0.out (by omega) ko4 5 3 (by decide) (by decide); rw [HP3.out] at this; exact (show Calls _ _ _ _ (fun e w' => TDone w0 _ b m 3 _ _ kn4 e w') from this))
  unfold ko4 at HD
  go_wp2_with (fail)
  refine HD.out.mono ?_
  rintro e z4 ⟨t4, nv, rfl, ho, ht, hp, hk, hf⟩
  have HP4 := Lib.hid (show pl t4 = kn4.1 from hp)
  have HSz := Lib.hid (HSy.out.under HTy.out.tr hk)
  have HT4 := Lib.hid ht
  have HS4 := HSz
  clear ho ht hp hk hf HD HSz HTy HSy HP3
  go_wp2_with (fail)
  refine (made_any _ _ _).mono ?_
  rintro e y5 ⟨rfl, hy⟩
  have HTy := Lib.hid (HT4.out.ext hy)
  have HSy := Lib.hid (HS4.out.ext hy)
  clear hy HT4 HS4
  have HD := Lib.hid (by have := tsDo HTy.out HG0.out (by omega) ko5 1 4 (by decide) (by decide); rw [HP4.out] at this; exact (show Calls _ _ _ _ (fun e w' => TDone w0 _ b m 3 _ _ kn5 e w') from this))
  unfold ko5 at HD
  go_wp2_with (fail)
  refine HD.out.mono ?_
  rintro e z5 ⟨t5, nv, rfl, ho, ht, hp, hk, hf⟩
  have HP5 := Lib.hid (show pl t5 = kn5.1 from hp)
  have HSz := Lib.hid (HSy.out.under HTy.out.tr hk)
  obtain ⟨a5, c5, rfl⟩ := owns_slice ho
  obtain ⟨x5, hX⟩ : ∃ wA, z5.alloc (.cells #[.int .i64 kn5.2.err, .string kn5.2.path, .string kn5.2.data, .slice a5 kn5.2.names.length c5, .int .i64 kn5.2.st.made, .int .i64 kn5.2.st.chg, .int .i64 kn5.2.st.ver, .int .i64 kn5.2.st.kids, .int .i64 kn5.2.st.own, .int .i64 kn5.2.st.len, .int .i64 kn5.2.st.cnt] rsuT) = wA := ⟨_, rfl⟩
  have hxA : Ext z5 x5 := by rw [← hX]; exact (Kp.refl _ _).alloc _
  have hA : Blk x5 z5.heap.size (resB kn5.2 a5 c5) rsuT := by rw [← hX]; exact heap_alloc_new z5 _
  have HS5 := Lib.hid ((HSz.out.ext hxA).add hA (rfl : (resB kn5.2 a5 c5)[0]? = some (.int .i64 kn5.2.err)))
  have HT5 := Lib.hid (ht.ext hxA)
  have HX := Lib.hid hX
  clear hX hxA hA ho ht hp hk hf HD HSz HTy HSy HP4
  unfold resA
  go_upto_region 11 with (fail)
  rw [HX.out]
  clear HX
  go_wp2_with (fail)
  refine (made_any _ _ _).mono ?_
  rintro e y6 ⟨rfl, hy⟩
  have HTy := Lib.hid (HT5.out.ext hy)
  have HSy := Lib.hid (HS5.out.ext hy)
  clear hy HT5 HS5
  have HD := Lib.hid (by have := tsDo HTy.out HG0.out (by omega) ko6 1 5 (by decide) (by decide); rw [HP5.out] at this; exact (show Calls _ _ _ _ (fun e w' => TDone w0 _ b m 3 _ _ kn6 e w') from this))
  unfold ko6 at HD
  go_wp2_with (fail)
  refine HD.out.mono ?_
  rintro e z6 ⟨t6, nv, rfl, ho, ht, hp, hk, hf⟩
  have HP6 := Lib.hid (show pl t6 = kn6.1 from hp)
  have HSz := Lib.hid (HSy.out.under HTy.out.tr hk)
  have HT6 := Lib.hid ht
  have HS6 := HSz
  clear ho ht hp hk hf HD HSz HTy HSy HP5
  go_wp2_with (fail)
  refine (made_any _ _ _).mono ?_
  rintro e y7 ⟨rfl, hy⟩
  have HTy := Lib.hid (HT6.out.ext hy)
  have HSy := Lib.hid (HS6.out.ext hy)
  clear hy HT6 HS6
  have HD := Lib.hid (by have := tsDo HTy.out HG0.out (by omega) ko7 1 6 (by decide) (by decide); rw [HP6.out] at this; exact (show Calls _ _ _ _ (fun e w' => TDone w0 _ b m 3 _ _ kn7 e w') from this))
  unfold ko7 at HD
  go_wp2_with (fail)
  refine HD.out.mono ?_
  rintro e z7 ⟨t7, nv, rfl, ho, ht, hp, hk, hf⟩
  have HP7 := Lib.hid (show pl t7 = kn7.1 from hp)
  have HSz := Lib.hid (HSy.out.under HTy.out.tr hk)
  obtain ⟨a7, c7, rfl⟩ := owns_slice ho
  obtain ⟨x7, hX⟩ : ∃ wA, z7.alloc (.cells #[.int .i64 kn7.2.err, .string kn7.2.path, .string kn7.2.data, .slice a7 kn7.2.names.length c7, .int .i64 kn7.2.st.made, .int .i64 kn7.2.st.chg, .int .i64 kn7.2.st.ver, .int .i64 kn7.2.st.kids, .int .i64 kn7.2.st.own, .int .i64 kn7.2.st.len, .int .i64 kn7.2.st.cnt] rsuT) = wA := ⟨_, rfl⟩
  have hxA : Ext z7 x7 := by rw [← hX]; exact (Kp.refl _ _).alloc _
  have hA : Blk x7 z7.heap.size (resB kn7.2 a7 c7) rsuT := by rw [← hX]; exact heap_alloc_new z7 _
  have HS7 := Lib.hid ((HSz.out.ext hxA).add hA (rfl : (resB kn7.2 a7 c7)[0]? = some (.int .i64 kn7.2.err)))
  have HT7 := Lib.hid (ht.ext hxA)
  have HX := Lib.hid hX
  clear hX hxA hA ho ht hp hk hf HD HSz HTy HSy HP6
  unfold resA
  go_upto_region 13 with (fail)
  rw [HX.out]
  clear HX
  have HD := Lib.hid (by have := tsDo HT7.out HG0.out (by omega) ko8 1 7 (by decide) (by decide); rw [HP7.out] at this; exact (show Calls _ _ _ _ (fun e w' => TDone w0 _ b m 3 _ _ kn8 e w') from this))
  unfold ko8 at HD
  go_wp2_with (fail)
  refine HD.out.mono ?_
  rintro e z8 ⟨t8, nv, rfl, ho, ht, hp, hk, hf⟩
  have HP8 := Lib.hid (show pl t8 = kn8.1 from hp)
  have HSz := Lib.hid (HS7.out.under HT7.out.tr hk)
  obtain ⟨a8, c8, rfl⟩ := owns_slice ho
  obtain ⟨x8, hX⟩ : ∃ wA, z8.alloc (.cells #[.int .i64 kn8.2.err, .string kn8.2.path, .string kn8.2.data, .slice a8 kn8.2.names.length c8, .int .i64 kn8.2.st.made, .int .i64 kn8.2.st.chg, .int .i64 kn8.2.st.ver, .int .i64 kn8.2.st.kids, .int .i64 kn8.2.st.own, .int .i64 kn8.2.st.len, .int .i64 kn8.2.st.cnt] rsuT) = wA := ⟨_, rfl⟩
  have hxA : Ext z8 x8 := by rw [← hX]; exact (Kp.refl _ _).alloc _
  have hA : Blk x8 z8.heap.size (resB kn8.2 a8 c8) rsuT := by rw [← hX]; exact heap_alloc_new z8 _
  have HS8 := Lib.hid ((HSz.out.ext hxA).add hA (rfl : (resB kn8.2 a8 c8)[0]? = some (.int .i64 kn8.2.err)))
  have HT8 := Lib.hid (ht.ext hxA)
  have HX := Lib.hid hX
  clear hX hxA hA ho ht hp hk hf HD HSz HT7 HS7 HP7
  unfold resA
  go_upto_region 14 with (fail)
  rw [HX.out]
  clear HX
  have HD := Lib.hid (by have := tsDo HT8.out HG0.out (by omega) ko9 1 8 (by decide) (by decide); rw [HP8.out] at this; exact (show Calls _ _ _ _ (fun e w' => TDone w0 _ b m 3 _ _ kn9 e w') from this))
  unfold ko9 at HD
  go_wp2_with (fail)
  refine HD.out.mono ?_
  rintro e z9 ⟨t9, nv, rfl, ho, ht, hp, hk, hf⟩
  have HP9 := Lib.hid (show pl t9 = kn9.1 from hp)
  have HSz := Lib.hid (HS8.out.under HT8.out.tr hk)
  obtain ⟨a9, c9, rfl⟩ := owns_slice ho
  obtain ⟨x9, hX⟩ : ∃ wA, z9.alloc (.cells #[.int .i64 kn9.2.err, .string kn9.2.path, .string kn9.2.data, .slice a9 kn9.2.names.length c9, .int .i64 kn9.2.st.made, .int .i64 kn9.2.st.chg, .int .i64 kn9.2.st.ver, .int .i64 kn9.2.st.kids, .int .i64 kn9.2.st.own, .int .i64 kn9.2.st.len, .int .i64 kn9.2.st.cnt] rsuT) = wA := ⟨_, rfl⟩
  have hxA : Ext z9 x9 := by rw [← hX]; exact (Kp.refl _ _).alloc _
  have hA : Blk x9 z9.heap.size (resB kn9.2 a9 c9) rsuT := by rw [← hX]; exact heap_alloc_new z9 _
  have HS9 := Lib.hid ((HSz.out.ext hxA).add hA (rfl : (resB kn9.2 a9 c9)[0]? = some (.int .i64 kn9.2.err)))
  have HT9 := Lib.hid (ht.ext hxA)
  have HX := Lib.hid hX
  clear hX hxA hA ho ht hp hk hf HD HSz HT8 HS8 HP8
  unfold resA
  go_upto_region 15 with (fail)
  rw [HX.out]
  clear HX
  have HD := Lib.hid (by have := tsDo HT9.out HG0.out (by omega) ko10 0 9 (by decide) (by decide); rw [HP9.out] at this; exact (show Calls _ _ _ _ (fun e w' => TDone w0 _ b m 3 _ _ kn10 e w') from this))
  unfold ko10 at HD
  go_wp2_with (fail)
  refine HD.out.mono ?_
  rintro e z10 ⟨t10, nv, rfl, ho, ht, hp, hk, hf⟩
  have HP10 := Lib.hid (show pl t10 = kn10.1 from hp)
  have HSz := Lib.hid (HS9.out.under HT9.out.tr hk)
  obtain ⟨a10, c10, rfl⟩ := owns_slice ho
  obtain ⟨x10, hX⟩ : ∃ wA, z10.alloc (.cells #[.int .i64 kn10.2.err, .string kn10.2.path, .string kn10.2.data, .slice a10 kn10.2.names.length c10, .int .i64 kn10.2.st.made, .int .i64 kn10.2.st.chg, .int .i64 kn10.2.st.ver, .int .i64 kn10.2.st.kids, .int .i64 kn10.2.st.own, .int .i64 kn10.2.st.len, .int .i64 kn10.2.st.cnt] rsuT) = wA := ⟨_, rfl⟩
  have hxA : Ext z10 x10 := by rw [← hX]; exact (Kp.refl _ _).alloc _
  have hA : Blk x10 z10.heap.size (resB kn10.2 a10 c10) rsuT := by rw [← hX]; exact heap_alloc_new z10 _
  have HS10 := Lib.hid ((HSz.out.ext hxA).add hA (rfl : (resB kn10.2 a10 c10)[0]? = some (.int .i64 kn10.2.err)))
  have HT10 := Lib.hid (ht.ext hxA)
  have HX := Lib.hid hX
  clear hX hxA hA ho ht hp hk hf HD HSz HT9 HS9 HP9
  unfold resA
  go_upto_region 16 with (fail)
  rw [HX.out]
  clear HX
  have HD := Lib.hid (by have := tsTry HT10.out HG0.out (by omega) ko11 1 9 (by decide) (by decide); rw [HP10.out] at this; exact (show Calls _ _ _ _ (fun e w' => TDone w0 _ b m 3 _ _ kn11 e w') from this))
  unfold ko11 at HD
  go_wp2_with (fail)
  refine HD.out.mono ?_
  rintro e z11 ⟨t11, nv, rfl, ho, ht, hp, hk, hf⟩
  have HP11 := Lib.hid (show pl t11 = kn11.1 from hp)
  have HSz := Lib.hid (HS10.out.under HT10.out.tr hk)
  obtain ⟨a11, c11, rfl⟩ := owns_slice ho
  obtain ⟨x11, hX⟩ : ∃ wA, z11.alloc (.cells #[.int .i64 kn11.2.err, .string kn11.2.path, .string kn11.2.data, .slice a11 kn11.2.names.length c11, .int .i64 kn11.2.st.made, .int .i64 kn11.2.st.chg, .int .i64 kn11.2.st.ver, .int .i64 kn11.2.st.kids, .int .i64 kn11.2.st.own, .int .i64 kn11.2.st.len, .int .i64 kn11.2.st.cnt] rsuT) = wA := ⟨_, rfl⟩
  have hxA : Ext z11 x11 := by rw [← hX]; exact (Kp.refl _ _).alloc _
  have hA : Blk x11 z11.heap.size (resB kn11.2 a11 c11) rsuT := by rw [← hX]; exact heap_alloc_new z11 _
  have HS11 := Lib.hid ((HSz.out.ext hxA).add hA (rfl : (resB kn11.2 a11 c11)[0]? = some (.int .i64 kn11.2.err)))
  have HT11 := Lib.hid (ht.ext hxA)
  have HX := Lib.hid hX
  clear hX hxA hA ho ht hp hk hf HD HSz HT10 HS10 HP10
  unfold resA
  go_upto_region 17 with (fail)
  rw [HX.out]
  clear HX
  have HD := Lib.hid (by have := tsDo HT11.out HG0.out (by omega) ko12 1 9 (by decide) (by decide); rw [HP11.out] at this; exact (show Calls _ _ _ _ (fun e w' => TDone w0 _ b m 3 _ _ kn12 e w') from this))
  unfold ko12 at HD
  go_wp2_with (fail)
  refine HD.out.mono ?_
  rintro e z12 ⟨t12, nv, rfl, ho, ht, hp, hk, hf⟩
  have HP12 := Lib.hid (show pl t12 = kn12.1 from hp)
  have HSz := Lib.hid (HS11.out.under HT11.out.tr hk)
  obtain ⟨a12, c12, rfl⟩ := owns_slice ho
  obtain ⟨x12, hX⟩ : ∃ wA, z12.alloc (.cells #[.int .i64 kn12.2.err, .string kn12.2.path, .string kn12.2.data, .slice a12 kn12.2.names.length c12, .int .i64 kn12.2.st.made, .int .i64 kn12.2.st.chg, .int .i64 kn12.2.st.ver, .int .i64 kn12.2.st.kids, .int .i64 kn12.2.st.own, .int .i64 kn12.2.st.len, .int .i64 kn12.2.st.cnt] rsuT) = wA := ⟨_, rfl⟩
  have hxA : Ext z12 x12 := by rw [← hX]; exact (Kp.refl _ _).alloc _
  have hA : Blk x12 z12.heap.size (resB kn12.2 a12 c12) rsuT := by rw [← hX]; exact heap_alloc_new z12 _
  have HS12 := Lib.hid ((HSz.out.ext hxA).add hA (rfl : (resB kn12.2 a12 c12)[0]? = some (.int .i64 kn12.2.err)))
  have HA12 := Lib.hid hA
  have HT12 := Lib.hid (ht.ext hxA)
  have HX := Lib.hid hX
  clear hX hxA hA ho ht hp hk hf HD HSz HT11 HS11 HP11
  unfold resA
  go_upto_region 18 with (fail)
  rw [HX.out]
  clear HX
  have hxL : Ext x12 (x12.alloc (.cells #[.string ⟨#[98]⟩, .string ⟨#[97]⟩] strT)) := (Kp.refl _ _).alloc _
  have hTL := HT12.out.ext hxL
  have hnl : NmS (x12.alloc (.cells #[.string ⟨#[98]⟩, .string ⟨#[97]⟩] strT)) (.slice (some ⟨x12.heap.size, 0, none⟩) 2 2) [[98], [97]] := ⟨Sl.of_block (xs := [.string ⟨#[98]⟩, .string ⟨#[97]⟩]) (heap_alloc_new x12 _) rfl (by decide) (Nat.le_refl _), .some⟩
  have HLD := Lib.hid (by have := treeLoad_any w0.heap.size b m 3 t12 ⟨#[47, 120]⟩ ⟨0, 0, 0, 0, 0, 0, 0, ⟨#[]⟩, 0, [[98], [97]]⟩ (.slice (some ⟨x12.heap.size, 0, none⟩) 2 2) false _ hTL.tr (HG0.out.ext hTL.ex).gl (by decide) hnl (by decide) (by decide) ⟨fun h => (by cases h), fun h => absurd h.2 kn_names⟩; rw [show ∀ P n, loadP false 3 P ⟨#[47, 120]⟩ n = (P, 1) from fun P n => if_pos rfl] at this; exact this)
  unfold ndA at HLD
  have HTL := Lib.hid hTL
  have HSL := Lib.hid (HS12.out.ext hxL)
  have HAL := Lib.hid (HA12.out.kp hxL (fun f => f))
  clear hxL hTL hnl HT12 HS12 HA12
  go_wp2_with (fail)
  refine HLD.out.mono ?_
  rintro e xL ⟨tL, rfl, htL, hpL, hkL, _⟩
  have HTM := Lib.hid (show TS w0 xL b m 3 _ tL from ⟨htL, by rw [hpL]; exact HTL.out.pk, HTL.out.step hkL⟩)
  have HPL := Lib.hid (hpL.trans HP12.out)
  have hSM := HSL.out.under HTL.out.tr hkL
  have hAM := HTL.out.tr.blk' hkL HAL.out (by decide)
  obtain ⟨e1, e3, e5, e7, e8, e9, e10, e11, e12⟩ := kn_errs
  have r1 := hSM.get (g := z1.heap.size) (e := kn1.2.err) (by simp)
  rw [e1] at r1
  have r3 := hSM.get (g := z3.heap.size) (e := kn3.2.err) (by simp)
  rw [e3] at r3
  have r5 := hSM.get (g := z5.heap.size) (e := kn5.2.err) (by simp)
  rw [e5] at r5
  have r7 := hSM.get (g := z7.heap.size) (e := kn7.2.err) (by simp)
  rw [e7] at r7
  have r8 := hSM.get (g := z8.heap.size) (e := kn8.2.err) (by simp)
  rw [e8] at r8
  have r9 := hSM.get (g := z9.heap.size) (e := kn9.2.err) (by simp)
  rw [e9] at r9
  have r10 := hSM.get (g := z10.heap.size) (e := kn10.2.err) (by simp)
  rw [e10] at r10
  have r11 := hSM.get (g := z11.heap.size) (e := kn11.2.err) (by simp)
  rw [e11] at r11
  have r12 : xL.cell? ⟨z12.heap.size, 3, none⟩ = some (.slice a12 kn12.2.names.length c12) := hAM.cell 3 _ rfl
  rw [e12] at r12
  have HSD : Hid (SoundP 3 (pl tL)) := by show SoundP _ _; rw [HPL.out]; exact kn_good.1.snd
  have HOF := Lib.hid (by have := tsOf HTM.out HSD.out (by decide) 5; rw [HPL.out, kn_of] at this; exact this)
  clear e1 e3 e5 e7 e8 e9 e10 e11 e12 hSM hAM htL hpL hkL HLD HTL HSL HAL HP12
  go_wp2_with (fail)
  refine HOF.out.mono ?_
  rintro e xO ⟨vO, rfl, hoO, hxO⟩
  have HTO := Lib.hid (HTM.out.ext hxO)
  have HSM := Lib.hid (refSame_any vO (.slice (some ⟨xO.heap.size, 0, none⟩) 1 1) (strB [[47, 101]]) [⟨#[47, 101]⟩] (xO.alloc (.cells #[.string ⟨#[47, 101]⟩] strT)) (nms_strs (names_own (ownsRow.ext hoO ((Kp.refl _ _).alloc _)))) (Strs.of_block (xs := [⟨#[47, 101]⟩]) (heap_alloc_new xO _) (by decide) (Nat.le_refl _)))
  rw [show decide (strB [[47, 101]] = [(⟨#[47, 101]⟩ : ByteArray)]) = true by decide +kernel] at HSM
  obtain ⟨aO, cO, rfl⟩ := owns_slice hoO
  clear hoO HOF
  go_wp2_with (fail)
  refine HSM.out.mono ?_
  rintro e xS ⟨rfl, hxS⟩
  have HTS := Lib.hid ((HTO.out.ext ((Kp.refl _ _).alloc _)).ext hxS)
  have HPA := Lib.hid (by have := tsPaths HTS.out HSD.out (by decide); rw [HPL.out, kn_paths] at this; exact this)
  clear hxS hxO HSM HTO
  go_wp2_with (fail)
  refine HPA.out.mono ?_
  rintro e xP ⟨vP, rfl, hoP, hxP⟩
  have HTP := Lib.hid (HTS.out.ext hxP)
  have HSN := Lib.hid (refSame_any vP (.slice (some ⟨xP.heap.size, 0, none⟩) 3 3) (strB [[47, 97], [47, 97, 47, 98], [47, 101]]) [⟨#[47, 97]⟩, ⟨#[47, 97, 47, 98]⟩, ⟨#[47, 101]⟩] (xP.alloc (.cells #[.string ⟨#[47, 97]⟩, .string ⟨#[47, 97, 47, 98]⟩, .string ⟨#[47, 101]⟩] strT)) (nms_strs (names_own (ownsRow.ext hoP ((Kp.refl _ _).alloc _)))) (Strs.of_block (xs := [⟨#[47, 97]⟩, ⟨#[47, 97, 47, 98]⟩, ⟨#[47, 101]⟩]) (heap_alloc_new xP _) (by decide) (Nat.le_refl _)))
  rw [show decide (strB [[47, 97], [47, 97, 47, 98], [47, 101]] = [(⟨#[47, 97]⟩ : ByteArray), ⟨#[47, 97, 47, 98]⟩, ⟨#[47, 101]⟩]) = true by decide +kernel] at HSN
  obtain ⟨aP, cP, rfl⟩ := owns_slice hoP
  clear hoP HPA hxP
  go_wp2_with (fail)
  refine HSN.out.mono ?_
  rintro e xQ ⟨rfl, hxQ⟩
  have HXQ := Lib.hid (HX0.out.trans ((HTP.out.ext ((Kp.refl _ _).alloc _)).ext hxQ).ex)
  clear hxQ
  go_wp2_with (fail)
  go_ret
  exact ⟨rfl, HXQ.out⟩
end Go.Proofs.YtkpcmbgnaenbhaaGreatDoor
