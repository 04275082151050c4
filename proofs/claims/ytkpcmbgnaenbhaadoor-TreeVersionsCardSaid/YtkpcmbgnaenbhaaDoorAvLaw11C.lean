/- Walks of package aviarylaw11: TreeVersions. -/
import Derived.Test.YtkpcmbgnaenbhaaDoorAvLaw11A
import Derived.Test.YtkpcmbgnaenbhaaDoorAvBools
namespace Go.Proofs.YtkpcmbgnaenbhaaDoor
set_option maxRecDepth 100000
open Go.RowKit Av

def VerLoop (w0 : World) (n b m : Nat) (s5 s6 : Value) (wr : World) : Prop := ∃ (i : Nat) (t : Tr) (K v : Nat) (nd : NodeV), i ≤ n ∧ s6 = .int .i64 i ∧ s5 = .int .i64 v ∧ v ≤ i ∧ TS w0 wr b m 10 K t ∧ K ≤ 1 + 4 * i ∧ pl t = oneT upA nd ∧ nd.ver = v ∧ nd.names = []
theorem szA : (⟨upA.toArray⟩ : ByteArray).size ≤ 1000000 := by decide
theorem sz0 : (⟨#[]⟩ : ByteArray).size ≤ 1000000 := by decide
theorem goodUpA : goodL upA = true := by decide +kernel
theorem parUpA : parentL upA = none := by decide +kernel
theorem ver_more (n : NodeV) (v : Nat) (h : n.ver = v) (hv : v ≤ 1000) (z : Int) (d : ByteArray) : (ndWrite n z d).ver = ((v + 1 : Nat) : Int) := by
  show moreI n.ver = _
  rw [h]
  unfold moreI
  rw [if_neg (by omega)]
  omega
set_option maxHeartbeats 6400000 in
theorem treeVersions_any (v : Value) (l : List Bool) (w : World) (hG : GT w) (hb : BoolsR w v l) : Calls Tryd.prog 4 #[v] w fun e w' => e = .returned (.bool true) ∧ Ext w w' := by
  obtain ⟨ad, c, rfl, _, hm, hop⟩ := hb.open
  have HOP := Lib.hid hop
  have HG := Lib.hid hG
  unfold maxLen at hm
  clear hG hb hop
  by_cases hbig : 50 < l.length
  · have hb40 : (50 : Int) < (l.length : Int) := by omega
    go_enter Tryd.func4, Tryd.ntmps4
    go_wp2_with (fail)
    refine (awake_any w HG.out).mono ?_
    rintro e w0 ⟨rfl, hx0⟩
    go_wp2_with (fail)
    go_ret
    exact ⟨rfl, hx0⟩
  · have hb40 : ¬ (50 : Int) < (l.length : Int) := by omega
    have hn40 : l.length ≤ 50 := by omega
    clear hbig
    go_enter Tryd.func4, Tryd.ntmps4
    go_wp2_with (fail)
    refine (awake_any w HG.out).mono ?_
    rintro e w0 ⟨rfl, hx0⟩
    have HX0 := Lib.hid hx0
    have HG0 := Lib.hid (HG.out.ext hx0)
    clear hx0 HG
    go_wp2_with (fail)
    refine (tsNew 10 w0 w0 (Kp.refl _ _) (by decide) (by decide)).mono ?_
    rintro e w1 ⟨b, m, rfl, h1, hx1, _, _⟩
    have H1 := Lib.hid h1
    clear h1 hx1
    go_wp2_with (fail)
    refine (made_any _ _ _).mono ?_
    rintro e w2 ⟨rfl, hx2⟩
    have HD := Lib.hid (tsDoE (H1.out.ext hx2) HG0.out (by decide) ⟨1, ⟨upA.toArray⟩, ⟨#[]⟩, 0, 0⟩ 1 1 (by decide) (by decide) (create_root (up := upA) parUpA 10 (by decide) 1 1 goodUA (by decide) (by decide)) 0 rfl)
    clear hx2 H1
    go_wp2_with (fail)
    refine HD.out.mono ?_
    rintro e w3 ⟨t3, a3, c3, rfl, _, h3, hp3, _, _⟩
    have H3 := Lib.hid h3
    have HP3 := Lib.hid hp3
    clear h3 hp3 HD
    go_wp2_with (fail)
    go_loopw [5, 6] (fun s5 s6 wr => VerLoop w0 l.length b m s5 s6 wr) (fun _ s6 _ => l.length - (intOf s6).toNat)
    case atStart => exact ⟨0, t3, _, 0, ndNew 1 0 ⟨#[]⟩, Nat.zero_le _, rfl, rfl, Nat.le_refl _, H3.out, by omega, HP3.out, rfl, rfl⟩
    case round =>
      clear H3 HP3
      obtain ⟨i, t, K, v, nd, hi, rfl, rfl, hv, hts, hK, hpt, hver, hnam⟩ := hrel
      have HT := Lib.hid hts
      have HPT := Lib.hid hpt
      have HV := Lib.hid (And.intro hver hnam)
      clear hts hpt hver hnam
      by_cases hlt : i < l.length
      · obtain ⟨g, off, rfl, hg, hcl⟩ := HOP.out (by omega)
        have hcl := (HX0.out.trans HT.out.ex).cell (hcl i hlt) (fun f => f)
        cases hli : l[i] with
        | true =>
          rw [hli] at hcl
          have hR := one_set goodUpA nd 10 1 2 (by decide) (by decide) (by have := HV.out.1; omega) ⟨#[]⟩ rfl
          rw [← HPT.out, HV.out.1] at hR
          have HD1 := Lib.hid (tsDoE HT.out HG0.out (by omega) ⟨3, ⟨upA.toArray⟩, ⟨#[]⟩, v, 0⟩ 1 2 szA sz0 hR 0 rfl)
          clear hR
          go_wp2_with (fail)
          refine HD1.out.mono ?_
          rintro e w5 ⟨t5, a9, c9, rfl, _, h5, hp9, _, _⟩
          obtain ⟨x, hx⟩ : ∃ x, ndWrite nd 2 ⟨#[]⟩ = x := ⟨_, rfl⟩
          have hxv : x.ver = ((v + 1 : Nat) : Int) := by rw [← hx]; exact ver_more nd v HV.out.1 (by omega) 2 _
          have hxn : x.names = [] := by rw [← hx]; exact HV.out.2
          rw [hx] at hp9 ⊢
          have HP5 := Lib.hid hp9
          have H5 := Lib.hid h5
          have HV5 := Lib.hid (And.intro hxv hxn)
          clear hx hxv hxn hp9 h5 HD1
          go_wp2_with (fail)
          change Oper.upon _ _ _ _ _ (Result.ok (Next.value (Value.int IntKind.i64 0)) _)
          have hR := one_set_wrong goodUpA x 10 1 2 ((v : Int) + 5) (by decide) (by decide) (by omega) (by have := HV5.out.1; omega)
          have hR3 := one_exists goodUpA x 10 1 4 (by decide) (by decide)
          rw [← HP5.out] at hR
          have HD2 := Lib.hid (tsDoE H5.out HG0.out (by omega) ⟨3, ⟨upA.toArray⟩, ⟨#[]⟩, (v : Int) + 5, 0⟩ 1 2 szA sz0 hR 0 rfl)
          have HR3 := Lib.hid hR3
          clear hR hR3
          go_wp2_with (fail)
          refine HD2.out.mono ?_
          rintro e w6 ⟨t6, a9, c9, rfl, _, h6, hp9, _, _⟩
          rw [HP5.out] at hp9
          have HP6 := Lib.hid hp9
          have H6 := Lib.hid h6
          clear hp9 h6 HD2
          go_wp2_with (fail)
          change Oper.upon _ _ _ _ _ (Result.ok (Next.value (Value.int IntKind.i64 6)) _)
          have hR3 := HR3.out
          rw [← HP6.out] at hR3
          have HD3 := Lib.hid (tsDoE H6.out HG0.out (by omega) ⟨6, ⟨upA.toArray⟩, ⟨#[]⟩, 0, 0⟩ 1 4 szA sz0 hR3 0 rfl)
          clear hR3 HR3
          go_wp2_with (fail)
          refine HD3.out.mono ?_
          rintro e w7 ⟨t7, a7, c7, rfl, _, h7, hp7, _, _⟩
          obtain ⟨wA, hWA⟩ : ∃ wA, w7.alloc (.cells #[.int .i64 0, .string ⟨upA.toArray⟩, .string ⟨#[]⟩, .slice a7 0 c7, .int .i64 x.made, .int .i64 x.chg, .int .i64 x.ver, .int .i64 x.kids, .int .i64 x.own, .int .i64 x.len, .int .i64 x.cnt] rsuT) = wA := ⟨_, rfl⟩
          have hxA : Ext w7 wA := by rw [← hWA]; exact (Kp.refl _ _).alloc _
          have hA : Blk wA w7.heap.size #[.int .i64 0, .string ⟨upA.toArray⟩, .string ⟨#[]⟩, .slice a7 0 c7, .int .i64 x.made, .int .i64 x.chg, .int .i64 x.ver, .int .i64 x.kids, .int .i64 x.own, .int .i64 x.len, .int .i64 x.cnt] rsuT := by rw [← hWA]; exact heap_alloc_new w7 _
          have r0 := hA.cell 0 _ rfl
          have r6 := hA.cell 6 (.int .i64 x.ver) rfl
          rw [HV5.out.1] at r6
          have H7 := Lib.hid (h7.ext hxA)
          have HP7 := Lib.hid hp7
          have HWA := Lib.hid hWA
          clear hWA hxA hA h7 hp7 HD3
          go_upto_region 19 with (fail)
          rw [HWA.out]
          go_wp2_with (fail)
          go_light
          exact ⟨⟨i + 1, t7, K + 1 + 1 + 1, v + 1, x, by omega, by go_num, by go_num, by omega, H7.out, by omega, by rw [HP7.out]; exact HP6.out, HV5.out.1, HV5.out.2⟩, by simp [intOf]; omega⟩
        | false =>
          rw [hli] at hcl
          have hR := one_delete goodUpA parUpA nd HV.out.2 10 1 2 (by decide) (by decide) (by have := HV.out.1; omega)
          rw [← HPT.out, HV.out.1] at hR
          have HD1 := Lib.hid (tsDoE HT.out HG0.out (by omega) ⟨2, ⟨upA.toArray⟩, ⟨#[]⟩, v, 0⟩ 1 2 szA sz0 hR 0 rfl)
          clear hR
          go_wp2_with (fail)
          refine HD1.out.mono ?_
          rintro e w5 ⟨t5, a9, c9, rfl, _, h5, hp9, _, _⟩
          have HP5 := Lib.hid hp9
          have H5 := Lib.hid h5
          clear hp9 h5 HD1
          go_wp2_with (fail)
          change Oper.upon _ _ _ _ _ (Result.ok (Next.value (Value.int IntKind.i64 0)) _)
          go_wp2_with (fail)
          refine (made_any _ _ _).mono ?_
          rintro e w4 ⟨rfl, hx4⟩
          have hR : doP 10 (pl t5) ⟨1, ⟨upA.toArray⟩, ⟨#[]⟩, 0, 0⟩ 1 3 false = (oneT upA (ndNew 3 0 ⟨#[]⟩), ⟨0, ⟨upA.toArray⟩, ⟨#[]⟩, [], ndNew 3 0 ⟨#[]⟩⟩) := by rw [HP5.out]; exact create_root (up := upA) parUpA 10 (by decide) 1 3 goodUA (by decide) (by decide)
          obtain ⟨x, hx⟩ : ∃ x, ndNew 3 0 ⟨#[]⟩ = x := ⟨_, rfl⟩
          have hxv : x.ver = ((0 : Nat) : Int) := by rw [← hx]; rfl
          have hxn : x.names = [] := by rw [← hx]; rfl
          rw [hx] at hR
          have HD2 := Lib.hid (tsDoE (H5.out.ext hx4) HG0.out (by omega) ⟨1, ⟨upA.toArray⟩, ⟨#[]⟩, 0, 0⟩ 1 3 szA sz0 hR 0 rfl)
          have HV5 := Lib.hid (And.intro hxv hxn)
          clear hR hx4 hx hxv hxn
          go_wp2_with (fail)
          refine HD2.out.mono ?_
          rintro e w6 ⟨t6, a9, c9, rfl, _, h6, hp9, _, _⟩
          have HP6 : Hid (pl t6 = oneT upA x) := hp9
          have H6 := Lib.hid h6
          clear hp9 h6 HD2
          go_wp2_with (fail)
          change Oper.upon _ _ _ _ _ (Result.ok (Next.value (Value.int IntKind.i64 0)) _)
          have hR3 := one_exists goodUpA x 10 1 4 (by decide) (by decide)
          rw [← HP6.out] at hR3
          have HD3 := Lib.hid (tsDoE H6.out HG0.out (by omega) ⟨6, ⟨upA.toArray⟩, ⟨#[]⟩, 0, 0⟩ 1 4 szA sz0 hR3 0 rfl)
          clear hR3
          go_wp2_with (fail)
          refine HD3.out.mono ?_
          rintro e w7 ⟨t7, a7, c7, rfl, _, h7, hp7, _, _⟩
          obtain ⟨wA, hWA⟩ : ∃ wA, w7.alloc (.cells #[.int .i64 0, .string ⟨upA.toArray⟩, .string ⟨#[]⟩, .slice a7 0 c7, .int .i64 x.made, .int .i64 x.chg, .int .i64 x.ver, .int .i64 x.kids, .int .i64 x.own, .int .i64 x.len, .int .i64 x.cnt] rsuT) = wA := ⟨_, rfl⟩
          have hxA : Ext w7 wA := by rw [← hWA]; exact (Kp.refl _ _).alloc _
          have hA : Blk wA w7.heap.size #[.int .i64 0, .string ⟨upA.toArray⟩, .string ⟨#[]⟩, .slice a7 0 c7, .int .i64 x.made, .int .i64 x.chg, .int .i64 x.ver, .int .i64 x.kids, .int .i64 x.own, .int .i64 x.len, .int .i64 x.cnt] rsuT := by rw [← hWA]; exact heap_alloc_new w7 _
          have r0 := hA.cell 0 _ rfl
          have r6 := hA.cell 6 (.int .i64 x.ver) rfl
          rw [HV5.out.1] at r6
          have H7 := Lib.hid (h7.ext hxA)
          have HP7 := Lib.hid hp7
          have HWA := Lib.hid hWA
          clear hWA hxA hA h7 hp7 HD3
          go_upto_region 19 with (fail)
          rw [HWA.out]
          go_wp2_with (fail)
          go_light
          exact ⟨⟨i + 1, t7, K + 1 + 1 + 1, 0, x, by omega, by go_num, rfl, by omega, H7.out, by omega, by rw [HP7.out]; exact HP6.out, HV5.out.1, HV5.out.2⟩, by simp [intOf]; omega⟩
      · go_wp2_with (fail)
        go_ret
        exact ⟨rfl, HX0.out.trans HT.out.ex⟩
end Go.Proofs.YtkpcmbgnaenbhaaDoor
