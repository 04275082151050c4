/- Walks of package stat: Remove, Copied. -/
import Derived.Test.YtdagikbdpeblhaaGreatDoorAvG5
namespace Go.Proofs.YtdagikbdpeblhaaGreatDoor
set_option maxRecDepth 100000
open Go.RowKit Av

def ndRem (n : NodeV) (x : Bs) : NodeV := if n.names[lessN x n.names]? = some x then { n with names := delN n.names (lessN x n.names), cnt := (n.names.length - 1 : Nat), kids := moreI n.kids } else n
set_option maxHeartbeats 3200000 in
theorem statRemove_any (g : Nat) (n : NodeV) (x : Bs) (w : World) (h : NdAt w g n) (hr : Rising n.names) (hl : n.names.length ≤ 100000) (h0 : -9223372036854775808 ≤ n.kids) : Calls Tryz.prog 168 #[.pointer (some ⟨g, 0, none⟩), .string ⟨x.toArray⟩] w fun e w' => (∃ u, e = .returned u) ∧ NdAt w' g (ndRem n x) ∧ Kp (fun i => i = g) w w' := by
  obtain ⟨nv, hb, hn⟩ := h
  obtain ⟨na, nc, rfl⟩ : ∃ a c, nv = .slice a n.names.length c := owns_slice hn
  have c9 := hb.cell 9 (.slice na n.names.length nc) rfl
  have HB := Lib.hid hb
  have HN := Lib.hid hn
  have HS := Lib.hid (search_any _ n.names x w (names_own hn) hr (by omega))
  clear hb hn
  by_cases hin : n.names[lessN x n.names]? = some x
  · have HE : Hid (ndRem n x = { n with names := delN n.names (lessN x n.names), cnt := (n.names.length - 1 : Nat), kids := moreI n.kids }) := if_pos hin
    have hlt : lessN x n.names < n.names.length := (List.getElem?_eq_some_iff.1 hin).1
    rw [decide_eq_true hin] at HS
    have HIL := Lib.hid (delN_len hlt)
    generalize lessN x n.names = k at HS HE HIL hlt
    clear hin
    go_enter Tryz.func168, Tryz.ntmps168
    go_wp2_with (fail)
    refine HS.out.mono ?_
    rintro e w1 ⟨rfl, hx1⟩
    have hb1 := HB.out.kp hx1 (fun f => f)
    have HN1 := Lib.hid (ownsRow.ext HN.out hx1)
    have c9 := hb1.cell 9 (.slice na n.names.length nc) rfl
    have HB1 := Lib.hid hb1
    have HX1 := Lib.hid hx1
    have HCL := Lib.hid (cloneS_any _ n.names w1 (names_own HN1.out) (by omega))
    clear hx1 hb1 HS
    go_wp2_with (fail)
    refine HCL.out.mono ?_
    rintro e w2 ⟨v2, rfl, ho2, hx2⟩
    have hb2 := HB1.out.kp hx2 (fun f => f)
    have HDL := Lib.hid (delete_any v2 n.names k w1.heap.size w2 ho2 hlt)
    have HO2 := Lib.hid ho2
    have HB2 := Lib.hid hb2
    have HX2 := Lib.hid (HX1.out.ext hx2)
    have HSZ : Hid (g < w1.heap.size ∧ w1.heap.size ≤ w2.heap.size) := ⟨HB1.out.lt, hx2.size⟩
    obtain ⟨a2, c2, rfl⟩ := owns_slice ho2
    have hk1000 : (k : Int) < 100000 := by omega
    clear hx2 hb2 ho2 HCL
    go_wp2_with (fail)
    refine HDL.out.mono ?_
    rintro e w3 ⟨v3, rfl, ho3, hk3⟩
    have hk3' : Ext w w3 := HX2.out.next hk3 (fun i hi e => by
      have h1 := (own_in HO2.out e).1
      have h2 := HX1.out.size
      omega)
    have hb3 := HB2.out.kp hk3 (fun e => by have h1 := (own_in HO2.out e).1; have := HSZ.out; omega)
    have d9 := hb3.cell 9 (.slice na n.names.length nc) rfl
    have f9 := hb3.free 9
    have hb4 := hb3.set 9 v3
    obtain ⟨a3, c3, rfl⟩ := owns_slice ho3
    obtain ⟨w4, hW4⟩ : ∃ w4, w3.setCell ⟨g, 9, none⟩ (.slice a3 (n.names.length - 1) c3) = w4 := ⟨_, rfl⟩
    rw [hW4] at hb4
    have HB4 := Lib.hid hb4
    have e9 := hb4.cell 9 (.slice a3 (n.names.length - 1) c3) rfl
    have e6 := hb4.cell 6 (.int .i64 n.cnt) rfl
    have f6 := hb4.free 6
    have hb5 := hb4.set 6 (.int .i64 ((n.names.length - 1 : Nat) : Int))
    have hb6w := Lib.hid hb5
    obtain ⟨w5, hW5⟩ : ∃ w5, w4.setCell ⟨g, 6, none⟩ (.int .i64 ((n.names.length - 1 : Nat) : Int)) = w5 := ⟨_, rfl⟩
    have d3 := hb5.cell 3 (.int .i64 n.kids) rfl
    have p3 := hb5.free 3
    rw [hW5] at d3 p3
    have HO3 := Lib.hid ho3
    have HK3 := Lib.hid hk3'
    have HM := Lib.hid (fun W => more_any n.kids W h0)
    have HF : Hid (NdAt (w5.setCell ⟨g, 3, none⟩ (.int .i64 (moreI n.kids))) g (ndRem n x) ∧ Kp (fun i => i = g) w (w5.setCell ⟨g, 3, none⟩ (.int .i64 (moreI n.kids)))) := by
      have k35 : Kp (fun i => i = g) w3 (w5.setCell ⟨g, 3, none⟩ (.int .i64 (moreI n.kids))) := by
        rw [← hW5, ← hW4]
        exact (((Kp.refl (fun i => i = g) w3).set1 g 9 _ rfl).set1 g 6 _ rfl).set1 g 3 _ rfl
      refine ⟨⟨.slice a3 (n.names.length - 1) c3, ?_, ?_⟩, (Ext.kp HK3.out).trans k35⟩
      · have hb := hb6w.out
        rw [hW5] at hb
        rw [HE.out]
        exact hb.set 3 _
      · rw [HE.out]
        show World.ownsRow _ 0 strT 1 _ (delN n.names k).length ((delN n.names k).map encStr)
        rw [HIL.out]
        exact owns_zero (ownsRow.kp HO3.out k35 (fun i hi e => by have h1 := (own_in HO3.out hi).1; have := HSZ.out; omega))
    clear hk3 hk3' hb3 hb4 ho3 hb5 c9 HDL hr hl hlt h0
    go_wp2_with (fail)
    refine (HM.out _).mono ?_
    rintro e w6 ⟨rfl, rfl⟩
    go_wp2_with (fail)
    go_ret
    go_light
    exact ⟨⟨_, rfl⟩, HF.out.1, HF.out.2⟩
  · have HE : Hid (ndRem n x = n) := if_neg hin
    rw [decide_eq_false hin] at HS
    clear hin
    go_enter Tryz.func168, Tryz.ntmps168
    go_wp2_with (fail)
    refine HS.out.mono ?_
    rintro e w1 ⟨rfl, hx⟩
    go_wp2_with (fail)
    go_ret
    exact ⟨⟨_, rfl⟩, by rw [HE.out]; exact ⟨_, HB.out.kp hx (fun f => f), ownsRow.ext HN.out hx⟩, Ext.kp hx⟩
theorem own_less {w : World} {base base' k n : Nat} {e : TypeId} {v : Value} {xs : List Value} (h : w.ownsRow base e k v n xs) (hb : base' ≤ base) : w.ownsRow base' e k v n xs := by
  obtain ⟨h1, h2 | ⟨g, c, cur, rfl, h3, hr⟩⟩ := h
  · exact ⟨h1, .inl h2⟩
  · exact ⟨h1, .inr ⟨g, c, cur, rfl, Nat.le_trans hb h3, hr⟩⟩
set_option maxHeartbeats 1600000 in
theorem statCopied_any (n : NodeV) (nv : Value) (w : World) (hn : NmS w nv n.names) (hl : n.names.length ≤ 100000) : Calls Tryz.prog 57 #[.agg (ndA n nv)] w fun e w' => ∃ nv', e = .returned (.agg (ndA n nv')) ∧ w'.ownsRow w.heap.size strT 1 nv' n.names.length (n.names.map encStr) ∧ Ext w w' := by
  obtain ⟨m, ch, ve, ki, ow, le, cn, da, ne, ns⟩ := n
  unfold ndA
  simp only at hn hl ⊢
  obtain ⟨a0, c0', e0, _⟩ := Sl.open hn.1
  obtain rfl : nv = .slice a0 ns.length c0' := e0
  obtain ⟨wA, hWA⟩ : ∃ wA, (w.alloc (.cells #[.int .i64 m, .int .i64 ch, .int .i64 ve, .int .i64 ki, .int .i64 ow, .int .i64 le, .int .i64 cn, .string da, .int .i64 ne, .slice a0 ns.length c0'] ndT)).alloc (.cells #[.int .i64 0, .int .i64 0, .int .i64 0, .int .i64 0, .int .i64 0, .int .i64 0, .int .i64 0, .string ⟨#[]⟩, .int .i64 0, .slice none 0 0] ndT) = wA := ⟨_, rfl⟩
  have hxA : Ext w wA := by rw [← hWA]; exact ((Kp.refl _ _).alloc _).alloc _
  have hA : Blk wA w.heap.size #[.int .i64 m, .int .i64 ch, .int .i64 ve, .int .i64 ki, .int .i64 ow, .int .i64 le, .int .i64 cn, .string da, .int .i64 ne, .slice a0 ns.length c0'] ndT := by
    rw [← hWA]
    exact Blk.kp (heap_alloc_new w _) ((Kp.refl (fun _ => False) _).alloc _) (fun f => f)
  have hB : Blk wA (w.heap.size + 1) #[.int .i64 0, .int .i64 0, .int .i64 0, .int .i64 0, .int .i64 0, .int .i64 0, .int .i64 0, .string ⟨#[]⟩, .int .i64 0, .slice none 0 0] ndT := by
    rw [← hWA]
    have := heap_alloc_new (w.alloc (.cells #[.int .i64 m, .int .i64 ch, .int .i64 ve, .int .i64 ki, .int .i64 ow, .int .i64 le, .int .i64 cn, .string da, .int .i64 ne, .slice a0 ns.length c0'] ndT)) (.cells #[.int .i64 0, .int .i64 0, .int .i64 0, .int .i64 0, .int .i64 0, .int .i64 0, .int .i64 0, .string ⟨#[]⟩, .int .i64 0, .slice none 0 0] ndT)
    rw [World.size_alloc] at this
    exact this
  have HCL := Lib.hid (cloneS_any _ ns wA ⟨Sl.ext hn.1 hxA, hn.2⟩ (by omega))
  have c9 := hA.cell 9 _ rfl
  have HA := Lib.hid hA
  have HB := Lib.hid hB
  have HX := Lib.hid hxA
  have HWA := Lib.hid hWA
  have HSZ : Hid (w.heap.size + 2 ≤ wA.heap.size) := by show _ ≤ _; rw [← hWA]; simp
  clear hA hB hxA hWA hn
  go_enter Tryz.func57, Tryz.ntmps57
  go_upto_region 1 with (fail)
  rw [HWA.out]
  go_wp2_with (fail)
  refine HCL.out.mono ?_
  rintro e w1 ⟨v1, rfl, ho1, hx1⟩
  obtain ⟨a1, c1, rfl⟩ := owns_slice ho1
  have hA1 := HA.out.kp hx1 (fun f => f)
  have f9 := hA1.free 9
  have d9 := hA1.cell 9 _ rfl
  obtain ⟨w2, hW2⟩ : ∃ w2, w1.setCell ⟨w.heap.size, 9, none⟩ (.slice a1 ns.length c1) = w2 := ⟨_, rfl⟩
  have hA2 := hA1.set 9 (.slice a1 ns.length c1)
  rw [hW2] at hA2
  have hB2 : Blk w2 (w.heap.size + 1) #[.int .i64 0, .int .i64 0, .int .i64 0, .int .i64 0, .int .i64 0, .int .i64 0, .int .i64 0, .string ⟨#[]⟩, .int .i64 0, .slice none 0 0] ndT := by
    rw [← hW2]
    exact (HB.out.kp hx1 (fun f => f)).kp (S := fun i => i = w.heap.size) ((Kp.refl _ _).set1 _ 9 _ rfl) (by omega)
  have HO : Hid (∀ W, Kp (fun i => i = w.heap.size + 1) w2 W → W.ownsRow w.heap.size strT 1 (.slice a1 ns.length c1) ns.length (ns.map encStr)) := by
    intro W hk
    have h1 : w2.ownsRow wA.heap.size strT 1 (.slice a1 ns.length c1) ns.length (ns.map encStr) := by
      rw [← hW2]
      exact ownsRow.kp (S := fun i => i = w.heap.size) ho1 ((Kp.refl _ _).set1 _ 9 _ rfl) (fun i hi e => by have := (own_in ho1 hi).1; have := HSZ.out; omega)
    have h2 := ownsRow.kp h1 hk (fun i hi e => by have := (own_in h1 hi).1; have := HSZ.out; omega)
    exact own_less h2 (by have := HSZ.out; omega)
  have HX2 : Hid (Ext w w2) := by
    show Ext _ _
    rw [← hW2]
    exact (HX.out.ext hx1).setCell _ _ (fun q => absurd q (Nat.lt_irrefl _))
  have HF : Hid (∀ u0 u1 u2 u3 u4 u5 u6 u7 u8 u9, Ext w ((((((((((w2.setCell ⟨w.heap.size + 1, 0, none⟩ u0).setCell ⟨w.heap.size + 1, 1, none⟩ u1).setCell ⟨w.heap.size + 1, 2, none⟩ u2).setCell ⟨w.heap.size + 1, 3, none⟩ u3).setCell ⟨w.heap.size + 1, 4, none⟩ u4).setCell ⟨w.heap.size + 1, 5, none⟩ u5).setCell ⟨w.heap.size + 1, 6, none⟩ u6).setCell ⟨w.heap.size + 1, 7, none⟩ u7).setCell ⟨w.heap.size + 1, 8, none⟩ u8).setCell ⟨w.heap.size + 1, 9, none⟩ u9) ∧ ((((((((((w2.setCell ⟨w.heap.size + 1, 0, none⟩ u0).setCell ⟨w.heap.size + 1, 1, none⟩ u1).setCell ⟨w.heap.size + 1, 2, none⟩ u2).setCell ⟨w.heap.size + 1, 3, none⟩ u3).setCell ⟨w.heap.size + 1, 4, none⟩ u4).setCell ⟨w.heap.size + 1, 5, none⟩ u5).setCell ⟨w.heap.size + 1, 6, none⟩ u6).setCell ⟨w.heap.size + 1, 7, none⟩ u7).setCell ⟨w.heap.size + 1, 8, none⟩ u8).setCell ⟨w.heap.size + 1, 9, none⟩ u9).ownsRow w.heap.size strT 1 (.slice a1 ns.length c1) ns.length (ns.map encStr)) := by
    intro u0 u1 u2 u3 u4 u5 u6 u7 u8 u9
    have k : Kp (fun i => i = w.heap.size + 1) w2 ((((((((((w2.setCell ⟨w.heap.size + 1, 0, none⟩ u0).setCell ⟨w.heap.size + 1, 1, none⟩ u1).setCell ⟨w.heap.size + 1, 2, none⟩ u2).setCell ⟨w.heap.size + 1, 3, none⟩ u3).setCell ⟨w.heap.size + 1, 4, none⟩ u4).setCell ⟨w.heap.size + 1, 5, none⟩ u5).setCell ⟨w.heap.size + 1, 6, none⟩ u6).setCell ⟨w.heap.size + 1, 7, none⟩ u7).setCell ⟨w.heap.size + 1, 8, none⟩ u8).setCell ⟨w.heap.size + 1, 9, none⟩ u9) := (((((((((((Kp.refl (fun i => i = w.heap.size + 1) w2).set1 _ 0 _ rfl).set1 _ 1 _ rfl).set1 _ 2 _ rfl).set1 _ 3 _ rfl).set1 _ 4 _ rfl).set1 _ 5 _ rfl).set1 _ 6 _ rfl).set1 _ 7 _ rfl).set1 _ 8 _ rfl).set1 _ 9 _ rfl)
    exact ⟨HX2.out.next k (fun i hi e => by omega), HO.out _ k⟩
  have h0 := hA2.cell 0 _ rfl
  have h1 := hA2.cell 1 _ rfl
  have h2 := hA2.cell 2 _ rfl
  have h3 := hA2.cell 3 _ rfl
  have h4 := hA2.cell 4 _ rfl
  have h5 := hA2.cell 5 _ rfl
  have h6 := hA2.cell 6 _ rfl
  have h7 := hA2.cell 7 _ rfl
  have h8 := hA2.cell 8 _ rfl
  have h9 := hA2.cell 9 _ rfl
  have g0 := hB2.cell 0 _ rfl
  have g1 := hB2.cell 1 _ rfl
  have g2 := hB2.cell 2 _ rfl
  have g3 := hB2.cell 3 _ rfl
  have g4 := hB2.cell 4 _ rfl
  have g5 := hB2.cell 5 _ rfl
  have g6 := hB2.cell 6 _ rfl
  have g7 := hB2.cell 7 _ rfl
  have g8 := hB2.cell 8 _ rfl
  have g9 := hB2.cell 9 _ rfl
  have f0' := hB2.free 0
  have f1' := hB2.free 1
  have f2' := hB2.free 2
  have f3' := hB2.free 3
  have f4' := hB2.free 4
  have f5' := hB2.free 5
  have f6' := hB2.free 6
  have f7' := hB2.free 7
  have f8' := hB2.free 8
  have f9' := hB2.free 9
  clear hx1 ho1 hA1 hA2 hB2 c9 HCL
  go_wp2_with (fail)
  go_light
  exact bodyPost_ret (v := .agg #[.int .i64 m, .int .i64 ch, .int .i64 ve, .int .i64 ki, .int .i64 ow, .int .i64 le, .int .i64 cn, .string da, .int .i64 ne, .slice a1 ns.length c1]) (by simp [results, Tryz.results57, go_sem, g0, g1, g2, g3, g4, g5, g6, g7, g8, g9]) rfl ⟨_, rfl, (HF.out _ _ _ _ _ _ _ _ _ _).2, (HF.out _ _ _ _ _ _ _ _ _ _).1⟩
end Go.Proofs.YtdagikbdpeblhaaGreatDoor
