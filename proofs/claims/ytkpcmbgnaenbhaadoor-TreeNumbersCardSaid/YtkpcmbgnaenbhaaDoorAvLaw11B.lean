/- Walks of package aviarylaw11: TreeNumbers. -/
import Derived.Test.YtkpcmbgnaenbhaaDoorAvLaw11A
import Derived.Test.YtkpcmbgnaenbhaaDoorAvBools
namespace Go.Proofs.YtkpcmbgnaenbhaaDoor
set_option maxRecDepth 100000
open Go.RowKit Av

def lastS (c : Bs) : Nat → ByteArray
  | 0 => ⟨#[]⟩
  | k + 1 => numP c k
def NumLoop (w0 : World) (n b m : Nat) (s5 s6 : Value) (wr : World) : Prop := ∃ (i : Nat) (t : Tr) (K : Nat) (D : List Nat) (nd : NodeV), i ≤ n ∧ s6 = .int .i64 i ∧ s5 = .string (lastS cX i) ∧ TS w0 wr b m 100 K t ∧ K ≤ 1 + 2 * i ∧ SeqSt cX upA (pl t) i D nd ∧ (pl t).length ≤ 1 + i
theorem last_less (i : Nat) (hi : i ≤ 1000) : Op.bytesLess (numP cX i).toList (lastS cX i).toList = false ∧ ((numP cX i).toList == (lastS cX i).toList) = false := by
  have h : (lastS cX i).data.toList < (numP cX i).data.toList := by
    cases i with
    | zero => decide +kernel
    | succ k => exact (numP_lt (by omega) (by omega)).2 (by omega)
  rw [Lib.toList_data, Lib.toList_data, lessB, decide_eq_false_iff_not, beq_eq_false_iff_ne]
  exact ⟨fun h2 => List.lt_irrefl _ (List.lt_trans h h2), fun h2 => List.lt_irrefl _ (by rw [h2] at h; exact h)⟩
theorem numP_small (c : Bs) (H : ∃ up, Chan c up) (i : Nat) : (numP c i).size ≤ 1000000 := by
  obtain ⟨up, H⟩ := H
  have := path_small (numP c i) (by unfold numP; rw [bs_eq]; exact H.goodN i)
  omega
set_option maxHeartbeats 6400000 in
theorem treeNumbers_any (v : Value) (l : List Bool) (w : World) (hG : GT w) (hb : BoolsR w v l) : Calls Tryd.prog 3 #[v] w fun e w' => e = .returned (.bool true) ∧ Ext w w' := by
  obtain ⟨ad, c, rfl, _, hm, hop⟩ := hb.open
  have HOP := Lib.hid hop
  have HG := Lib.hid hG
  unfold maxLen at hm
  clear hG hb hop
  by_cases hbig : 40 < l.length
  · have hb40 : (40 : Int) < (l.length : Int) := by omega
    go_enter Tryd.func3, Tryd.ntmps3
    go_wp2_with (fail)
    refine (awake_any w HG.out).mono ?_
    rintro e w0 ⟨rfl, hx0⟩
    go_wp2_with (fail)
    go_ret
    exact ⟨rfl, hx0⟩
  · have hb40 : ¬ (40 : Int) < (l.length : Int) := by omega
    have hn40 : l.length ≤ 40 := by omega
    clear hbig
    go_enter Tryd.func3, Tryd.ntmps3
    go_wp2_with (fail)
    refine (awake_any w HG.out).mono ?_
    rintro e w0 ⟨rfl, hx0⟩
    have HX0 := Lib.hid hx0
    have HG0 := Lib.hid (HG.out.ext hx0)
    clear hx0 HG
    go_wp2_with (fail)
    refine (tsNew 100 w0 w0 (Kp.refl _ _) (by decide) (by decide)).mono ?_
    rintro e w1 ⟨b, m, rfl, h1, hx1, _, _⟩
    have H1 := Lib.hid h1
    clear h1 hx1
    go_wp2_with (fail)
    refine (made_any _ _ _).mono ?_
    rintro e w2 ⟨rfl, hx2⟩
    have HD := Lib.hid (tsDoE (H1.out.ext hx2) HG0.out (by decide) ⟨1, ⟨upA.toArray⟩, ⟨#[]⟩, 0, 0⟩ 1 1 (by decide) (by decide) (create_root (up := upA) (by decide +kernel) 100 (by decide) 1 1 goodUA (by decide) (by decide)) 0 rfl)
    clear hx2 H1
    go_wp2_with (fail)
    refine HD.out.mono ?_
    rintro e w3 ⟨t3, a3, c3, rfl, _, h3, hp3, _, _⟩
    have H3 := Lib.hid h3
    have HP3 := Lib.hid hp3
    clear h3 hp3 HD
    go_wp2_with (fail)
    go_loopw [5, 6] (fun s5 s6 wr => NumLoop w0 l.length b m s5 s6 wr) (fun _ s6 _ => l.length - (intOf s6).toNat)
    case atStart => exact ⟨0, t3, _, [], _, Nat.zero_le _, rfl, rfl, H3.out, by omega, by rw [HP3.out]; exact seq_start chanA 1, by rw [HP3.out]; simp⟩
    case round =>
      clear H3 HP3
      obtain ⟨i, t, K, D, nd, hi, rfl, rfl, hts, hK, hst, hlen⟩ := hrel
      have HT := Lib.hid hts
      have HST := Lib.hid hst
      clear hts hst
      by_cases hlt : i < l.length
      · obtain ⟨g, off, rfl, hg, hcl⟩ := HOP.out (by omega)
        have hxr : Ext w wr := HX0.out.trans HT.out.ex
        have HCL := Lib.hid (hcl i hlt)
        obtain ⟨P', x, hR, hst', hlen'⟩ := seq_create chanA goodCX HST.out (room := 100) (by omega) (by omega) i 1 (by decide) (by omega)
        have HST2 := Lib.hid hst'
        have HR := Lib.hid hR
        have HXR := Lib.hid hxr
        clear hcl hxr hR hst'
        have HLEN := Lib.hid hlen'
        have HD := Lib.hid (fun W (hx : Ext wr W) => tsDoE (HT.out.ext hx) HG0.out (by omega) ⟨1, ⟨cX.toArray⟩, ⟨#[]⟩, 0, 2⟩ 1 i (by decide) (by decide) HR.out 0 rfl)
        have hlq := last_less i (by omega)
        obtain ⟨q, hq⟩ : ∃ q, numP cX i = q := ⟨_, rfl⟩
        have hqs : q.size ≤ 1000000 := by rw [← hq]; exact numP_small cX ⟨_, chanA⟩ i
        have HQ := Lib.hid hq
        obtain ⟨la, hla⟩ : ∃ la, lastS cX i = la := ⟨_, rfl⟩
        rw [hq] at HD hlq
        rw [hla] at hlq ⊢
        have HLQ := Lib.hid hlq
        clear hlen' hq hla hlq HR
        go_wp2_with (fail)
        refine (made_any _ _ _).mono ?_
        rintro e w2 ⟨rfl, hx2⟩
        have HD2 := Lib.hid (HD.out _ hx2)
        clear hx2 HD
        go_wp2_with (fail)
        refine HD2.out.mono ?_
        rintro e w3 ⟨t3, a3, c3, rfl, _, h3, hp3, _, _⟩
        obtain ⟨wA, hWA⟩ : ∃ wA, w3.alloc (.cells #[.int .i64 0, .string q, .string ⟨#[]⟩, .slice a3 0 c3, .int .i64 x.made, .int .i64 x.chg, .int .i64 x.ver, .int .i64 x.kids, .int .i64 x.own, .int .i64 x.len, .int .i64 x.cnt] rsuT) = wA := ⟨_, rfl⟩
        have hxA : Ext w3 wA := by rw [← hWA]; exact (Kp.refl _ _).alloc _
        have hA : Blk wA w3.heap.size #[.int .i64 0, .string q, .string ⟨#[]⟩, .slice a3 0 c3, .int .i64 x.made, .int .i64 x.chg, .int .i64 x.ver, .int .i64 x.kids, .int .i64 x.own, .int .i64 x.len, .int .i64 x.cnt] rsuT := by rw [← hWA]; exact heap_alloc_new w3 _
        have r0 := hA.cell 0 _ rfl
        have r1 := hA.cell 1 _ rfl
        have H3 := Lib.hid (h3.ext hxA)
        have HP3 := Lib.hid hp3
        have HWA := Lib.hid hWA
        have hcl := (HX0.out.trans H3.out.ex).cell HCL.out (fun f => f)
        obtain ⟨lq1, lq2⟩ := HLQ.out
        clear hWA hxA hA h3 hp3 HD2
        go_upto_region 12 with (fail)
        rw [HWA.out]
        cases hli : l[i] with
        | false =>
          rw [hli] at hcl
          go_wp2_with (fail)
          go_light
          exact ⟨⟨i + 1, t3, K + 1, D ++ [i], _, by omega, by go_num, by show Value.string q = .string (numP cX i); rw [HQ.out], H3.out, by omega, by rw [HP3.out]; exact HST2.out, by rw [HP3.out]; have := HLEN.out; omega⟩, by simp [intOf]; omega⟩
        | true =>
          rw [hli] at hcl
          obtain ⟨P2, hR2, hst2, hlen2⟩ := seq_delete chanA HST2.out (ver := 0) (.inl rfl) 100 i 1 (by decide) (by omega)
          rw [HQ.out, ← HP3.out] at hR2
          have HD2 := Lib.hid (tsDoE H3.out HG0.out (by omega) ⟨2, q, ⟨#[]⟩, 0, 0⟩ 1 i hqs (show (⟨#[]⟩ : ByteArray).size ≤ 1000000 by decide) hR2 0 rfl)
          rw [List.append_nil] at hst2
          have HST3 := Lib.hid hst2
          have HLEN3 := Lib.hid hlen2
          clear hR2 hst2 hlen2
          go_wp2_with (fail)
          refine HD2.out.mono ?_
          rintro e w5 ⟨t5, a5, c5, rfl, _, h5, hp5, _, _⟩
          have H5 := Lib.hid h5
          have HP5 := Lib.hid hp5
          clear h5 hp5 HD2
          go_wp2_with (fail)
          change Oper.upon _ _ _ _ _ (Result.ok (Next.value (Value.int IntKind.i64 0)) _)
          go_wp2_with (fail)
          go_light
          exact ⟨⟨i + 1, t5, K + 1 + 1, D, _, by omega, by go_num, by show Value.string q = .string (numP cX i); rw [HQ.out], H5.out, by omega, by rw [HP5.out]; exact HST3.out, by rw [HP5.out]; have := HLEN.out; have := HLEN3.out; omega⟩, by simp [intOf]; omega⟩
      · go_wp2_with (fail)
        go_ret
        exact ⟨rfl, HX0.out.trans HT.out.ex⟩
end Go.Proofs.YtkpcmbgnaenbhaaDoor
