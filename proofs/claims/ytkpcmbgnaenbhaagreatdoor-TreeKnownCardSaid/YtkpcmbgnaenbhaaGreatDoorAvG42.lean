/- Texts put together: AvTreeW, AvLaw11A, AvWTreeK. -/
import Derived.Test.YtkpcmbgnaenbhaaGreatDoorAvG36
import Derived.Test.YtkpcmbgnaenbhaaGreatDoorAvG37
import Derived.Test.YtkpcmbgnaenbhaaGreatDoorAvHWOwn2
import Derived.Test.YtkpcmbgnaenbhaaGreatDoorAvHTreeS
import Derived.Test.YtkpcmbgnaenbhaaGreatDoorAvG31

/- Two trees that a law has made, side by side: Copy, Load. -/
namespace Go.Proofs.YtkpcmbgnaenbhaaGreatDoor
set_option maxRecDepth 100000
open Go.RowKit Av

/-- No block is both trees'. -/
def Apart (b m : Nat) (t : Tr) (b' m' : Nat) (c : Tr) : Prop := ∀ i, TOwn b m t i → TOwn b' m' c i → False
theorem Apart.symm {b m b' m' : Nat} {t c : Tr} (h : Apart b m t b' m' c) : Apart b' m' c b m t := fun i h1 h2 => h i h2 h1
theorem TreeR.ownLt {w : World} {base b m : Nat} {room : Int} {t : Tr} (h : TreeR w base b m room t) {i : Nat} (hi : TOwn b m t i) : base ≤ i ∧ i < w.heap.size := by
  rcases hi with rfl | rfl | ⟨e, he, rfl⟩
  · exact ⟨h.low.1, h.blk.lt⟩
  · exact ⟨h.low.2.1, h.map.lt⟩
  · exact ⟨h.low.2.2 e he, (h.nod e he).lt⟩
theorem Apart.step {w : World} {base' b m b' m' : Nat} {room' : Int} {t t2 c : Tr} (h : Apart b m t b' m' c) (hc : TreeR w base' b' m' room' c) (hf : Fresh w t t2) : Apart b m t2 b' m' c := fun i h1 h2 => by
  rcases h1 with rfl | rfl | ⟨e, he, rfl⟩
  · exact h _ (.inl rfl) h2
  · exact h _ (.inr (.inl rfl)) h2
  · rcases hf e he with ⟨e0, he0, h3⟩ | h3
    · rw [h3] at h2
      exact h _ (.inr (.inr ⟨e0, he0, rfl⟩)) h2
    · have := (hc.ownLt h2).2
      omega
theorem Apart.new {w w' : World} {base base' b m b' m' : Nat} {room room' : Int} {t c : Tr} (ht : TreeR w base b m room t) (hc : TreeR w' base' b' m' room' c) (hb : w.heap.size ≤ base') : Apart b m t b' m' c := fun i h1 h2 => by
  have := (ht.ownLt h1).2
  have := (hc.ownLt h2).1
  omega
theorem TS.other {w0 w w' : World} {b m b' m' : Nat} {room room' : Int} {K K' : Nat} {t c : Tr} (hA : Apart b m t b' m' c) (ht : TS w0 w b m room K t) (hc : TS w0 w b' m' room' K' c) (k : Kp (nodeFr m t) w w') : TS w0 w' b' m' room' K' c :=
  ⟨hc.tr.apart k (fun i hi hs => hA i (.inr hs) hi) (fun i hs _ cur f => ht.tr.noT (T := strT) (by decide) i hs cur f), hc.pk, ht.step k⟩
/-- A reference's tree stands where a tree is written. -/
theorem RefT.under {w w' : World} {base g b m base' : Nat} {room room' : Int} {L : RL} {t : Tr} (h : RefT w base g room L) (ht : TreeR w base' b m room' t) (k : Kp (nodeFr m t) w w') : RefT w' base g room L :=
  h.kp k (ht.noT (by decide)) (ht.noT (by decide)) (ht.noT (by decide))
theorem keys_pl (t : Tr) : (pl t).map (·.1) = t.map (·.1) := by unfold pl; rw [List.map_map]; rfl
theorem PtK.same {K : Nat} {t u : Pt} (h : PtK K t) (hu : (u.map (·.1)).Nodup) (e : ∀ p, mget u p = mget t p) : PtK K u := ⟨hu, fun x hx => by
  have h1 := mget_of_mem hu (k := x.1) hx
  rw [e] at h1
  exact h.2 _ (mget_mem h1)⟩
theorem tsCopy {w0 w : World} {b m : Nat} {room : Int} {K : Nat} {t : Tr} (h : TS w0 w b m room K t) (hK : K ≤ 100000) :
    Calls Tryz.prog 21 #[.pointer (some ⟨b, 0, none⟩)] w fun e w' => ∃ b' m' c, e = .returned (.pointer (some ⟨b', 0, none⟩)) ∧ TS w0 w' b' m' room K c ∧ (∀ p, mget (pl c) p = mget (pl t) p) ∧ Apart b m t b' m' c ∧ Ext w w' := by
  refine (treeCopy_any w0.heap.size b m room t w h.tr (h.pk.ok hK)).mono ?_
  rintro e w' ⟨b', m', c, rfl, h1, h2, h3⟩
  refine ⟨b', m', c, rfl, ⟨h1.less h.ex.size, h.pk.same ?_ h2, h.ex.ext h3⟩, h2, Apart.new h.tr h1 (Nat.le_refl _), h3⟩
  rw [keys_pl]; exact h1.keys
theorem PtK.load {K : Nat} {t : Pt} (h : PtK K t) {n : NodeV} (hn : NodeK K n) (r : Bool) (room : Int) (p : ByteArray) : PtK K (loadP r room t p n).1 := by
  unfold loadP
  split
  · exact h
  · split
    · exact h
    · split
      · exact h
      · exact h.set p ⟨hn.rise, hn.few, hn.ver, hn.kids, hn.next⟩
theorem tsLoad {w0 w : World} {b m : Nat} {room : Int} {K : Nat} {t : Tr} (h : TS w0 w b m room K t) (hG : GT w0) (hK : K ≤ 100000) (p : ByteArray) (n : NodeV) (nv : Value) (r : Bool) (hp : p.size ≤ 1000000) (hn : NmS w nv n.names) (hk : NodeK K n) (hsz : ∀ s ∈ n.names, s.length ≤ 1000000) (hr : r = true ↔ (goodL p.data.toList = true ∧ Named n.names)) :
    Calls Tryz.prog 26 #[.pointer (some ⟨b, 0, none⟩), .string p, .agg (ndA n nv)] w fun e w' => ∃ t', e = .returned (.int .i64 (loadP r room (pl t) p n).2) ∧ TS w0 w' b m room K t' ∧ pl t' = (loadP r room (pl t) p n).1 ∧ Kp (nodeFr m t) w w' ∧ Fresh w t t' := by
  refine (treeLoad_any w0.heap.size b m room t p n nv r w h.tr (hG.ext h.ex).gl hp hn (Nat.le_trans hk.few hK) hsz hr).mono ?_
  rintro e w' ⟨t', rfl, h1, h2, h3, h4⟩
  exact ⟨t', rfl, ⟨h1, by rw [h2]; exact h.pk.load hk r room p, h.step h3⟩, h2, h3, h4⟩
end Go.Proofs.YtkpcmbgnaenbhaaGreatDoor

/- Walks of package aviarylaw11: made, awake. -/
namespace Go.Proofs.YtkpcmbgnaenbhaaGreatDoor
set_option maxRecDepth 100000
open Go.RowKit Av

abbrev opT : TypeId := 30
def opZA : Array Value := #[.int .i64 0, .string ⟨#[]⟩, .string ⟨#[]⟩, .int .i64 0, .int .i64 0]
def set5 (w : World) (r : Nat) (u0 u1 u2 u3 u4 : Value) : World := ((((w.setCell ⟨r, 0, none⟩ u0).setCell ⟨r, 1, none⟩ u1).setCell ⟨r, 2, none⟩ u2).setCell ⟨r, 3, none⟩ u3).setCell ⟨r, 4, none⟩ u4
theorem kp_set5 (w : World) (r : Nat) (u0 u1 u2 u3 u4 : Value) : Kp (fun i => i = r) w (set5 w r u0 u1 u2 u3 u4) := by
  have k : ∀ {W : World} (i : Nat) (u : Value), Kp (fun i => i = r) w W → Kp (fun i => i = r) w (W.setCell ⟨r, i, none⟩ u) := fun i u h => h.set1 r i u rfl
  exact k 4 u4 (k 3 u3 (k 2 u2 (k 1 u1 (k 0 u0 (Kp.refl _ _)))))
set_option maxHeartbeats 800000 in
theorem made_any (p : ByteArray) (f : Int) (w : World) : Calls Tryz.prog 23 #[.string p, .int .i64 f] w fun e w' => e = .returned (.agg #[.int .i64 1, .string p, .string ⟨#[]⟩, .int .i64 0, .int .i64 f]) ∧ Ext w w' := by
  obtain ⟨wB, hWB⟩ : ∃ wB, w.alloc (.cells opZA opT) = wB := ⟨_, rfl⟩
  have hxB : Ext w wB := by rw [← hWB]; exact (Kp.refl _ _).alloc _
  have hB : Blk wB w.heap.size opZA opT := by rw [← hWB]; exact heap_alloc_new w _
  have HXB := Lib.hid hxB
  have HWB := Lib.hid hWB
  unfold opZA at hB HWB
  have d0 := hB.cell 0 _ rfl
  have d1 := hB.cell 1 _ rfl
  have d2 := hB.cell 2 _ rfl
  have d3 := hB.cell 3 _ rfl
  have d4 := hB.cell 4 _ rfl
  have fd0 := hB.free 0
  have fd1 := hB.free 1
  have fd2 := hB.free 2
  have fd3 := hB.free 3
  have fd4 := hB.free 4
  clear hWB hxB hB
  go_enter Tryz.func23, Tryz.ntmps23
  go_upto_region 1 with (fail)
  rw [HWB.out]
  go_wp2_with (fail)
  go_light
  refine bodyPost_ret (v := .agg #[.int .i64 1, .string p, .string ⟨#[]⟩, .int .i64 0, .int .i64 f]) (by simp [results, Tryz.results23, go_sem, d0, d1, d2, d3, d4]) rfl ?_
  have k5 := kp_set5 wB w.heap.size (.int .i64 1) (.string p) (.string ⟨#[]⟩) (.int .i64 0) (.int .i64 f)
  exact ⟨rfl, HXB.out.next k5 (fun i hi e => by omega)⟩
def sA : ByteArray := ⟨#[47, 97]⟩
def sAB : ByteArray := ⟨#[47, 97, 47, 98]⟩
def oA : OpV := ⟨1, ⟨#[47, 97]⟩, ⟨#[]⟩, 0, 0⟩
def oAB : OpV := ⟨1, ⟨#[47, 97, 47, 98]⟩, ⟨#[]⟩, 0, 2⟩
/-- What the document tells of two Creates. -/
theorem awake_law : (doP 10 [] oA 1 7 false).2.err = 0 ∧ (doP 10 [] oA 1 7 false).2.path = ⟨#[47, 97]⟩ ∧ (doP 10 [] oA 1 7 false).2.st.made = 7 ∧
    (doP 10 (doP 10 [] oA 1 7 false).1 oAB 1 8 false).2.err = 0 ∧ (doP 10 (doP 10 [] oA 1 7 false).1 oAB 1 8 false).2.path = ⟨#[47, 97, 47, 98, 48, 48, 48, 48, 48, 48, 48, 48, 48, 48]⟩ ∧
    (nodeP (doP 10 (doP 10 [] oA 1 7 false).1 oAB 1 8 false).1 ⟨#[47, 97]⟩).2 = true ∧ (nodeP (doP 10 (doP 10 [] oA 1 7 false).1 oAB 1 8 false).1 ⟨#[47, 97]⟩).1.cnt = 1 ∧ (doP 10 (doP 10 [] oA 1 7 false).1 oAB 1 8 false).1.length = 2 := by decide +kernel
def resB (R : Rp) (a : Option Addr) (c : Nat) : Array Value := #[.int .i64 R.err, .string R.path, .string R.data, .slice a R.names.length c, .int .i64 R.st.made, .int .i64 R.st.chg, .int .i64 R.st.ver, .int .i64 R.st.kids, .int .i64 R.st.own, .int .i64 R.st.len, .int .i64 R.st.cnt]
set_option maxHeartbeats 3200000 in
theorem awake_any (w : World) (hG : GT w) : Calls Tryz.prog 9 #[] w fun e w' => e = .returned (.bool true) ∧ Ext w w' := by
  have HG := Lib.hid hG
  clear hG
  obtain ⟨R1, hR1⟩ : ∃ R, doP 10 [] oA 1 7 false = R := ⟨_, rfl⟩
  have hl := awake_law
  rw [hR1] at hl
  obtain ⟨R2, hR2⟩ : ∃ R, doP 10 R1.1 oAB 1 8 false = R := ⟨_, rfl⟩
  rw [hR2] at hl
  have HL := Lib.hid hl
  have HR1 := Lib.hid hR1
  have HR2 := Lib.hid hR2
  clear hl hR1 hR2
  go_enter Tryz.func9, Tryz.ntmps9
  go_wp2_with (fail)
  refine (tsNew 10 w w (Kp.refl _ _) (by decide) (by decide)).mono ?_
  rintro e w1 ⟨b, m, rfl, h1, hx1, _, _⟩
  have H1 := Lib.hid h1
  clear h1 hx1
  go_wp2_with (fail)
  refine (made_any _ _ _).mono ?_
  rintro e w2 ⟨rfl, hx2⟩
  have hD := tsDo (H1.out.ext hx2) HG.out (by decide) oA 1 7 (by decide) (by decide)
  rw [show pl [] = [] from rfl, HR1.out] at hD
  have HD := Lib.hid hD
  clear hx2 H1 hD
  go_wp2_with (fail)
  refine HD.out.mono ?_
  rintro e w3 ⟨t1, nv1, rfl, ho1, h3, hp1, hk3, hf3⟩
  obtain ⟨a1, c1, rfl⟩ := owns_slice ho1
  obtain ⟨wA, hWA⟩ : ∃ wA, w3.alloc (.cells #[.int .i64 R1.2.err, .string R1.2.path, .string R1.2.data, .slice a1 R1.2.names.length c1, .int .i64 R1.2.st.made, .int .i64 R1.2.st.chg, .int .i64 R1.2.st.ver, .int .i64 R1.2.st.kids, .int .i64 R1.2.st.own, .int .i64 R1.2.st.len, .int .i64 R1.2.st.cnt] rsuT) = wA := ⟨_, rfl⟩
  have hxA : Ext w3 wA := by rw [← hWA]; exact (Kp.refl _ _).alloc _
  have hA : Blk wA w3.heap.size (resB R1.2 a1 c1) rsuT := by rw [← hWA]; exact heap_alloc_new w3 _
  have HA := Lib.hid hA
  have H3 := Lib.hid (h3.ext hxA)
  have HP1 := Lib.hid hp1
  have HWA := Lib.hid hWA
  clear hWA hxA hA h3 hp1 hk3 hf3 ho1 HD
  unfold resA
  go_upto_region 5 with (fail)
  rw [HWA.out]
  go_wp2_with (fail)
  refine (made_any _ _ _).mono ?_
  rintro e w4 ⟨rfl, hx4⟩
  have hD := tsDo (H3.out.ext hx4) HG.out (by decide) oAB 1 8 (by decide) (by decide)
  rw [HP1.out, HR2.out] at hD
  have HD := Lib.hid hD
  have HA4 := Lib.hid (HA.out.kp hx4 (fun f => f))
  have H4 := Lib.hid (H3.out.ext hx4)
  clear hx4 hD
  go_wp2_with (fail)
  refine HD.out.mono ?_
  rintro e w5 ⟨t2, nv2, rfl, ho2, h5, hp2, hk5, hf5⟩
  obtain ⟨a2, c2, rfl⟩ := owns_slice ho2
  obtain ⟨wB, hWB⟩ : ∃ wB, w5.alloc (.cells #[.int .i64 R2.2.err, .string R2.2.path, .string R2.2.data, .slice a2 R2.2.names.length c2, .int .i64 R2.2.st.made, .int .i64 R2.2.st.chg, .int .i64 R2.2.st.ver, .int .i64 R2.2.st.kids, .int .i64 R2.2.st.own, .int .i64 R2.2.st.len, .int .i64 R2.2.st.cnt] rsuT) = wB := ⟨_, rfl⟩
  have hxB : Ext w5 wB := by rw [← hWB]; exact (Kp.refl _ _).alloc _
  have hB : Blk wB w5.heap.size (resB R2.2 a2 c2) rsuT := by rw [← hWB]; exact heap_alloc_new w5 _
  have HB := Lib.hid hB
  have HA5 := Lib.hid ((H4.out.tr.blk' hk5 HA4.out (by decide)).kp hxB (fun f => f))
  have H5 := Lib.hid (h5.ext hxB)
  have HP2 := Lib.hid hp2
  have HWB := Lib.hid hWB
  clear hWB hxB hB h5 hp2 hk5 hf5 ho2 HD
  unfold resA
  go_upto_region 6 with (fail)
  rw [HWB.out]
  have hN := tsNode H5.out (by decide) ⟨#[47, 97]⟩
  rw [HP2.out] at hN
  obtain ⟨nd, hnd⟩ : ∃ nd, nodeP R2.1 ⟨#[47, 97]⟩ = nd := ⟨_, rfl⟩
  have hl := HL.out
  rw [hnd] at hl hN
  have HN := Lib.hid hN
  clear hN hnd HL
  obtain ⟨e1, e2, e3, e4, e5, e6, e7, e8⟩ := hl
  rw [e6] at HN
  have E12 := Lib.hid (And.intro e1 (And.intro e2 (And.intro e3 (And.intro e4 (And.intro e5 (And.intro e7 e8))))))
  clear e1 e2 e3 e4 e5 e6 e7 e8
  go_wp2_with (fail)
  refine HN.out.mono ?_
  rintro e w7 ⟨nv7, rfl, ho7, h7, hx7⟩
  obtain ⟨a7, c7, rfl⟩ := owns_slice ho7
  obtain ⟨wC, hWC⟩ : ∃ wC, w7.alloc (.cells #[.int .i64 nd.1.made, .int .i64 nd.1.chg, .int .i64 nd.1.ver, .int .i64 nd.1.kids, .int .i64 nd.1.own, .int .i64 nd.1.len, .int .i64 nd.1.cnt, .string nd.1.data, .int .i64 nd.1.next, .slice a7 nd.1.names.length c7] ndT) = wC := ⟨_, rfl⟩
  have hxC : Ext w7 wC := by rw [← hWC]; exact (Kp.refl _ _).alloc _
  have hC : Blk wC w7.heap.size (ndA nd.1 (.slice a7 nd.1.names.length c7)) ndT := by rw [← hWC]; exact heap_alloc_new w7 _
  have hA9 := (HA5.out.kp hx7 (fun f => f)).kp hxC (fun f => f)
  have hB9 := (HB.out.kp hx7 (fun f => f)).kp hxC (fun f => f)
  have H7 := Lib.hid (h7.ext hxC)
  have hL := tsLen H7.out
  obtain ⟨e1, e2, e3, e4, e5, e7, e8⟩ := E12.out
  rw [HP2.out, e8] at hL
  have r0 := hA9.cell 0 (.int .i64 R1.2.err) rfl
  have r1 := hA9.cell 1 (.string R1.2.path) rfl
  have r4 := hA9.cell 4 (.int .i64 R1.2.st.made) rfl
  have s0 := hB9.cell 0 (.int .i64 R2.2.err) rfl
  have s1 := hB9.cell 1 (.string R2.2.path) rfl
  have n6 := hC.cell 6 (.int .i64 nd.1.cnt) rfl
  rw [e1] at r0
  rw [e2] at r1
  rw [e3] at r4
  rw [e4] at s0
  rw [e5] at s1
  rw [e7] at n6
  have HLN := Lib.hid hL
  have HWC := Lib.hid hWC
  clear hWC hxC hC hA9 hB9 h7 hx7 ho7 hL e1 e2 e3 e4 e5 e7 e8 E12 HN
  unfold ndA
  go_upto_region 7 with (fail)
  rw [HWC.out]
  go_wp2_with (fail)
  refine HLN.out.mono ?_
  rintro e w9 ⟨rfl, rfl⟩
  go_wp2_with (fail)
  go_ret
  exact ⟨rfl, H7.out.ex⟩
end Go.Proofs.YtkpcmbgnaenbhaaGreatDoor

/- Walks of package tree: Of. -/
namespace Go.Proofs.YtkpcmbgnaenbhaaGreatDoor
set_option maxRecDepth 100000
open Go.RowKit Av

def ownB (t : Tr) (sess : Int) (p : Bs) : Bool := decide (0 < sess) && (match mget t ⟨p.toArray⟩ with
  | none => false
  | some e => e.2.own == sess)
def OfLoop (w1 : World) (t : Tr) (L : List Bs) (sess : Int) (s5 s11 : Value) (wr : World) : Prop := ∃ (k : Nat) (v : Value), k ≤ L.length ∧ s11 = .int .i64 k ∧ s5 = v ∧ wr.ownsRow w1.heap.size strT 1 v ((L.take k).filter (ownB t sess)).length (((L.take k).filter (ownB t sess)).map encStr) ∧ Ext w1 wr
theorem filter_yes {f : Bs → Bool} {L : List Bs} {k : Nat} (hk : k < L.length) (h : f L[k] = true) : (L.take (k + 1)).filter f = (L.take k).filter f ++ [L[k]] := by
  rw [List.take_succ_eq_append_getElem hk, List.filter_append]
  simp [h]
theorem filter_no {f : Bs → Bool} {L : List Bs} {k : Nat} (hk : k < L.length) (h : f L[k] = false) : (L.take (k + 1)).filter f = (L.take k).filter f := by
  rw [List.take_succ_eq_append_getElem hk, List.filter_append]
  simp [h]
set_option maxHeartbeats 1600000 in
theorem treeOf_any (base b m : Nat) (room : Int) (t : Tr) (sess : Int) (w : World) (hT : TreeR w base b m room t) (hs : ∀ e ∈ t, e.1.size ≤ maxLen) (hn : t.length ≤ 100000) :
    Calls Tryz.prog 25 #[.pointer (some ⟨b, 0, none⟩), .int .i64 sess] w fun e w' => PathsPost w ((pathsP (pl t)).filter (ownB t sess)) e w' := by
  have HP := Lib.hid (treePaths_any base b m room t w hT hs (by omega))
  have HT := Lib.hid hT
  have HM : Hid (∀ x ∈ pathsP (pl t), ∃ g n, mget t ⟨x.toArray⟩ = some (g, n)) := by
    intro x hx
    obtain ⟨e, he, rfl⟩ := pathsP_mem.1 hx
    obtain ⟨y, hy, rfl⟩ := List.mem_map.1 he
    refine ⟨y.2.1, y.2.2, ?_⟩
    rw [bytes_self]
    exact mget_of_mem hT.keys hy
  have hlen : (pathsP (pl t)).length ≤ 100000 := by rw [pathsP_len, pl_len]; exact hn
  generalize pathsP (pl t) = L at HP HM hlen ⊢
  clear hT hs hn
  go_enter Tryz.func25, Tryz.ntmps25
  go_wp2_with (fail)
  refine HP.out.mono ?_
  rintro e w1 ⟨v, rfl, ho, hx⟩
  obtain ⟨a, c, hsl, hop⟩ : ∃ a c, v = .slice a L.length c ∧ (0 < L.length → ∃ g off, a = some ⟨g, off, none⟩ ∧ ∀ k (hk : k < L.length), w1.cell? ⟨g, off + k, none⟩ = some (encStr L[k])) := by
    obtain ⟨a, c, e, _, _, _, h⟩ := Sl.open (Sl.of_owns ho)
    refine ⟨a, c, e, fun h0 => ?_⟩
    obtain ⟨g, off, e2, _, hc⟩ := h h0
    exact ⟨g, off, e2, fun k hk => hc k _ (by rw [List.getElem?_map, List.getElem?_eq_getElem hk]; rfl)⟩
  subst hsl
  have HOP := Lib.hid hop
  have HX := Lib.hid hx
  clear ho hop hx HP
  go_wp2_with (fail)
  go_loopw [5, 11] (fun s5 s11 wr => OfLoop w1 t L sess s5 s11 wr) (fun _ s11 _ => L.length - (intOf s11).toNat)
  case atStart => exact ⟨0, .slice none 0 0, Nat.zero_le _, rfl, rfl, by simp; exact ⟨rfl, .inl ⟨rfl, rfl⟩⟩, Kp.refl _ _⟩
  case round =>
    obtain ⟨k, v, hk, rfl, rfl, how, hxr⟩ := hrel
    have HOW := Lib.hid how
    have HXR := Lib.hid hxr
    obtain ⟨va, vc, rfl⟩ := owns_slice how
    clear how hxr
    by_cases hlt : k < L.length
    · obtain ⟨g, off, rfl, hcl⟩ := HOP.out (by omega)
      have hc := HXR.out.cell (hcl k hlt) (fun f => f)
      obtain ⟨gn, n, hg⟩ := HM.out L[k] (List.getElem_mem hlt)
      have hT := (HT.out.ext HX.out).ext HXR.out
      have hlk := tree_look hT ⟨(L[k]).toArray⟩
      rw [hg] at hlk
      simp only [Option.map_some, Option.getD_some] at hlk
      have c1 := hT.blk.cell 1 _ rfl
      obtain ⟨nv, hnb, _⟩ := hT.nod _ (mget_mem hg)
      have n4 : wr.cell? ⟨gn, 4, none⟩ = some (.int .i64 n.own) := hnb.cell 4 _ rfl
      have HYES := Lib.hid (fun h => filter_yes (f := ownB t sess) hlt h)
      have HNO := Lib.hid (fun h => filter_no (f := ownB t sess) hlt h)
      have HOB : Hid (ownB t sess L[k] = (decide (0 < sess) && (n.own == sess))) := by show _ = _; unfold ownB; rw [hg]
      have hflen := Lib.hid (List.length_filter_le (ownB t sess) (L.take k))
      have HTK : Hid ((L.take k).length ≤ 100000) := by show _ ≤ _; rw [List.length_take]; omega
      generalize L[k] = p at hc hlk HYES HNO HOB
      unfold encStr at hc
      clear hg hT hnb hcl
      by_cases h0 : 0 < sess
      · by_cases h1 : n.own = sess
        · have hb1 : (n.own == sess) = true := by simpa using h1
          have hyes := HYES.out (by rw [HOB.out, hb1]; simp [h0])
          have HY := Lib.hid hyes
          clear hyes HYES HNO HOB
          generalize (L.take k).filter (ownB t sess) = F at *
          have hFl : F.length ≤ 100000 := Nat.le_trans hflen.out HTK.out
          go_wp2_with (at_builtin; refine wpList_app1 33 strT str_facts rfl _ _ rfl w1.heap.size _ F.length (F.map encStr) rfl (ownsRow.ext HOW.out ((Kp.refl _ wr).alloc _)) wr.heap.size 1 (encStr p) rfl (Blk.cell (heap_alloc_new wr _) 0 _ rfl) rfl ?c1 ?c2 ?_)
          case c1 => omega
          case c2 => exact Nat.le_trans HXR.out.size (Nat.le_succ _)
          intro v' w' h1' h2'
          go_wp2_with (fail)
          go_light
          refine ⟨⟨k + 1, v', by omega, by go_num, rfl, ?_, ?_⟩, by simp [intOf]; omega⟩
          · rw [HY.out, List.length_append, List.map_append]
            exact h1'
          · exact (HXR.out.alloc _).next h2' (fun i hi e => by have := (own_in HOW.out e).1; omega)
        · have hb1 : (n.own == sess) = false := by simpa using h1
          have hno := HNO.out (by rw [HOB.out, hb1]; simp)
          have HNX := Lib.hid hno
          clear hno HYES HNO HOB
          go_wp2_with (fail)
          go_light
          exact ⟨⟨k + 1, _, by omega, by go_num, rfl, by rw [HNX.out]; exact HOW.out, HXR.out⟩, by simp [intOf]; omega⟩
      · have hno := HNO.out (by rw [HOB.out]; simp [h0])
        have HNX := Lib.hid hno
        clear hno HYES HNO HOB
        go_wp2_with (fail)
        go_light
        exact ⟨⟨k + 1, _, by omega, by go_num, rfl, by rw [HNX.out]; exact HOW.out, HXR.out⟩, by simp [intOf]; omega⟩
    · have hk2 : k = L.length := by omega
      subst hk2
      rw [List.take_length] at HOW ⊢
      go_wp2_with (fail)
      go_ret
      exact ⟨_, rfl, own_less HOW.out HX.out.size, HX.out.trans HXR.out⟩
end Go.Proofs.YtkpcmbgnaenbhaaGreatDoor
