/- Walks of package aviarylaw11: TreeKids. -/
import Derived.Test.YtkpcmbgnaenbhaaDoorAvLaw11A
import Derived.Test.YtkpcmbgnaenbhaaDoorAvBools
import Derived.Test.YtkpcmbgnaenbhaaDoorAvWin
namespace Go.Proofs.YtkpcmbgnaenbhaaDoor
set_option maxRecDepth 100000
open Go.RowKit Av

/-! Names have no stroke. -/
def PtN (t : Pt) : Prop := ∀ e ∈ t, ∀ x ∈ e.2.names, (47 : UInt8) ∉ x
theorem last_free (p : Bs) : (47 : UInt8) ∉ lastL p := by
  unfold lastL
  by_cases h : partsL p = []
  · rw [h]; simp
  · have e : (partsL p).getLastD [] = (partsL p).getLast h := by rw [List.getLastD_eq_getLast?, List.getLast?_eq_some_getLast h]; rfl
    rw [e]
    exact (parts_name p _ (List.getLast_mem h)).2
theorem PtN.set {t : Pt} (h : PtN t) (p : ByteArray) {n : NodeV} (hn : ∀ x ∈ n.names, (47 : UInt8) ∉ x) : PtN (mset t p n) := fun e he => by
  rcases mem_mset' he with rfl | he
  · exact hn
  · exact h e he
theorem PtN.del {t : Pt} (h : PtN t) (p : ByteArray) : PtN (mdel t p) := fun e he => h e (List.mem_filter.1 he).1
theorem add_free {n : NodeV} (h : ∀ x ∈ n.names, (47 : UInt8) ∉ x) {y : Bs} (hy : (47 : UInt8) ∉ y) : ∀ x ∈ (ndAdd n y).names, (47 : UInt8) ∉ x := by
  unfold ndAdd
  split
  · exact h
  · intro x hx
    rcases insN_mem.1 hx with hx | rfl
    · exact h x hx
    · exact hy
theorem rem_free {n : NodeV} (h : ∀ x ∈ n.names, (47 : UInt8) ∉ x) (y : Bs) : ∀ x ∈ (ndRem n y).names, (47 : UInt8) ∉ x := by
  unfold ndRem
  split
  · exact fun x hx => h x ((delN_sub _ _).subset hx)
  · exact h
theorem PtN.tell {t : Pt} (h : PtN t) {f : NodeV → Bs → NodeV} (hf : ∀ n y, (∀ x ∈ n.names, (47 : UInt8) ∉ x) → (47 : UInt8) ∉ y → ∀ x ∈ (f n y).names, (47 : UInt8) ∉ x) (p : ByteArray) : PtN (tellP f t p) := by
  unfold tellP
  split
  · exact h
  · split
    · exact h
    · rename_i n hn
      exact h.set _ (hf _ _ (h _ (mget_mem hn)) (last_free _))
theorem PtN.create {t : Pt} (h : PtN t) (room : Int) (o : OpV) (sess z : Int) (only : Bool) : PtN (createP room t o sess z only).1 := by
  unfold createP
  simp only
  split
  · exact h
  · split
    · exact h
    · exact (h.set _ (by simp [ndNew])).tell (fun n y hn hy => add_free hn hy) _
theorem PtN.change {t : Pt} (h : PtN t) (o : OpV) (z : Int) (only : Bool) : PtN (changeP t o z only).1 := by
  unfold changeP
  split
  · exact h
  · rename_i n hn
    split
    · exact h
    · split
      · split
        · exact h
        · show PtN (if _ then _ else _)
          split
          · exact h
          · exact (h.del _).tell (fun n y hn _ => rem_free hn y) _
      · split
        · show PtN (if _ then _ else _)
          split
          · exact h
          · exact h.set _ (h _ (mget_mem hn))
        · exact h
theorem PtN.doP {t : Pt} (h : PtN t) (room : Int) (o : OpV) (sess z : Int) (only : Bool) : PtN (doP room t o sess z only).1 := by
  unfold Proofs.YtkpcmbgnaenbhaaDoor.doP
  split
  · exact h
  · split
    · exact h
    · split
      · exact h.create _ _ _ _ _
      · split
        · exact h.change _ _ _
        · exact h
/-- Paths have one. -/
def Stroke (v : Value) : Prop := ∃ s : ByteArray, v = .string s ∧ (47 : UInt8) ∈ s.data.toList
theorem stroke_num (c : Bs) (H : ∃ up, Chan c up) (j : Nat) : Stroke (.string (numP c j)) := by
  obtain ⟨up, H⟩ := H
  refine ⟨_, rfl, ?_⟩
  obtain ⟨r, h, _⟩ := good_head _ (H.goodN j)
  unfold numP
  rw [bs_eq, h]
  simp
/-- An append to a row of paths touches no node's names. -/
theorem TreeR.touch {w w' : World} {base base' b m : Nat} {room : Int} {t : Tr} (h : TreeR w base b m room t) (hN : PtN (pl t)) {ao : Option Addr} {cap n : Nat} (hH : WinH w strT ao cap n Stroke) (hc : 0 < cap ∨ ∀ (i : Nat) (cur : Array Value), w.heap[i]? = some (Obj.cells cur strT (0, 0)) → w'.heap[i]? = some (Obj.cells cur strT (0, 0)))
    (hk : Kp (fun i => base' ≤ i ∧ ∃ cur, w.heap[i]? = some (Obj.cells cur strT (0, 0))) w w') (ht : TouchT w w' strT ao) : TreeR w' base b m room t := by
  have hno : ∀ i, (∀ cur, w.heap[i]? ≠ some (Obj.cells cur strT (0, 0))) → ¬ (base' ≤ i ∧ ∃ cur, w.heap[i]? = some (Obj.cells cur strT (0, 0))) := fun i hi ⟨_, cur, hcur⟩ => hi cur hcur
  have hdiff : ∀ {i : Nat} {A : Array Value} {T : TypeId}, Blk w i A T → T ≠ strT → ∀ cur, w.heap[i]? ≠ some (Obj.cells cur strT (0, 0)) := by
    intro i A T hb hT cur e
    have hb' : w.heap[i]? = some (.cells A T (0, 0)) := hb
    rw [hb'] at e
    simp only [Option.some.injEq, Obj.cells.injEq] at e
    exact hT e.2.1
  refine ⟨h.low, h.blk.kp hk (hno b (hdiff h.blk (by decide))), h.map.kp hk (hno m ?_), fun e he => ?_, h.inj⟩
  · intro cur e
    obtain ⟨L, clock, hr, _⟩ := h.map
    have h1 := hr.1
    rw [e] at h1
    simp at h1
  · obtain ⟨nv, hb, h1, ho⟩ := h.nod e he
    refine ⟨nv, hb.kp hk (hno _ (hdiff hb (by decide))), h1, ?_⟩
    rcases ho with ho | ⟨q, c, cur, rfl, h0, hg, h2, h3, h4, h5⟩
    · exact .inl ho
    · right
      rcases ht q cur hg with hsame | ⟨cur', ⟨off, rfl⟩, hg', hs⟩
      · exact ⟨q, c, cur, rfl, h0, hsame, h2, h3, h4, h5⟩
      · rcases hc with hc | hc
        · obtain ⟨g2, off2, cur2, x, e1, e2, e3, e4, _⟩ := hH hc
          simp only [Option.some.injEq, Addr.mk.injEq, and_true] at e1
          obtain ⟨rfl, rfl⟩ := e1
          rw [hg] at e2
          simp only [Option.some.injEq, Obj.cells.injEq, and_true] at e2
          subst e2
          cases hnm : e.2.2.names with
          | nil =>
            rw [hnm] at h2 h5
            exact ⟨q, c, cur', rfl, h0, hg', h2, h3, by rw [hs]; exact h4, by simp⟩
          | cons y r =>
            exfalso
            rw [hnm] at h5
            have h6 : cur[0]? = some (encStr y) := by
              have := congrArg (fun l => l[0]?) h5
              simp only [List.map_cons, List.getElem?_cons_zero, List.getElem?_take] at this
              simpa using this
            rw [e3] at h6
            obtain ⟨s, rfl, hs47⟩ := e4
            simp only [Option.some.injEq, encStr, Value.string.injEq] at h6
            rw [h6] at hs47
            exact hN (e.1, e.2.2) (List.mem_map.2 ⟨e, he, rfl⟩) y (by simp [hnm]) (by simpa using hs47)
        · exact ⟨q, c, cur, rfl, h0, hc q cur hg, h2, h3, h4, h5⟩
def pv (j : Nat) : Value := .string (numP cC j)
theorem strs_facts : ElemOk Tryd.prog 28 strT 1 := ⟨by kernel_rfl, by kernel_rfl⟩
theorem sz0 : (⟨#[]⟩ : ByteArray).size ≤ 1000000 := by decide
theorem pv_stroke (D : List Nat) : ∀ x ∈ D.map pv, Stroke x := fun x hx => by
  obtain ⟨j, _, rfl⟩ := List.mem_map.1 hx
  exact stroke_num cC ⟨_, chanP⟩ j
def KidLoop (w0 : World) (n b m : Nat) (s5 s6 s7 s8 : Value) (wr : World) : Prop := ∃ (i : Nat) (t : Tr) (K nx : Nat) (D : List Nat) (nd : NodeV) (ao : Option Addr) (cap : Nat), i ≤ n ∧ s8 = .int .i64 i ∧ s5 = .int .i64 i ∧ s6 = .int .i64 nx ∧ nx ≤ i ∧ s7 = .slice ao D.length cap ∧ Win wr w0.heap.size strT ao cap (D.map pv) ∧ WinH wr strT ao cap D.length Stroke ∧ D.length ≤ nx ∧
  TS w0 wr b m 100 K t ∧ K ≤ 1 + i ∧ SeqSt cC upP (pl t) nx D nd ∧ PtN (pl t) ∧ nd.kids = i ∧ nd.ver = 0 ∧ nd.chg = 1 ∧ nd.cnt = D.length ∧ (pl t).length ≤ 1 + nx
set_option maxHeartbeats 6400000 in
theorem treeKids_any (v : Value) (l : List Bool) (w : World) (hG : GT w) (hb : BoolsR w v l) : Calls Tryd.prog 5 #[v] w fun e w' => e = .returned (.bool true) ∧ Ext w w' := by
  obtain ⟨ad, c, rfl, _, hm, hop⟩ := hb.open
  have HOP := Lib.hid hop
  have HG := Lib.hid hG
  unfold maxLen at hm
  clear hG hb hop
  by_cases hbig : 40 < l.length
  · have hb40 : (40 : Int) < (l.length : Int) := by omega
    go_enter Tryd.func5, Tryd.ntmps5
    go_wp2_with (fail)
    refine (awake_any w HG.out).mono ?_
    rintro e w0 ⟨rfl, hx0⟩
    go_wp2_with (fail)
    go_ret
    exact ⟨rfl, hx0⟩
  · have hb40 : ¬ (40 : Int) < (l.length : Int) := by omega
    have hn40 : l.length ≤ 40 := by omega
    clear hbig
    go_enter Tryd.func5, Tryd.ntmps5
    go_wp2_with (fail)
    refine (awake_any w HG.out).mono ?_
    rintro e w0 ⟨rfl, hx0⟩
    have HX0 := Lib.hid hx0
    have HG0 := Lib.hid (HG.out.ext hx0)
    clear hx0 HG
    go_wp2_with (fail)
    refine (tsNew 100 w0 w0 (Kp.refl _ _) (by decide) (by decide)).mono ?_
    rintro e w1 ⟨b, m, rfl, h1, hx1, _, _⟩
    have H1 := Lib.hid h1
    clear h1 hx1
    go_wp2_with (fail)
    refine (made_any _ _ _).mono ?_
    rintro e w2 ⟨rfl, hx2⟩
    have HD := Lib.hid (tsDoE (H1.out.ext hx2) HG0.out (by decide) ⟨1, ⟨upP.toArray⟩, ⟨#[]⟩, 0, 0⟩ 1 1 (by decide) (by decide) (create_root (up := upP) (by decide +kernel) 100 (by decide) 1 1 goodUP (by decide) (by decide)) 0 rfl)
    clear hx2 H1
    go_wp2_with (fail)
    refine HD.out.mono ?_
    rintro e w3 ⟨t3, a3, c3, rfl, _, h3, hp3, _, _⟩
    have H3 := Lib.hid h3
    have HP3 := Lib.hid hp3
    clear h3 hp3 HD
    go_wp2_with (fail)
    go_loopw [5, 6, 7, 8] (fun s5 s6 s7 s8 wr => KidLoop w0 l.length b m s5 s6 s7 s8 wr) (fun _ _ _ s8 _ => l.length - (intOf s8).toNat)
    case atStart => exact ⟨0, t3, _, 0, [], ndNew 1 0 ⟨#[]⟩, none, 0, Nat.zero_le _, rfl, rfl, rfl, Nat.le_refl _, rfl, Win.nil _ _ _, WinH.nil _ _ _, Nat.le_refl _, H3.out, by omega, by rw [HP3.out]; exact seq_start chanP 1, by rw [HP3.out]; intro e he; simp at he; subst he; simp [ndNew], rfl, rfl, rfl, rfl, by rw [HP3.out]; simp⟩
    case round =>
      clear H3 HP3
      obtain ⟨i, t, K, nx, D, nd, ao, cap, hi, rfl, rfl, rfl, hnx, rfl, hwin, hwh, hdl, hts, hK, hst, hpn, hkids, hver, hchg, hcnt, hlen⟩ := hrel
      have HT := Lib.hid hts
      have HST := Lib.hid hst
      have HW := Lib.hid hwin
      have HH := Lib.hid hwh
      have HPN := Lib.hid hpn
      have HNF := Lib.hid (And.intro hkids (And.intro hver (And.intro hchg hcnt)))
      clear hts hst hwin hwh hpn hkids hver hchg hcnt
      by_cases hlt : i < l.length
      · obtain ⟨g, off, rfl, hg, hcl⟩ := HOP.out (by omega)
        have hcl := (HX0.out.trans HT.out.ex).cell (hcl i hlt) (fun f => f)
        cases hli : l[i] with
        | true =>
          rw [hli] at hcl
          obtain ⟨P', x, hR, hst', hlen'⟩ := seq_create chanP goodCC HST.out (room := 100) (by omega) (by omega) 2 1 (by decide) (by decide)
          have hpv : ∀ y ∈ D.map pv ++ [.string (numP cC nx)], Stroke y := fun y hy => by
            rcases List.mem_append.1 hy with hy | hy
            · exact pv_stroke D y hy
            · simp at hy; subst hy; exact stroke_num cC ⟨_, chanP⟩ nx
          obtain ⟨q, hq⟩ : ∃ q, numP cC nx = q := ⟨_, rfl⟩
          rw [hq] at hR hpv
          have HQ := Lib.hid hq
          have HPV := Lib.hid hpv
          have HR := Lib.hid hR
          have HST2 := Lib.hid hst'
          have HLEN := Lib.hid hlen'
          clear hq hpv hR hst' hlen'
          go_wp2_with (fail)
          refine (made_any _ _ _).mono ?_
          rintro e w2 ⟨rfl, hx2⟩
          have HD2 := Lib.hid (tsDoE (HT.out.ext hx2) HG0.out (by omega) ⟨1, ⟨cC.toArray⟩, ⟨#[]⟩, 0, 2⟩ 1 2 (by decide) sz0 HR.out 0 rfl)
          have HT2 := Lib.hid (HT.out.ext hx2)
          have HW2 := Lib.hid (HW.out.ext hx2)
          have HH2 := Lib.hid (HH.out.ext hx2)
          clear hx2 HW HH
          go_wp2_with (fail)
          refine HD2.out.mono ?_
          rintro e w3 ⟨t3, a3, c3, rfl, _, h3, hp3, hk3, _⟩
          obtain ⟨wA, hWA⟩ : ∃ wA, w3.alloc (.cells #[.int .i64 0, .string q, .string ⟨#[]⟩, .slice a3 0 c3, .int .i64 x.made, .int .i64 x.chg, .int .i64 x.ver, .int .i64 x.kids, .int .i64 x.own, .int .i64 x.len, .int .i64 x.cnt] rsuT) = wA := ⟨_, rfl⟩
          have hxA : Ext w3 wA := by rw [← hWA]; exact (Kp.refl _ _).alloc _
          have hA : Blk wA w3.heap.size #[.int .i64 0, .string q, .string ⟨#[]⟩, .slice a3 0 c3, .int .i64 x.made, .int .i64 x.chg, .int .i64 x.ver, .int .i64 x.kids, .int .i64 x.own, .int .i64 x.len, .int .i64 x.cnt] rsuT := by rw [← hWA]; exact heap_alloc_new w3 _
          have hkeep : ∀ (g : Nat) (cur : Array Value), w2.heap[g]? = some (Obj.cells cur strT (0, 0)) → w3.heap[g]? = some (Obj.cells cur strT (0, 0)) := fun g cur hg => HT2.out.tr.blk' hk3 hg (by decide)
          have HW3 := Lib.hid ((HW2.out.keep hkeep).ext hxA)
          have HH3 := Lib.hid ((HH2.out.keep hkeep).ext hxA)
          have H3 := Lib.hid (h3.ext hxA)
          have HP3 := Lib.hid hp3
          have HN3 : Hid (PtN (pl t3)) := by show PtN _; rw [HP3.out]; have := HPN.out.doP 100 ⟨1, ⟨cC.toArray⟩, ⟨#[]⟩, 0, 2⟩ 1 2 false; rw [HR.out] at this; exact this
          have HWA := Lib.hid hWA
          have r0 := hA.cell 0 _ rfl
          have r1 := hA.cell 1 _ rfl
          clear hWA hxA hA h3 hp3 hk3 hkeep HD2 HT2 HW2 HH2
          go_upto_region 14 with (fail)
          rw [HWA.out]
          go_wp2_with (at_builtin; refine wpList_appWin 28 strT strs_facts rfl _ _ rfl w0.heap.size ao cap D.length (D.map pv) rfl (HW3.out.ext ((Kp.refl _ wA).alloc _)) (by simp) ⟨wA.heap.size, 0, none⟩ 1 (.string q) rfl (Blk.cell (heap_alloc_new wA _) 0 _ rfl) rfl (by omega) (Nat.le_trans H3.out.ex.size ((Kp.refl (fun _ => False) wA).alloc _).size) Stroke ?c1 (HH3.out.ext ((Kp.refl _ wA).alloc _)) ?_)
          case c1 => exact HPV.out
          intro ao' cap' w5 hw5 hh5 hta htb hk5
          have HT5 : Hid (TS w0 w5 b m 100 (K + 1) t3) := ⟨TreeR.touch ((H3.out.ext ((Kp.refl _ wA).alloc _)).tr) HN3.out (HH3.out.ext ((Kp.refl _ wA).alloc _)) hta hk5 htb, H3.out.pk, (H3.out.ex.alloc _).next hk5 (fun i hi h => by have := h.1; omega)⟩
          have HW5 : Hid (Win w5 w0.heap.size strT ao' cap' ((D ++ [nx]).map pv)) := by show Win _ _ _ _ _ _; rw [List.map_append]; show Win _ _ _ _ _ (D.map pv ++ [.string (numP cC nx)]); rw [HQ.out]; exact hw5
          have HH5 : Hid (WinH w5 strT ao' cap' (D ++ [nx]).length Stroke) := by show WinH _ _ _ _ _ _; rw [List.length_append]; exact hh5
          obtain ⟨nd', hnd'⟩ : ∃ y : NodeV, { nd with names := nd.names ++ [numN cC nx], cnt := (nd.names.length + 1 : Nat), kids := moreI nd.kids, next := moreI nd.next } = y := ⟨_, rfl⟩
          have HF : Hid (nd'.kids = (i : Int) + 1 ∧ nd'.ver = 0 ∧ nd'.chg = 1 ∧ nd'.cnt = (D.length : Int) + 1 ∧ nd'.next = (nx : Int) + 1) := by
            obtain ⟨f1, f2, f3, f4⟩ := HNF.out
            rw [← hnd']
            refine ⟨?_, f2, f3, ?_, ?_⟩
            · show moreI nd.kids = _; rw [f1, moreI_nat (by omega)]; omega
            · show ((nd.names.length + 1 : Nat) : Int) = _; rw [HST.out.names]; simp
            · show moreI nd.next = _; rw [HST.out.next, moreI_nat (by omega)]; omega
          have HST5 : Hid (SeqSt cC upP (pl t3) (nx + 1) (D ++ [nx]) nd') := by show SeqSt _ _ _ _ _ _; rw [HP3.out, ← hnd']; exact HST2.out
          clear hw5 hh5 hta htb hk5 hnd' HW3 HH3
          -- the parent is looked at, and the round ends
          have hnode : nodeP (pl t3) ⟨upP.toArray⟩ = (nd', true) := by unfold nodeP; rw [HST5.out.root]
          have HN := Lib.hid (by have := tsNode HT5.out (by omega) ⟨upP.toArray⟩; rw [hnode] at this; exact this)
          clear hnode
          go_wp2_with (fail)
          refine HN.out.mono ?_
          rintro e w7 ⟨nv7, rfl, ho7, h7, hx7⟩
          obtain ⟨a7, c7, rfl⟩ := owns_slice ho7
          obtain ⟨wC, hWC⟩ : ∃ wC, w7.alloc (.cells #[.int .i64 nd'.made, .int .i64 nd'.chg, .int .i64 nd'.ver, .int .i64 nd'.kids, .int .i64 nd'.own, .int .i64 nd'.len, .int .i64 nd'.cnt, .string nd'.data, .int .i64 nd'.next, .slice a7 nd'.names.length c7] ndT) = wC := ⟨_, rfl⟩
          have hxC : Ext w7 wC := by rw [← hWC]; exact (Kp.refl _ _).alloc _
          have hC : Blk wC w7.heap.size (ndA nd' (.slice a7 nd'.names.length c7)) ndT := by rw [← hWC]; exact heap_alloc_new w7 _
          have n1 := hC.cell 1 (.int .i64 nd'.chg) rfl
          have n2 := hC.cell 2 (.int .i64 nd'.ver) rfl
          have n3 := hC.cell 3 (.int .i64 nd'.kids) rfl
          have n6 := hC.cell 6 (.int .i64 nd'.cnt) rfl
          have n8 := hC.cell 8 (.int .i64 nd'.next) rfl
          obtain ⟨f1, f2, f3, f4, f5⟩ := HF.out
          rw [f1] at n3
          rw [f2] at n2
          rw [f3] at n1
          rw [f4] at n6
          rw [f5] at n8
          have HT7 := Lib.hid (h7.ext hxC)
          have HW7 := Lib.hid ((HW5.out.ext hx7).ext hxC)
          have HH7 := Lib.hid ((HH5.out.ext hx7).ext hxC)
          have HWC := Lib.hid hWC
          clear hWC hxC hC h7 hx7 ho7 HN f1 f2 f3 f4 f5
          unfold ndA
          go_upto_region 23 with (fail)
          rw [HWC.out]
          go_wp2_with (fail)
          go_light
          exact ⟨⟨i + 1, _, (K + 1), (nx + 1), (D ++ [nx]), nd', _, _, by omega, by go_num, by go_num, by go_num, by omega, (by simp), HW7.out, HH7.out, (by simp; omega), HT7.out, by omega, HST5.out, HN3.out, by rw [HF.out.1]; omega, HF.out.2.1, HF.out.2.2.1, (by rw [HF.out.2.2.2.1]; simp), (by rw [HP3.out]; have := HLEN.out; omega)⟩, by simp [intOf]; omega⟩
        | false =>
          rw [hli] at hcl
          by_cases hD0 : D.length = 0
          · have hd0 : ((D.length : Int) == 0) = true := by rw [hD0]; rfl
            clear hD0
            obtain ⟨P', x, hR, hst', hlen'⟩ := seq_create chanP goodCC HST.out (room := 100) (by omega) (by omega) 2 1 (by decide) (by decide)
            have hpv : ∀ y ∈ D.map pv ++ [.string (numP cC nx)], Stroke y := fun y hy => by
              rcases List.mem_append.1 hy with hy | hy
              · exact pv_stroke D y hy
              · simp at hy; subst hy; exact stroke_num cC ⟨_, chanP⟩ nx
            obtain ⟨q, hq⟩ : ∃ q, numP cC nx = q := ⟨_, rfl⟩
            rw [hq] at hR hpv
            have HQ := Lib.hid hq
            have HPV := Lib.hid hpv
            have HR := Lib.hid hR
            have HST2 := Lib.hid hst'
            have HLEN := Lib.hid hlen'
            clear hq hpv hR hst' hlen'
            go_wp2_with (fail)
            refine (made_any _ _ _).mono ?_
            rintro e w2 ⟨rfl, hx2⟩
            have HD2 := Lib.hid (tsDoE (HT.out.ext hx2) HG0.out (by omega) ⟨1, ⟨cC.toArray⟩, ⟨#[]⟩, 0, 2⟩ 1 2 (by decide) sz0 HR.out 0 rfl)
            have HT2 := Lib.hid (HT.out.ext hx2)
            have HW2 := Lib.hid (HW.out.ext hx2)
            have HH2 := Lib.hid (HH.out.ext hx2)
            clear hx2 HW HH
            go_wp2_with (fail)
            refine HD2.out.mono ?_
            rintro e w3 ⟨t3, a3, c3, rfl, _, h3, hp3, hk3, _⟩
            obtain ⟨wA, hWA⟩ : ∃ wA, w3.alloc (.cells #[.int .i64 0, .string q, .string ⟨#[]⟩, .slice a3 0 c3, .int .i64 x.made, .int .i64 x.chg, .int .i64 x.ver, .int .i64 x.kids, .int .i64 x.own, .int .i64 x.len, .int .i64 x.cnt] rsuT) = wA := ⟨_, rfl⟩
            have hxA : Ext w3 wA := by rw [← hWA]; exact (Kp.refl _ _).alloc _
            have hA : Blk wA w3.heap.size #[.int .i64 0, .string q, .string ⟨#[]⟩, .slice a3 0 c3, .int .i64 x.made, .int .i64 x.chg, .int .i64 x.ver, .int .i64 x.kids, .int .i64 x.own, .int .i64 x.len, .int .i64 x.cnt] rsuT := by rw [← hWA]; exact heap_alloc_new w3 _
            have hkeep : ∀ (g : Nat) (cur : Array Value), w2.heap[g]? = some (Obj.cells cur strT (0, 0)) → w3.heap[g]? = some (Obj.cells cur strT (0, 0)) := fun g cur hg => HT2.out.tr.blk' hk3 hg (by decide)
            have HW3 := Lib.hid ((HW2.out.keep hkeep).ext hxA)
            have HH3 := Lib.hid ((HH2.out.keep hkeep).ext hxA)
            have H3 := Lib.hid (h3.ext hxA)
            have HP3 := Lib.hid hp3
            have HN3 : Hid (PtN (pl t3)) := by show PtN _; rw [HP3.out]; have := HPN.out.doP 100 ⟨1, ⟨cC.toArray⟩, ⟨#[]⟩, 0, 2⟩ 1 2 false; rw [HR.out] at this; exact this
            have HWA := Lib.hid hWA
            have r0 := hA.cell 0 _ rfl
            have r1 := hA.cell 1 _ rfl
            clear hWA hxA hA h3 hp3 hk3 hkeep HD2 HT2 HW2 HH2
            go_upto_region 14 with (fail)
            rw [HWA.out]
            go_wp2_with (at_builtin; refine wpList_appWin 28 strT strs_facts rfl _ _ rfl w0.heap.size ao cap D.length (D.map pv) rfl (HW3.out.ext ((Kp.refl _ wA).alloc _)) (by simp) ⟨wA.heap.size, 0, none⟩ 1 (.string q) rfl (Blk.cell (heap_alloc_new wA _) 0 _ rfl) rfl (by omega) (Nat.le_trans H3.out.ex.size ((Kp.refl (fun _ => False) wA).alloc _).size) Stroke ?c1 (HH3.out.ext ((Kp.refl _ wA).alloc _)) ?_)
            case c1 => exact HPV.out
            intro ao' cap' w5 hw5 hh5 hta htb hk5
            have HT5 : Hid (TS w0 w5 b m 100 (K + 1) t3) := ⟨TreeR.touch ((H3.out.ext ((Kp.refl _ wA).alloc _)).tr) HN3.out (HH3.out.ext ((Kp.refl _ wA).alloc _)) hta hk5 htb, H3.out.pk, (H3.out.ex.alloc _).next hk5 (fun i hi h => by have := h.1; omega)⟩
            have HW5 : Hid (Win w5 w0.heap.size strT ao' cap' ((D ++ [nx]).map pv)) := by show Win _ _ _ _ _ _; rw [List.map_append]; show Win _ _ _ _ _ (D.map pv ++ [.string (numP cC nx)]); rw [HQ.out]; exact hw5
            have HH5 : Hid (WinH w5 strT ao' cap' (D ++ [nx]).length Stroke) := by show WinH _ _ _ _ _ _; rw [List.length_append]; exact hh5
            obtain ⟨nd', hnd'⟩ : ∃ y : NodeV, { nd with names := nd.names ++ [numN cC nx], cnt := (nd.names.length + 1 : Nat), kids := moreI nd.kids, next := moreI nd.next } = y := ⟨_, rfl⟩
            have HF : Hid (nd'.kids = (i : Int) + 1 ∧ nd'.ver = 0 ∧ nd'.chg = 1 ∧ nd'.cnt = (D.length : Int) + 1 ∧ nd'.next = (nx : Int) + 1) := by
              obtain ⟨f1, f2, f3, f4⟩ := HNF.out
              rw [← hnd']
              refine ⟨?_, f2, f3, ?_, ?_⟩
              · show moreI nd.kids = _; rw [f1, moreI_nat (by omega)]; omega
              · show ((nd.names.length + 1 : Nat) : Int) = _; rw [HST.out.names]; simp
              · show moreI nd.next = _; rw [HST.out.next, moreI_nat (by omega)]; omega
            have HST5 : Hid (SeqSt cC upP (pl t3) (nx + 1) (D ++ [nx]) nd') := by show SeqSt _ _ _ _ _ _; rw [HP3.out, ← hnd']; exact HST2.out
            clear hw5 hh5 hta htb hk5 hnd' HW3 HH3
            -- the parent is looked at, and the round ends
            have hnode : nodeP (pl t3) ⟨upP.toArray⟩ = (nd', true) := by unfold nodeP; rw [HST5.out.root]
            have HN := Lib.hid (by have := tsNode HT5.out (by omega) ⟨upP.toArray⟩; rw [hnode] at this; exact this)
            clear hnode
            go_wp2_with (fail)
            refine HN.out.mono ?_
            rintro e w7 ⟨nv7, rfl, ho7, h7, hx7⟩
            obtain ⟨a7, c7, rfl⟩ := owns_slice ho7
            obtain ⟨wC, hWC⟩ : ∃ wC, w7.alloc (.cells #[.int .i64 nd'.made, .int .i64 nd'.chg, .int .i64 nd'.ver, .int .i64 nd'.kids, .int .i64 nd'.own, .int .i64 nd'.len, .int .i64 nd'.cnt, .string nd'.data, .int .i64 nd'.next, .slice a7 nd'.names.length c7] ndT) = wC := ⟨_, rfl⟩
            have hxC : Ext w7 wC := by rw [← hWC]; exact (Kp.refl _ _).alloc _
            have hC : Blk wC w7.heap.size (ndA nd' (.slice a7 nd'.names.length c7)) ndT := by rw [← hWC]; exact heap_alloc_new w7 _
            have n1 := hC.cell 1 (.int .i64 nd'.chg) rfl
            have n2 := hC.cell 2 (.int .i64 nd'.ver) rfl
            have n3 := hC.cell 3 (.int .i64 nd'.kids) rfl
            have n6 := hC.cell 6 (.int .i64 nd'.cnt) rfl
            have n8 := hC.cell 8 (.int .i64 nd'.next) rfl
            obtain ⟨f1, f2, f3, f4, f5⟩ := HF.out
            rw [f1] at n3
            rw [f2] at n2
            rw [f3] at n1
            rw [f4] at n6
            rw [f5] at n8
            have HT7 := Lib.hid (h7.ext hxC)
            have HW7 := Lib.hid ((HW5.out.ext hx7).ext hxC)
            have HH7 := Lib.hid ((HH5.out.ext hx7).ext hxC)
            have HWC := Lib.hid hWC
            clear hWC hxC hC h7 hx7 ho7 HN f1 f2 f3 f4 f5
            unfold ndA
            go_upto_region 23 with (fail)
            rw [HWC.out]
            go_wp2_with (fail)
            go_light
            exact ⟨⟨i + 1, _, (K + 1), (nx + 1), (D ++ [nx]), nd', _, _, by omega, by go_num, by go_num, by go_num, by omega, (by simp), HW7.out, HH7.out, (by simp; omega), HT7.out, by omega, HST5.out, HN3.out, by rw [HF.out.1]; omega, HF.out.2.1, HF.out.2.2.1, (by rw [HF.out.2.2.2.1]; simp), (by rw [HP3.out]; have := HLEN.out; omega)⟩, by simp [intOf]; omega⟩
          · obtain ⟨j, B, rfl⟩ : ∃ j B, D = j :: B := by
              cases D with
              | nil => exact absurd rfl hD0
              | cons j B => exact ⟨j, B, rfl⟩
            clear hD0
            obtain ⟨P', hR, hst', hlen'⟩ := seq_delete chanP (A := []) HST.out (ver := -1) (.inr rfl) 100 3 1 (by decide) (by decide)
            obtain ⟨g2, off2, rfl, hcp⟩ := Win.head HW.out
            have hqs : (numP cC j).size ≤ 1000000 := by
              have := path_small (numP cC j) (by unfold numP; rw [bs_eq]; exact chanP.goodN j)
              omega
            obtain ⟨q, hq⟩ : ∃ q, numP cC j = q := ⟨_, rfl⟩
            have hc2 : wr.cell? ⟨g2, off2, none⟩ = some (.string q) := by rw [hcp]; show some (Value.string (numP cC j)) = _; rw [hq]
            rw [hq] at hR hqs
            have HD := Lib.hid (tsDoE HT.out HG0.out (by omega) ⟨2, q, ⟨#[]⟩, -1, 0⟩ 1 3 hqs sz0 hR 0 rfl)
            have HR := Lib.hid hR
            have HST2 := Lib.hid hst'
            have HLEN := Lib.hid hlen'
            have hcap : B.length + 1 ≤ cap := by have := HW.out.1; simpa using this
            have hl1 : (j :: B).length = B.length + 1 := rfl
            rw [hl1] at hdl HH HNF ⊢
            clear hq hR hqs hst' hlen' hl1 hcp
            have hd0 : (((B.length + 1 : Nat) : Int) == 0) = false := by simp; omega
            go_wp2_with (fail)
            refine HD.out.mono ?_
            rintro e w3 ⟨t3, a3, c3, rfl, _, h3, hp3, hk3, _⟩
            have hkeep : ∀ (g : Nat) (cur : Array Value), wr.heap[g]? = some (Obj.cells cur strT (0, 0)) → w3.heap[g]? = some (Obj.cells cur strT (0, 0)) := fun g cur hg => HT.out.tr.blk' hk3 hg (by decide)
            have HW3 := Lib.hid (HW.out.keep hkeep)
            have HH3 := Lib.hid (HH.out.keep hkeep)
            have HT3 := Lib.hid h3
            have HP3 := Lib.hid hp3
            have HN3 : Hid (PtN (pl t3)) := by show PtN _; rw [HP3.out]; have := HPN.out.doP 100 ⟨2, q, ⟨#[]⟩, -1, 0⟩ 1 3 false; rw [HR.out] at this; exact this
            clear hkeep hk3 h3 hp3 HD
            go_wp2_with (fail)
            change Oper.upon _ _ _ _ _ (Result.ok (Next.value (Value.int IntKind.i64 0)) _)
            go_upto_region 22 with (fail)
            obtain ⟨ao', hao⟩ : ∃ y : Option Addr, (if cap = 1 then some ⟨g2, off2, none⟩ else some ⟨g2, off2 + 1, none⟩) = y := ⟨_, rfl⟩
            rw [hao]
            have hao1 : cap ≠ 1 → ao' = (some (⟨g2, off2, none⟩ : Addr)).map (fun a => a.add 1) := fun h => by rw [← hao, if_neg h]; simp [Addr.add]
            have HW5 := Lib.hid (Win.tail (x := pv j) (xs := B.map pv) HW3.out ao' hao1)
            have HH5 := Lib.hid (WinH.tail HH3.out ao' hao1)
            have HW5 : Hid (Win w3 w0.heap.size strT ao' (cap - 1) (B.map pv)) := HW5.out
            obtain ⟨nd', hnd'⟩ : ∃ y : NodeV, { nd with names := ([] : List Nat).map (numN cC) ++ B.map (numN cC), cnt := (([] ++ j :: B).length - 1 : Nat), kids := moreI nd.kids } = y := ⟨_, rfl⟩
            have HF : Hid (nd'.kids = (i : Int) + 1 ∧ nd'.ver = 0 ∧ nd'.chg = 1 ∧ nd'.cnt = (B.length : Int) ∧ nd'.next = (nx : Int)) := by
              obtain ⟨f1, f2, f3, f4⟩ := HNF.out
              rw [← hnd']
              refine ⟨?_, f2, f3, ?_, HST.out.next⟩
              · show moreI nd.kids = _; rw [f1, moreI_nat (by omega)]; omega
              · show ((([] ++ j :: B).length - 1 : Nat) : Int) = _; simp
            have HST5 : Hid (SeqSt cC upP (pl t3) nx B nd') := by show SeqSt _ _ _ _ _ _; rw [HP3.out, ← hnd']; exact HST2.out
            clear hao hao1 hnd' HW3 HH3
            -- the parent is looked at, and the round ends
            have hnode : nodeP (pl t3) ⟨upP.toArray⟩ = (nd', true) := by unfold nodeP; rw [HST5.out.root]
            have HN := Lib.hid (by have := tsNode HT3.out (by omega) ⟨upP.toArray⟩; rw [hnode] at this; exact this)
            clear hnode
            go_wp2_with (fail)
            refine HN.out.mono ?_
            rintro e w7 ⟨nv7, rfl, ho7, h7, hx7⟩
            obtain ⟨a7, c7, rfl⟩ := owns_slice ho7
            obtain ⟨wC, hWC⟩ : ∃ wC, w7.alloc (.cells #[.int .i64 nd'.made, .int .i64 nd'.chg, .int .i64 nd'.ver, .int .i64 nd'.kids, .int .i64 nd'.own, .int .i64 nd'.len, .int .i64 nd'.cnt, .string nd'.data, .int .i64 nd'.next, .slice a7 nd'.names.length c7] ndT) = wC := ⟨_, rfl⟩
            have hxC : Ext w7 wC := by rw [← hWC]; exact (Kp.refl _ _).alloc _
            have hC : Blk wC w7.heap.size (ndA nd' (.slice a7 nd'.names.length c7)) ndT := by rw [← hWC]; exact heap_alloc_new w7 _
            have n1 := hC.cell 1 (.int .i64 nd'.chg) rfl
            have n2 := hC.cell 2 (.int .i64 nd'.ver) rfl
            have n3 := hC.cell 3 (.int .i64 nd'.kids) rfl
            have n6 := hC.cell 6 (.int .i64 nd'.cnt) rfl
            have n8 := hC.cell 8 (.int .i64 nd'.next) rfl
            obtain ⟨f1, f2, f3, f4, f5⟩ := HF.out
            rw [f1] at n3
            rw [f2] at n2
            rw [f3] at n1
            rw [f4] at n6
            rw [f5] at n8
            have HT7 := Lib.hid (h7.ext hxC)
            have HW7 := Lib.hid ((HW5.out.ext hx7).ext hxC)
            have HH7 := Lib.hid ((HH5.out.ext hx7).ext hxC)
            have HWC := Lib.hid hWC
            clear hWC hxC hC h7 hx7 ho7 HN f1 f2 f3 f4 f5
            unfold ndA
            go_upto_region 23 with (fail)
            rw [HWC.out]
            go_wp2_with (fail)
            go_light
            exact ⟨⟨i + 1, _, (K + 1), nx, B, nd', _, _, by omega, by go_num, by go_num, by go_num, by omega, rfl, HW7.out, HH7.out, (by omega), HT7.out, by omega, HST5.out, HN3.out, by rw [HF.out.1]; omega, HF.out.2.1, HF.out.2.2.1, HF.out.2.2.2.1, (by rw [HP3.out]; have := HLEN.out; omega)⟩, by simp [intOf]; omega⟩
      · go_wp2_with (fail)
        go_ret
        exact ⟨rfl, HX0.out.trans HT.out.ex⟩
end Go.Proofs.YtkpcmbgnaenbhaaDoor
