/- Texts put together: AvLaw21C, AvLaw21Y, AvLaw21O, AvReadLaw. -/
import Derived.Test.YtnlefnhdhigecaaGreatDoorAvG38
import Derived.Test.YtnlefnhdhigecaaGreatDoorAvG39
import Derived.Test.YtnlefnhdhigecaaGreatDoorAvG19
import Derived.Test.YtnlefnhdhigecaaGreatDoorAvG21

/- Walks of package aviarylaw21: SoloEvents. -/
namespace Go.Proofs.YtnlefnhdhigecaaGreatDoor
set_option maxRecDepth 100000
open Go.RowKit Av

theorem ev_open : (openO (openO (soZ 10) 100).1 100).2 = (2, 0) := by decide
theorem ev_open1 : (openO (soZ 10) 100).2 = (1, 0) := by decide
def cntW (again : Bool) (i : Nat) : Nat := if again then i else if i = 0 then 0 else 1
theorem cnt_step (again : Bool) (i : Nat) : cntW again i + (if (again || i == 0) = true then 1 else 0) = cntW again (i + 1) := by
  unfold cntW
  cases again with
  | true => simp
  | false => by_cases h : i = 0 <;> simp [h]
theorem cnt_le (again : Bool) (i : Nat) : cntW again i ≤ i := by
  unfold cntW
  split
  · exact Nat.le_refl _
  · split <;> omega
def EvRel (w : World) (g : Nat) (sets : Int) (again : Bool) (s11 s12 : Value) (wr : World) : Prop := ∃ (i N : Nat) (s : SoV), (i : Int) ≤ sets ∧ N ≤ 10 + 2 * i ∧ s11 = .int .i64 (cntW again i) ∧ s12 = .int .i64 i ∧ SoS w wr g N s ∧ EvS (i + 1) (again || i == 0) s
set_option maxHeartbeats 6400000 in
theorem soloEvents_any (sets : Int) (again : Bool) (w : World) (hG : GT w) :
    Calls Tryz.prog 5 #[.int .i64 sets, .bool again] w fun e w' => e = .returned (.bool true) ∧ Ext w w' := by
  have HG := Lib.hid hG
  have HAW := Lib.hid (awake21_any w hG)
  clear hG
  by_cases h1 : sets < 1
  · go_enter Tryz.func5, Tryz.ntmps5
    go_wp2_with (fail)
    refine HAW.out.mono ?_
    rintro e w1 ⟨rfl, hx1⟩
    have HX1 := Lib.hid hx1
    clear hx1
    go_wp2_with (fail)
    go_ret
    exact ⟨rfl, HX1.out⟩
  by_cases h2 : 20 < sets
  · go_enter Tryz.func5, Tryz.ntmps5
    go_wp2_with (fail)
    refine HAW.out.mono ?_
    rintro e w1 ⟨rfl, hx1⟩
    have HX1 := Lib.hid hx1
    clear hx1
    go_wp2_with (fail)
    go_ret
    exact ⟨rfl, HX1.out⟩
  go_enter Tryz.func5, Tryz.ntmps5
  go_wp2_with (fail)
  refine HAW.out.mono ?_
  rintro e w1 ⟨rfl, hx1⟩
  have HX1 := Lib.hid hx1
  clear hx1
  go_wp2_with (fail)
  refine (soS_new 10 w1 (by decide) (by decide)).mono ?_
  rintro e w2 ⟨g, rfl, h3, hx2⟩
  have H1 := Lib.hid h3
  clear h3 hx2
  go_wp2_with (fail)
  refine (soS_open H1.out (by decide) 100).mono ?_
  rintro e w3 ⟨rfl, h3, ho2⟩
  rw [ev_open1]
  have H2 := Lib.hid h3
  clear h3 ho2 H1
  go_wp2_with (fail)
  refine (soS_open H2.out (by decide) 100).mono ?_
  rintro e w4 ⟨rfl, h3, ho2⟩
  rw [ev_open]
  have H3 := Lib.hid h3
  have HG := Lib.hid (HG.out.ext HX1.out)
  clear h3 ho2 H2 HAW
  go_wp2_with (fail)
  obtain ⟨hxA, hoA, hsA⟩ := ops1 w4 oCw _ rfl
  have HXA := Lib.hid hxA
  have HOA := Lib.hid hoA
  have HQSZ := Lib.hid hsA
  clear hxA hoA hsA
  refine (ask21_any 1 1 _ 1 1 _).mono ?_
  rintro e w5 ⟨rfl, hx3⟩
  have HASK := Lib.hid (soS_ask H3.out (by omega) HG.out (HXA.out.trans hx3) (.slice (some ⟨(w4).heap.size, 0, none⟩) 1 1) [oCw] 1 1 (HOA.out.ext hx3) (by intro x hx; rw [List.mem_singleton.1 hx]; decide) (fun i hi => by
    have e2 : (w4).heap.size = i := by simpa [Value.ownBlock] using hi
    have h1 := Nat.lt_of_lt_of_le HQSZ.out hx3.size
    omega))
  clear hx3 HXA HOA HQSZ
  go_wp2_with (fail)
  refine HASK.out.mono ?_
  rintro e w6 ⟨u, rfl, hu1, hs1, ho1⟩
  clear HASK
  have hE := ev_start
  obtain ⟨X, hX⟩ : ∃ X, askS (openO (openO (soZ 10) 100).1 100).1 1 1 [oCw] = X := ⟨_, rfl⟩
  rw [hX] at hE hs1 ⊢
  have HE := Lib.hid hE
  have HS := Lib.hid hs1
  clear hE hs1 hX hu1 ho1
  go_wp2_with (fail)
  have hw := HE.out.watch
  refine (soS_watch HS.out (by omega) (HG.out.ext HS.out.ex).gl xW (by decide)).mono ?_
  rintro e w7 ⟨rfl, h4, ho7⟩
  rw [hw.2 rfl]
  have HE2 := Lib.hid hw.1
  have HS2 := Lib.hid h4
  clear hw h4 ho7 HS HE
  go_wp2_with (fail)
  go_loopw [11, 12] (fun s11 s12 wr => EvRel w1 g sets again s11 s12 wr) (fun _ s12 _ => (sets - intOf s12).toNat)
  case atStart => exact ⟨0, 4, _, by omega, by omega, by cases again <;> rfl, rfl, HS2.out, by rw [show (again || (0 : Nat) == 0) = true by cases again <;> rfl]; exact HE2.out⟩
  case round =>
    clear HS2 HE2 H3
    obtain ⟨i, N, s, hi, hN, rfl, rfl, hs, he⟩ := hrel
    have HS := Lib.hid hs
    have HE := Lib.hid he
    clear hs he
    by_cases hlt : (i : Int) < sets
    · have hW2 : wrap64 ((i : Int) + 2) = i + 2 := by unfold wrap64; omega
      obtain ⟨k, hk⟩ : ∃ k : Nat, (if (again || i == 0) = true then 1 else 0) = k := ⟨_, rfl⟩
      have hcs := cnt_step again i
      have hcl := cnt_le again i
      rw [hk] at hcs
      have hWc : wrap64 ((cntW again i : Int) + (k : Int)) = (cntW again (i + 1) : Int) := by
        have h0 := cnt_le again (i + 1)
        unfold wrap64; omega
      have hset := HE.out.set (num := (i : Int) + 2) (by omega) (by omega)
      rw [hk] at hset
      have HSET := Lib.hid hset
      have HC := Lib.hid hcs
      clear hset hcs hcl hk
      generalize cntW again i = cnt at *
      obtain ⟨cnt1, hc1⟩ : ∃ n, cntW again (i + 1) = n := ⟨_, rfl⟩
      rw [hc1] at hWc
      have HC1 := Lib.hid hc1
      clear HC hc1
      go_wp2_with (fail)
      obtain ⟨hxA, hoA, hsA⟩ := ops1 wr oSw _ rfl
      have HXA := Lib.hid hxA
      have HOA := Lib.hid hoA
      have HQSZ := Lib.hid hsA
      clear hxA hoA hsA
      refine (ask21_any 1 ((i : Int) + 2) _ 1 1 _).mono ?_
      rintro e w5 ⟨rfl, hx3⟩
      have HASK := Lib.hid (soS_ask HS.out (by omega) HG.out (HXA.out.trans hx3) (.slice (some ⟨(wr).heap.size, 0, none⟩) 1 1) [oSw] 1 ((i : Int) + 2) (HOA.out.ext hx3) (by intro x hx; rw [List.mem_singleton.1 hx]; decide) (fun i hi => by
        have e2 : (wr).heap.size = i := by simpa [Value.ownBlock] using hi
        have h1 := Nat.lt_of_lt_of_le HQSZ.out hx3.size
        omega))
      clear hx3 HXA HOA HQSZ
      go_wp2_with (fail)
      refine HASK.out.mono ?_
      rintro e w6 ⟨u, rfl, hu1, hs1, ho1⟩
      clear HASK
      have HS1 := Lib.hid hs1
      clear hs1 ho1 hu1
      go_wp2_with (fail)
      refine (soS_events HS1.out 2).mono ?_
      rintro e w7 ⟨v, rfl, hv, hs7, _⟩
      obtain ⟨va, vc, rfl⟩ := owns_slice hv
      rw [HSET.out.2]
      have HS7 := Lib.hid hs7
      have HE7 := Lib.hid HSET.out.1
      clear hv hs7 HSET HS1 HS HE
      cases again with
      | true =>
        go_wp2_with (fail)
        have hw := HE7.out.watch
        refine (soS_watch HS7.out (by omega) (HG.out.ext HS7.out.ex).gl xW (by decide)).mono ?_
        rintro e w8 ⟨rfl, h4, ho8⟩
        have HE8 := Lib.hid hw.1
        have HS8 := Lib.hid h4
        clear hw h4 ho8
        go_wp2_with (fail)
        go_light
        refine ⟨⟨i + 1, N + 1 + 1, _, ?_, ?_, ?_, ?_, HS8.out, ?_⟩, ?_⟩
        · omega
        · omega
        · rw [HC1.out]
        · go_num
        · rw [show (((i + 1 : Nat) : Int) + 1) = (i : Int) + 2 by omega]; exact HE8.out
        · simp [intOf]; omega
      | false =>
        go_wp2_with (fail)
        go_light
        refine ⟨⟨i + 1, N + 1, _, ?_, ?_, ?_, ?_, HS7.out, ?_⟩, ?_⟩
        · omega
        · omega
        · rw [HC1.out, hWc]
        · go_num
        · rw [show (((i + 1 : Nat) : Int) + 1) = (i : Int) + 2 by omega]; exact HE7.out
        · simp [intOf]; omega
    · have hie : (i : Int) = sets := by omega
      have hev := HE.out.ev 1
      have HEV : Hid ((s.ev 1).length = 0) := by show _ = _; rw [hev]; rfl
      clear hev
      cases again with
      | true =>
        have hc : ((cntW true i : Int)) = sets := hie
        rw [hc]
        clear hc hie
        go_wp2_with (fail)
        refine (soS_events HS.out 1).mono ?_
        rintro e w7 ⟨v, rfl, hv, hs7, _⟩
        obtain ⟨va, vc, rfl⟩ := owns_slice hv
        rw [HEV.out]
        have HS7 := Lib.hid hs7
        clear hv hs7
        go_wp2_with (fail)
        go_ret
        exact ⟨rfl, HX1.out.trans HS7.out.ex⟩
      | false =>
        have hc : ((cntW false i : Int)) = 1 := by unfold cntW; rw [if_neg (by decide), if_neg (by omega)]; rfl
        rw [hc]
        clear hc hie
        go_wp2_with (fail)
        refine (soS_events HS.out 1).mono ?_
        rintro e w7 ⟨v, rfl, hv, hs7, _⟩
        obtain ⟨va, vc, rfl⟩ := owns_slice hv
        rw [HEV.out]
        have HS7 := Lib.hid hs7
        clear hv hs7
        go_wp2_with (fail)
        go_ret
        exact ⟨rfl, HX1.out.trans HS7.out.ex⟩
end Go.Proofs.YtnlefnhdhigecaaGreatDoor

/- From the rows' arguments to the walks: SoloEvents. -/
namespace Go.Proofs.YtnlefnhdhigecaaGreatDoor
set_option maxRecDepth 100000
open Go.ChangeShapes Go.WideShapes Go.ChangeAt Go.RowKit Av

theorem soloEvents_con {H : Type} {enc : TypeId × Value → H} (W : World) (base : Nat) (args : Array Value) (ds : List (DataW H)) (p : List MemPlace)
    (hval : ∀ (j : Nat) t v, Tryz.f5.params[j]? = some t → args[j]? = some v → Value.okWide Tryz.prog W .any base t v)
    (hA : DataW.TrodAll enc Tryz.prog W 0 (fun _ => true) true Tryz.f5.params.toList args.toList ds p)
    (hsh : W.ShapedOpen Tryz.prog) (hl : laidMet Tryz.prog Rows.soloEventsRow.laid W) : Calls Tryz.prog 5 args W fun e W' => e = .returned (.bool true) ∧ Ext W W' := by
  rw [Tryz.params5] at hA hval
  obtain ⟨v0, v1, d0, d1, p0, p1, rfl, rfl, rfl, h0, h1⟩ := trodAll_two hA
  obtain ⟨n, rfl⟩ := okWide_int Tryz.underlying3 (hval 0 _ v0 rfl rfl)
  obtain ⟨s1, rfl⟩ := okWide_bool Tryz.underlying4 (hval 1 _ v1 rfl rfl)
  exact soloEvents_any n s1 W (gt_of hsh hl (by kernel_rfl))
end Go.Proofs.YtnlefnhdhigecaaGreatDoor

/- Walks of package aviarylaw21: nd, own. -/
namespace Go.Proofs.YtnlefnhdhigecaaGreatDoor
set_option maxRecDepth 100000
open Go.RowKit Av

set_option maxHeartbeats 1600000 in
theorem nd21_any (n : NodeV) (a : Option Addr) (k c : Nat) (w : World) : Calls Tryz.prog 87 #[.agg (ndA n (.slice a k c))] w fun e w' => e = .returned (.agg (ndA n (.slice a k c))) ∧ Ext w w' := by
  obtain ⟨wA, hWA⟩ : ∃ wA, (w.alloc (.cells #[.int .i64 n.made, .int .i64 n.chg, .int .i64 n.ver, .int .i64 n.kids, .int .i64 n.own, .int .i64 n.len, .int .i64 n.cnt, .string n.data, .int .i64 n.next, .slice a k c] ndT)).alloc (.cells ndZA rnT) = wA := ⟨_, rfl⟩
  have hxA : Ext w wA := by rw [← hWA]; exact ((Kp.refl _ _).alloc _).alloc _
  have hA : Blk wA w.heap.size #[.int .i64 n.made, .int .i64 n.chg, .int .i64 n.ver, .int .i64 n.kids, .int .i64 n.own, .int .i64 n.len, .int .i64 n.cnt, .string n.data, .int .i64 n.next, .slice a k c] ndT := by
    rw [← hWA]
    exact Blk.kp (heap_alloc_new w _) ((Kp.refl (fun _ => False) _).alloc _) (fun f => f)
  have hB : Blk wA (w.heap.size + 1) ndZA rnT := by
    rw [← hWA]
    have := heap_alloc_new (w.alloc (.cells #[.int .i64 n.made, .int .i64 n.chg, .int .i64 n.ver, .int .i64 n.kids, .int .i64 n.own, .int .i64 n.len, .int .i64 n.cnt, .string n.data, .int .i64 n.next, .slice a k c] ndT)) (.cells ndZA rnT)
    rw [World.size_alloc] at this
    exact this
  have HF : Hid (∀ u0 u1 u2 u3 u4 u5 u6 u7 u8 u9, Ext w (set10 wA (w.heap.size + 1) u0 u1 u2 u3 u4 u5 u6 u7 u8 u9)) := fun u0 u1 u2 u3 u4 u5 u6 u7 u8 u9 => hxA.next (kp_set10 wA _ u0 u1 u2 u3 u4 u5 u6 u7 u8 u9) (fun i hi e => by omega)
  unfold ndZA at hB
  have h0 := hA.cell 0 _ rfl
  have h1 := hA.cell 1 _ rfl
  have h2 := hA.cell 2 _ rfl
  have h3 := hA.cell 3 _ rfl
  have h4 := hA.cell 4 _ rfl
  have h5 := hA.cell 5 _ rfl
  have h6 := hA.cell 6 _ rfl
  have h7 := hA.cell 7 _ rfl
  have h8 := hA.cell 8 _ rfl
  have h9 := hA.cell 9 _ rfl
  have g0 := hB.cell 0 _ rfl
  have g1 := hB.cell 1 _ rfl
  have g2 := hB.cell 2 _ rfl
  have g3 := hB.cell 3 _ rfl
  have g4 := hB.cell 4 _ rfl
  have g5 := hB.cell 5 _ rfl
  have g6 := hB.cell 6 _ rfl
  have g7 := hB.cell 7 _ rfl
  have g8 := hB.cell 8 _ rfl
  have g9 := hB.cell 9 _ rfl
  have fg0 := hB.free 0
  have fg1 := hB.free 1
  have fg2 := hB.free 2
  have fg3 := hB.free 3
  have fg4 := hB.free 4
  have fg5 := hB.free 5
  have fg6 := hB.free 6
  have fg7 := hB.free 7
  have fg8 := hB.free 8
  have fg9 := hB.free 9
  have HWA := Lib.hid hWA
  clear hWA hxA hA hB
  unfold ndA
  go_enter Tryz.func87, Tryz.ntmps87
  go_upto_region 1 with (fail)
  unfold ndZA at HWA
  rw [HWA.out]
  go_wp2_with (fail)
  go_light
  exact bodyPost_ret (v := .agg #[.int .i64 n.made, .int .i64 n.chg, .int .i64 n.ver, .int .i64 n.kids, .int .i64 n.own, .int .i64 n.len, .int .i64 n.cnt, .string n.data, .int .i64 n.next, .slice a k c]) (by simp [results, Tryz.results87, go_sem, g0, g1, g2, g3, g4, g5, g6, g7, g8, g9]) rfl ⟨rfl, HF.out _ _ _ _ _ _ _ _ _ _⟩
set_option maxHeartbeats 6400000 in
theorem treeOwn21_any {w0 w : World} {b m : Nat} {room : Int} {K : Nat} {t : Tr} (h : TS w0 w b m room K t) (hs : SoundP room (pl t)) (hr : room ≤ 100000) (hK : K ≤ 100000) (rm : Int) :
    Calls Tryz.prog 39 #[.pointer (some ⟨b, 0, none⟩), .int .i64 rm] w fun e w' => OwnPost w rm (ownL (pl t)) e w' := by
  obtain ⟨wB, hWB⟩ : ∃ wB, w.alloc (.cells #[.int .i64 rm, .slice none 0 0] rtT) = wB := ⟨_, rfl⟩
  have hxB : Ext w wB := by rw [← hWB]; exact (Kp.refl _ _).alloc _
  have hB : Blk wB w.heap.size #[.int .i64 rm, .slice none 0 0] rtT := by rw [← hWB]; exact heap_alloc_new w _
  have HP := Lib.hid (tsPaths (h.ext hxB) hs hr)
  have HT := Lib.hid h
  have hTM : ∀ x ∈ pathsP (pl t), ∃ n, mget (pl t) ⟨x.toArray⟩ = some n := fun x hx => Option.ne_none_iff_exists'.1 (paths_mem.1 hx)
  have HM := Lib.hid hTM
  have HOWN : Hid (ownL (pl t) = (pathsP (pl t)).map (entOf (pl t))) := rfl
  have hL : (pathsP (pl t)).length ≤ 100000 := by
    have h1 := hs.size
    rw [pathsP_len]
    omega
  generalize ownL (pl t) = R at HOWN ⊢
  generalize pathsP (pl t) = L at HOWN HM HP hL
  have HB := Lib.hid hB
  have HXB := Lib.hid hxB
  have HWB := Lib.hid hWB
  clear hWB hxB hB hTM h hs
  go_enter Tryz.func39, Tryz.ntmps39
  go_upto_region 2 with (fail)
  rw [HWB.out]
  go_wp2_with (fail)
  refine HP.out.mono ?_
  rintro e wS ⟨vS, rfl, hoS, hxS⟩
  obtain ⟨aS, cS, hslS, hopS⟩ := strs_open hoS
  subst hslS
  have HGS : Hid (∀ g off, aS = some ⟨g, off, none⟩ → w.heap.size < g) := fun g off e => by
    subst e
    have h1 := (own_in hoS (i := g) rfl).1
    have h2 := HB.out.lt
    omega
  have HOP := Lib.hid hopS
  have HXS := Lib.hid (HXB.out.trans hxS)
  have HBS := Lib.hid (HB.out.kp hxS (fun f => f))
  have HSZ : Hid (w.heap.size < wS.heap.size) := HBS.out.lt
  clear hopS hoS hxS HP HB
  go_wp2_with (fail)
  go_loopw [7] (fun s7 wr => OwnRel wS rm w.heap.size (entOf (pl t)) L s7 wr) (fun s7 _ => L.length - (intOf s7).toNat)
  case atStart => exact ⟨0, .slice none 0 0, [], Nat.zero_le _, rfl, rfl, HBS.out, ⟨⟨rfl, .inl ⟨rfl, rfl⟩⟩, fun e he => by (cases he)⟩, Kp.refl _ _⟩
  case round =>
    clear HBS
    obtain ⟨i, v, E, hi, rfl, hent, hblk, hE, hk⟩ := hrel
    obtain ⟨va, vc, rfl⟩ := owns_slice hE.row
    have hxr : Ext w wr := HXS.out.next hk (fun j hj e => by omega)
    have HXR := Lib.hid hxr
    have HENT := Lib.hid hent
    have HBLK := Lib.hid hblk
    have HE := Lib.hid hE
    have HK := Lib.hid hk
    clear hxr hent hblk hE hk
    by_cases hlt : i < L.length
    · obtain ⟨gS, oS, rfl, hcl⟩ := HOP.out (by omega)
      have hgS : gS < wS.heap.size := World.block_lt_of_cell? _ _ (hcl i hlt)
      have hc0 := hcl i hlt
      have hgw := HGS.out _ _ rfl
      obtain ⟨n, hn⟩ := HM.out L[i] (List.getElem_mem hlt)
      obtain ⟨x, hx⟩ : ∃ x, L[i] = x := ⟨_, rfl⟩
      have HTAKE : Hid ((L.take (i + 1)).map (entOf (pl t)) = (L.take i).map (entOf (pl t)) ++ [entOf (pl t) x]) := by
        show _ = _
        rw [List.take_succ_eq_append_getElem hlt, List.map_append, hx]; rfl
      rw [hx] at hc0 hn
      have hEO : entOf (pl t) x = (⟨x.toArray⟩, n) := by unfold entOf nodeP; rw [hn]
      obtain ⟨p, hp⟩ : ∃ p : ByteArray, ⟨x.toArray⟩ = p := ⟨_, rfl⟩
      unfold encStr at hc0
      rw [hp] at hc0 hn hEO
      have HEO := Lib.hid hEO
      have hcr : wr.cell? ⟨gS, oS + i, none⟩ = some (.string p) := HK.out.cell hc0 (fun e => by have e2 : gS = w.heap.size := e; omega)
      have hnode : nodeP (pl t) p = (n, true) := by unfold nodeP; rw [hn]
      have HN := Lib.hid (by have := tsNode (HT.out.ext HXR.out) hK p; rw [hnode] at this; exact this)
      have hc := hcr
      clear hnode hcl hn hx hp hc0 hEO
      go_wp2_with (fail)
      refine HN.out.mono ?_
      rintro e w6 ⟨nv6, rfl, ho6, ht6, hx6⟩
      obtain ⟨a6, c6, rfl⟩ := owns_slice ho6
      obtain ⟨wC, hWC⟩ : ∃ wC, w6.alloc (.cells #[.int .i64 n.made, .int .i64 n.chg, .int .i64 n.ver, .int .i64 n.kids, .int .i64 n.own, .int .i64 n.len, .int .i64 n.cnt, .string n.data, .int .i64 n.next, .slice a6 n.names.length c6] ndT) = wC := ⟨_, rfl⟩
      have hxC : Ext w6 wC := by rw [← hWC]; exact (Kp.refl _ _).alloc _
      have hC : Blk wC w6.heap.size (ndA n (.slice a6 n.names.length c6)) ndT := by rw [← hWC]; exact heap_alloc_new w6 _
      have hrC : Ext wr wC := hx6.trans hxC
      have HBC := Lib.hid (HBLK.out.kp hrC (fun f => f))
      have HEC := Lib.hid (HE.out.ext hrC)
      have HNE : Hid (EntOk wC ⟨p, n, .slice a6 n.names.length c6⟩) := own_less (ownsRow.ext ho6 hxC) (Nat.zero_le _)
      have HCP := Lib.hid (hrC.cell hcr (fun f => f))
      have HCC := Lib.hid hC
      have HKC := Lib.hid (HK.out.ext hrC)
      have HWC := Lib.hid hWC
      have hro : ∀ q, (Value.slice va E.length vc).ownBlock = some q → wS.heap.size ≤ q ∧ q < wr.heap.size := fun q hq => own_in HE.out.row hq
      have hsz6 := hx6.size
      have hszC := hxC.size
      have hS := HSZ.out
      have hrS := HK.out.size
      have h6C := hC.lt
      have HN1 : Hid (¬ (wC.heap.size ≤ w.heap.size ∨ (Value.slice va E.length vc).ownBlock = some w.heap.size)) := fun f => by
        rcases f with f | f
        · omega
        · have := (hro _ f).1; omega
      have HN2 : Hid (¬ (wC.heap.size ≤ gS ∨ (Value.slice va E.length vc).ownBlock = some gS)) := fun f => by
        rcases f with f | f
        · omega
        · have := (hro _ f).1; omega
      have HN3 : Hid (¬ (wC.heap.size ≤ w6.heap.size ∨ (Value.slice va E.length vc).ownBlock = some w6.heap.size)) := fun f => by
        rcases f with f | f
        · omega
        · have := (hro _ f).2; omega
      have HOZ := Lib.hid (owns_zero HEC.out.row)
      have HONE := Lib.hid (ent_one ⟨p, n, .slice a6 n.names.length c6⟩ rfl)
      have HNDC := Lib.hid (fun W => nd21_any n a6 n.names.length c6 W)
      have hEl : E.length ≤ 100000 := by
        have h1 := congrArg List.length HENT.out
        rw [entL_len, List.length_map, List.length_take] at h1
        omega
      clear hWC hC hxC hrC ho6 ht6 hx6 HN hro hsz6 hszC h6C hcr hc
      unfold ndA
      unfold ndA at HNDC HCC
      go_upto_region 7 with (fail)
      rw [HWC.out]
      clear HWC
      refine' wp_region_dagQ wC.heap.size entT 11 (.slice va E.length vc) E.length (E.flatMap entC) 16 [(43, [42], [])] ((30, .val _) :: (31, .val _) :: (32, .val _) :: (33, .val _) :: (34, .val _) :: (35, .val _) :: (36, .val _) :: (37, .val _) :: (38, .val _) :: (39, .val _) :: (40, .val _) :: (41, .val _) :: (42, ⟨fun _ => True, fun v w => BoxL wC.heap.size entT 1 (entC ⟨p, n, .slice a6 n.names.length c6⟩) v w⟩) :: (43, ⟨fun v => ∃ a c, v = .slice a (E.length + 1) c, fun v w => w.ownsRow 0 entT 11 v (E.length + 1) (E.flatMap entC ++ entC ⟨p, n, .slice a6 n.names.length c6⟩) ∧ ∀ i, v.ownBlock = some i → (Value.slice va E.length vc).ownBlock = some i ∨ wC.heap.size ≤ i⟩) :: (44, .val _) :: (45, .val _) :: []) (by exact ⟨fun _ _ _ _ _ => trivial, ⟨fun _ _ _ _ _ => trivial, ⟨fun _ _ _ _ _ => trivial, ⟨fun _ _ _ _ _ => trivial, ⟨fun _ _ _ _ _ => trivial, ⟨fun _ _ _ _ _ => trivial, ⟨fun _ _ _ _ _ => trivial, ⟨fun _ _ _ _ _ => trivial, ⟨fun _ _ _ _ _ => trivial, ⟨fun _ _ _ _ _ => trivial, ⟨fun _ _ _ _ _ => trivial, ⟨fun _ _ _ _ _ => trivial, ⟨fun _ _ _ hr hv => hv.ext hr, ⟨fun _ _ _ hr hv => ⟨ownsRow.ext hv.1 hr, hv.2⟩, ⟨fun _ _ _ _ _ => trivial, ⟨fun _ _ _ _ _ => trivial, trivial⟩⟩⟩⟩⟩⟩⟩⟩⟩⟩⟩⟩⟩⟩⟩⟩) (by kernel_rfl) (by kernel_rfl) (by kernel_rfl) ?_
      rotate_left 14
      simp only [List.take_succ_cons, List.take_zero]
      repeat (first
        | (refine wpD_skipv ?_ ?_ ?_
           focus rfl
           focus rfl
           simp only [Act.put, List.setIfInBounds_toArray, List.set_cons_succ, List.set_cons_zero])
        | (refine' wpD_val (c := _) ?_ (fun w => Rr.refl w) ?_ (fun wq hwq hfq => ?_) ?_
           rotate_left
           focus rfl
           focus rfl
           focus ((have b1 := (HBC.out.kp hwq.1 HN1.out).cell 1 _ rfl; have cp := hwq.1.cell HCP.out HN2.out; have hdn := HCC.out.kp hwq.1 HN3.out; have d0 := hdn.cell 0 _ rfl; have d1 := hdn.cell 1 _ rfl; have d2 := hdn.cell 2 _ rfl; have d3 := hdn.cell 3 _ rfl; have d4 := hdn.cell 4 _ rfl; have d5 := hdn.cell 5 _ rfl; have d6 := hdn.cell 6 _ rfl; have d7 := hdn.cell 7 _ rfl; have d8 := hdn.cell 8 _ rfl; have d9 := hdn.cell 9 _ rfl; clear hdn); go_simp; first | done | rfl)
           simp only [Act.put, List.setIfInBounds_toArray, List.set_cons_succ, List.set_cons_zero])
        | (refine' wpD_con (c := _) ?_ ?_ (fun wq hwq hfq => ?_) ?_
           rotate_left
           focus rfl
           focus rfl
           focus ((have b1 := (HBC.out.kp hwq.1 HN1.out).cell 1 _ rfl; have cp := hwq.1.cell HCP.out HN2.out; have hdn := HCC.out.kp hwq.1 HN3.out; have d0 := hdn.cell 0 _ rfl; have d1 := hdn.cell 1 _ rfl; have d2 := hdn.cell 2 _ rfl; have d3 := hdn.cell 3 _ rfl; have d4 := hdn.cell 4 _ rfl; have d5 := hdn.cell 5 _ rfl; have d6 := hdn.cell 6 _ rfl; have d7 := hdn.cell 7 _ rfl; have d8 := hdn.cell 8 _ rfl; have d9 := hdn.cell 9 _ rfl; clear hdn); go_simp; (try (rw [dUpon_enter])); ((with_reducible refine (HNDC.out _).mono ?_); rintro e w' ⟨rfl, hx⟩; exact DEnd.con hx))
           simp only [Act.put, List.setIfInBounds_toArray, List.set_cons_succ, List.set_cons_zero])
        | (refine wpD_made (A := fun _ => True) (V := fun v w => BoxL wC.heap.size entT 1 (entC ⟨p, n, .slice a6 n.names.length c6⟩) v w) 42 ?_ ?_ ?_ ?_ (fun wq hwq hfq => ?_) (fun v42 h42 => ?_)
           focus rfl
           focus rfl
           focus (exact ⟨undef, trivial⟩)
           focus rfl
           focus ((have b1 := (HBC.out.kp hwq.1 HN1.out).cell 1 _ rfl; have cp := hwq.1.cell HCP.out HN2.out; have hdn := HCC.out.kp hwq.1 HN3.out; have d0 := hdn.cell 0 _ rfl; have d1 := hdn.cell 1 _ rfl; have d2 := hdn.cell 2 _ rfl; have d3 := hdn.cell 3 _ rfl; have d4 := hdn.cell 4 _ rfl; have d5 := hdn.cell 5 _ rfl; have d6 := hdn.cell 6 _ rfl; have d7 := hdn.cell 7 _ rfl; have d8 := hdn.cell 8 _ rfl; have d9 := hdn.cell 9 _ rfl; clear hdn); go_simp; (try (rw [dUpon_enter])); rw [dUpon_value]; exact mPost trivial (BoxL.new hwq.1.size) ((Kp.refl _ _).alloc _))
           clear h42
           simp only [Act.put, List.setIfInBounds_toArray, List.set_cons_succ, List.set_cons_zero])
        | (refine wpD_used (A := fun v => ∃ a c, v = .slice a (E.length + 1) c) (V := fun v w => w.ownsRow 0 entT 11 v (E.length + 1) (E.flatMap entC ++ entC ⟨p, n, .slice a6 n.names.length c6⟩) ∧ ∀ i, v.ownBlock = some i → (Value.slice va E.length vc).ownBlock = some i ∨ wC.heap.size ≤ i) 43 ?_ ?_ ?_ ?_ (fun wq hwq hfq => ?_) (fun v43 h43 => ?_)
           focus rfl
           focus rfl
           focus (exact ⟨.slice none (E.length + 1) 0, _, _, rfl⟩)
           focus rfl
           focus ((have b1 := (HBC.out.kp hwq.1 HN1.out).cell 1 _ rfl; have cp := hwq.1.cell HCP.out HN2.out; have hdn := HCC.out.kp hwq.1 HN3.out; have d0 := hdn.cell 0 _ rfl; have d1 := hdn.cell 1 _ rfl; have d2 := hdn.cell 2 _ rfl; have d3 := hdn.cell 3 _ rfl; have d4 := hdn.cell 4 _ rfl; have d5 := hdn.cell 5 _ rfl; have d6 := hdn.cell 6 _ rfl; have d7 := hdn.cell 7 _ rfl; have d8 := hdn.cell 8 _ rfl; have d9 := hdn.cell 9 _ rfl; clear hdn); refine dUpon_appR (d := 43) rfl (by kernel_rfl) entsT entT 11 (by decide) ents_facts rfl _ _ rfl (.slice va E.length vc) E.length (E.flatMap entC) rfl (hwq.2 HOZ.out) v42 1 (entC ⟨p, n, .slice a6 n.names.length c6⟩) rfl wC.heap.size (hfq 42 rfl) rfl HONE.out (by omega) (fun v' w' h1 h2 h3 h4 => ⟨owns_slice h1, ⟨h1, fun i hi => ?_⟩, ⟨(Kp.refl (fun i => wC.heap.size ≤ i ∨ (Value.slice va E.length vc).ownBlock = some i) _).grown h2 (fun q hq _ => .inr hq), fun _ => h3⟩, ?_⟩); (rcases h4 with h4 | h4; (focus exact .inl (by rw [← h4]; exact hi)); (rw [h4] at hi; simp only [Option.some.injEq] at hi; right; have := hwq.1.size; omega)); repeat (first | exact PresL.nil | (with_reducible refine PresL.val ?_) | (refine PresL.out rfl ?_) | (refine PresL.keep (fun u hu => hu) ?_)))
           obtain ⟨a43, c43, rfl⟩ := h43
           simp only [Act.put, List.setIfInBounds_toArray, List.set_cons_succ, List.set_cons_zero])
        | fail)
      refine wpD_nil ?_
      intro w7 hr7 hend
      have h43 : w7.ownsRow 0 entT 11 (.slice a43 (E.length + 1) c43) (E.length + 1) (E.flatMap entC ++ entC ⟨p, n, .slice a6 n.names.length c6⟩) ∧ ∀ i, (Value.slice a43 (E.length + 1) c43).ownBlock = some i → (Value.slice va E.length vc).ownBlock = some i ∨ wC.heap.size ≤ i := hend 43 (by kernel_rfl)
      clear hend
      have hk7 : Kp (fun i => (Value.slice va E.length vc).ownBlock = some i) wC w7 := hr7.1.mono (fun i hi e => by
        rcases e with e | e
        · omega
        · exact e)
      have hb7 := HBC.out.kp hr7.1 HN1.out
      have c1 := hb7.cell 1 _ rfl
      have f1 := hb7.free 1
      have HST := Lib.hid (own_step HSZ.out HKC.out HEC.out HNE.out hk7 h43.1 h43.2 HBC.out)
      have HEL : Hid (entL (E ++ [⟨p, n, .slice a6 n.names.length c6⟩]) = (L.take (i + 1)).map (entOf (pl t))) := by
        show _ = _
        rw [HTAKE.out, HEO.out, ← HENT.out]
        simp [entL]
      clear hr7 hk7 h43 hb7 HENT HTAKE HEO HONE HOZ HEC HNE HCC HCP
      go_wp2_with (fail)
      go_light
      refine ⟨⟨i + 1, _, _, ?_, ?_, HEL.out, HST.out.1, HST.out.2.1, HST.out.2.2⟩, ?_⟩
      · omega
      · go_num
      · simp [intOf]; omega
    · as_aux_lemma =>
      have hR : (L.take i).map (entOf (pl t)) = R := by rw [HOWN.out, List.take_of_length_le (by omega)]
      have HR := Lib.hid (HENT.out.trans hR)
      clear hR
      go_wp2_with (fail)
      go_ret
      exact ⟨_, rfl, ⟨Nat.le_refl _, _, _, HR.out, HBLK.out, HE.out.less (Nat.le_of_lt HSZ.out)⟩, HXR.out⟩
end Go.Proofs.YtnlefnhdhigecaaGreatDoor

/- Plain laws of a solo: what reads or fails changes no node; what is asked again is answered as it was. No program. -/
namespace Go.Proofs.YtnlefnhdhigecaaGreatDoor
set_option maxRecDepth 100000
open Go.RowKit Av

/-- Two states that differ in watches and events alone. -/
structure SameS (s t : SoV) : Prop where
  room : t.room = s.room
  tr : t.tr = s.tr
  ss : t.ss = s.ss
  zx : t.zx = s.zx
  last : t.last = s.last
theorem chStep_same (s : SoV) (x : OpV × Rp) : SameS s (chStep s x) := by
  unfold chStep
  split <;> exact ⟨rfl, rfl, rfl, rfl, rfl⟩
theorem SameS.trans {s t u : SoV} (h : SameS s t) (k : SameS t u) : SameS s u := ⟨k.room.trans h.room, k.tr.trans h.tr, k.ss.trans h.ss, k.zx.trans h.zx, k.last.trans h.last⟩
theorem chs_same : ∀ (l : List (OpV × Rp)) (s : SoV), SameS s (l.foldl chStep s)
  | [], _ => ⟨rfl, rfl, rfl, rfl, rfl⟩
  | x :: l, s => (chStep_same s x).trans (chs_same l _)
theorem changed_same (s : SoV) (ops : List OpV) (r : RpV) : SameS s (changedS s ops r) := by
  unfold changedS
  split
  · exact ⟨rfl, rfl, rfl, rfl, rfl⟩
  · exact chs_same _ _
theorem doL_reads {room : Int} {L : RL} {o : OpV} {sess z : Int} (h : 4 ≤ o.kind) : (doL room L o sess z).1 = L := by
  unfold doL
  split
  · rfl
  · split
    · rfl
    · rw [if_neg (by omega)]
      split
      · unfold changeL
        split
        · rfl
        · split
          · rfl
          · rw [if_neg (by omega), if_neg (by omega)]
      · rfl
theorem runL_reads {room sess z : Int} : ∀ {L : RL} {ops : List OpV}, (∀ o ∈ ops, 4 ≤ o.kind) → (runL room sess z L ops).1 = L
  | L, [], _ => rfl
  | L, o :: os, h => by
    have h1 : (doL room L o sess z).1 = L := doL_reads (h o (by simp))
    unfold runL
    split
    · exact h1
    · show (runL room sess z (doL room L o sess z).1 os).1 = L
      rw [h1]
      exact runL_reads (fun x hx => h x (by simp [hx]))
def wrB (ops : List OpV) : Bool := ops.any fun o => decide (o.kind < 4)
theorem writes_no {ops : List OpV} (h : wrB ops = false) : ∀ o ∈ ops, 4 ≤ o.kind := fun o ho => by
  unfold wrB at h
  rw [List.any_eq_false] at h
  have := h o ho
  simp only [decide_eq_true_eq] at this
  omega
theorem multi_reads (room : Int) (L : RL) (sess z : Int) (ops : List OpV) : (multiL room L sess z ops).1 = L ∨ ((multiL room L sess z ops).2.1.err = 0 ∧ wrB ops = true) := by
  by_cases hw : wrB ops = true
  · unfold multiL
    split
    · exact .inl rfl
    · split
      · exact .inl rfl
      · split
        · exact .inl rfl
        · exact .inr ⟨rfl, hw⟩
  · left
    have hr := runL_reads (room := room) (sess := sess) (z := z) (L := L) (writes_no (by simpa using hw))
    unfold multiL
    split
    · rfl
    · split
      · rfl
      · split
        · rfl
        · exact hr
theorem request_reads (room : Int) (L : RL) (sess num z : Int) (ops : List OpV) : (requestL room L sess num z ops).1 = L ∨ ((requestL room L sess num z ops).2.err = 0 ∧ wrB ops = true) := by
  unfold requestL
  split
  · exact .inl rfl
  · exact multi_reads room L sess z ops
theorem done_reads (s : SoV) (sess num : Int) (ops : List OpV) : (doneS s sess num ops).1.tr = s.tr ∨ ((doneS s sess num ops).2.err = 0 ∧ wrB ops = true) := by
  rcases request_reads s.room s.tr sess num (s.zx + 1) ops with h | h
  · left
    unfold doneS
    simp only
    rw [(changed_same _ ops _).tr]
    exact h
  · exact .inr h
/-- What only reads, or fails, changes no node. -/
theorem ask_reads (s : SoV) (sess num : Int) (ops : List OpV) : (askS s sess num ops).1.tr = s.tr ∨ ((askS s sess num ops).2.err = 0 ∧ wrB ops = true) := by
  unfold askS
  split
  · exact .inl rfl
  · split
    · exact .inl rfl
    · split
      · exact done_reads _ sess num ops
      · split
        · exact .inl rfl
        · split
          · exact .inl rfl
          · exact done_reads _ sess num ops
theorem done_room (s : SoV) (sess num : Int) (ops : List OpV) : (doneS s sess num ops).1.room = s.room := by
  unfold doneS
  simp only
  rw [(changed_same _ ops _).room]
theorem ask_room (s : SoV) (sess num : Int) (ops : List OpV) : (askS s sess num ops).1.room = s.room := by
  unfold askS
  split
  · rfl
  · split
    · rfl
    · split
      · exact done_room _ sess num ops
      · split
        · rfl
        · split
          · rfl
          · exact done_room _ sess num ops
theorem done_live (s : SoV) (sess num : Int) (ops : List OpV) : (doneS s sess num ops).1.ss = s.ss := by
  unfold doneS
  simp only
  rw [(changed_same _ ops _).ss]
theorem ask_live (s : SoV) (sess num : Int) (ops : List OpV) (q : Int) : liveS (askS s sess num ops).1.ss q = liveS s.ss q := by
  unfold askS
  split
  · rfl
  · split
    · rfl
    · split
      · rw [done_live]; exact live_touch _ _ _
      · split
        · exact live_touch _ _ _
        · split
          · exact live_touch _ _ _
          · rw [done_live]; exact live_touch _ _ _
theorem done_last (s : SoV) (sess num : Int) (ops : List OpV) (q : Int) : mget (doneS s sess num ops).1.last q = if q = sess then some (doneS s sess num ops).2 else mget s.last q := by
  unfold doneS
  simp only
  rw [mget_mset, (changed_same _ ops _).last]
theorem ask_last {s : SoV} {sess num : Int} {ops : List OpV} {q : Int} (h : q ≠ sess) : mget (askS s sess num ops).1.last q = mget s.last q := by
  unfold askS
  split
  · rfl
  · split
    · rfl
    · split
      · rw [done_last, if_neg h]
      · split
        · rfl
        · split
          · rfl
          · rw [done_last, if_neg h]
/-- The state since 1 asked its 3rd. -/
structure AgS (ops : List OpV) (r : RpV) (s : SoV) : Prop where
  live : liveS s.ss 1 = true
  last : (mayR 1 3 ops ≠ 0 ∧ r = failRp 3 (mayR 1 3 ops) (-1) 0) ∨ (mayR 1 3 ops = 0 ∧ mget s.last 1 = some r ∧ r.num = 3)
theorem AgS.first {s : SoV} (h : liveS s.ss 1 = true) (h2 : mget s.last 1 = none) (ops : List OpV) : AgS ops (askS s 1 3 ops).2 (askS s 1 3 ops).1 := by
  refine ⟨by rw [ask_live]; exact h, ?_⟩
  by_cases hm : mayR 1 3 ops = 0
  · right
    rw [askS_first hm h h2, done_last, if_pos rfl]
    refine ⟨hm, rfl, ?_⟩
    unfold doneS requestL
    simp only
    rw [if_neg (by rw [hm]; simp)]
  · left
    rw [askS_bad hm]
    exact ⟨hm, rfl⟩
theorem AgS.other {ops : List OpV} {r : RpV} {s : SoV} (h : AgS ops r s) (num : Int) (l : List OpV) : AgS ops r (askS s 2 num l).1 := by
  refine ⟨by rw [ask_live]; exact h.live, ?_⟩
  rw [ask_last (by decide)]
  exact h.last
theorem AgS.again {ops : List OpV} {r : RpV} {s : SoV} (h : AgS ops r s) : (askS s 1 3 ops).2 = r ∧ (askS s 1 3 ops).1.tr = s.tr ∧ (askS s 1 3 ops).1.zx = s.zx ∧ AgS ops r (askS s 1 3 ops).1 := by
  rcases h.last with ⟨h1, h2⟩ | ⟨h1, h2, h3⟩
  · rw [askS_bad h1]
    exact ⟨h2.symm, rfl, rfl, h⟩
  · rw [askS_same h1 h.live h2 h3.symm]
    exact ⟨rfl, rfl, rfl, by show liveS (touchS s.ss 1).1 1 = true; rw [live_touch]; exact h.live, .inr ⟨h1, h2, h3⟩⟩
end Go.Proofs.YtnlefnhdhigecaaGreatDoor
