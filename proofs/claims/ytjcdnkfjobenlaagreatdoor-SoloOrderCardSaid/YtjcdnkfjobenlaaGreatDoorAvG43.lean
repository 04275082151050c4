/- Texts put together: AvLaw21B, AvLaw21Z. -/
import Derived.Test.YtjcdnkfjobenlaaGreatDoorAvG42

/- Walks of package aviarylaw21: SoloOrder. -/
namespace Go.Proofs.YtjcdnkfjobenlaaGreatDoor
set_option maxRecDepth 100000
open Go.RowKit Av

theorem ord_open : (openO (soZ 10) 100).2 = (1, 0) := by decide
theorem ord_zero : OrdS 0 0 (openO (soZ 10) 100).1 := ⟨rfl, rfl, by decide, rfl, Int.le_refl _, .inl ⟨rfl, rfl⟩⟩
def OrdRel (w : World) (g : Nat) (n : Nat) (s7 s8 : Value) (wr : World) : Prop := ∃ (j : Nat) (last z : Int) (s : SoV), j ≤ n ∧ s7 = .int .i64 last ∧ s8 = .int .i64 j ∧ SoS w wr g (1 + j) s ∧ OrdS last z s
set_option maxHeartbeats 6400000 in
theorem soloOrder_any (v : Value) (xs : List Int) (w : World) (hG : GT w) (h : Sl w 1 v xs.length (xs.flatMap ncell)) :
    Calls Tryz.prog 4 #[v] w fun e w' => e = .returned (.bool true) ∧ Ext w w' := by
  have HG := Lib.hid hG
  have HAW := Lib.hid (awake21_any w hG)
  obtain ⟨a, c, rfl, hcc, hm, _, hop⟩ := Sl.open h
  have HOP := Lib.hid hop
  unfold maxLen at hm
  clear h hop hG
  by_cases h30 : xs.length ≤ 30
  · have h30' : ¬ (30 : Int) < (xs.length : Int) := by omega
    go_enter Tryz.func4, Tryz.ntmps4
    go_wp2_with (fail)
    refine HAW.out.mono ?_
    rintro e w1 ⟨rfl, hx1⟩
    have HX1 := Lib.hid hx1
    clear hx1
    go_wp2_with (fail)
    refine (soS_new 10 w1 (by decide) (by decide)).mono ?_
    rintro e w2 ⟨g, rfl, h1, hx2⟩
    have H1 := Lib.hid h1
    clear h1 hx2
    go_wp2_with (fail)
    refine (soS_open H1.out (by decide) 100).mono ?_
    rintro e w3 ⟨rfl, h2, ho2⟩
    rw [ord_open]
    have H2 := Lib.hid h2
    clear h2 ho2 H1
    go_wp2_with (fail)
    have HG := Lib.hid (HG.out.ext HX1.out)
    go_loopw [7, 8] (fun s7 s8 wr => OrdRel w1 g xs.length s7 s8 wr) (fun s7 s8 _ => xs.length - (intOf s8).toNat)
    case atStart => exact ⟨0, 0, 0, _, Nat.zero_le _, rfl, rfl, H2.out, ord_zero⟩
    case round =>
      clear H2 HAW
      obtain ⟨j, last, z, s, hj, rfl, rfl, hs, ho⟩ := hrel
      have HS := Lib.hid hs
      have HO := Lib.hid ho
      have hz1 := hs.ok.zx
      rw [ho.zx] at hz1
      have hz2 := ho.pos
      clear hs ho
      by_cases hlt : j < xs.length
      · obtain ⟨b, off, rfl, _, hc⟩ := HOP.out (by omega)
        have c0 := hc (j * 1 + 0) _ (rows_cell ncell 1 (fun _ => rfl) xs j hlt 0 (by decide))
        rw [Nat.mul_one, Nat.add_zero] at c0
        obtain ⟨num, hn⟩ : ∃ num, xs[j] = num := ⟨_, rfl⟩
        rw [hn] at c0
        have C0 := Lib.hid c0
        have c1 := (HX1.out.trans HS.out.ex).cell c0 (fun f => f)
        clear hc hn c0
        have hW1 : wrap64 (z + 1) = z + 1 := by unfold wrap64; omega
        have hV1 : IntKind.i64.wrap (z + 1) = z + 1 := IntWalk.i64_in _ (by omega)
        go_wp2_with (fail)
        refine (soS_zxid HS.out).mono ?_
        rintro e w8 ⟨rfl, rfl⟩
        rw [HO.out.zx]
        go_wp2_with (fail)
        obtain ⟨hxA, hoA, hsA⟩ := ops1 wr oEx _ rfl
        have HXA := Lib.hid hxA
        have HOA := Lib.hid hoA
        have HQSZ := Lib.hid hsA
        clear hxA hoA hsA
        refine (ask21_any 1 num _ 1 1 _).mono ?_
        rintro e w5 ⟨rfl, hx3⟩
        have HASK := Lib.hid (soS_ask HS.out (by omega) HG.out (HXA.out.trans hx3) (.slice (some ⟨(wr).heap.size, 0, none⟩) 1 1) [oEx] 1 num (HOA.out.ext hx3) (by intro x hx; rw [List.mem_singleton.1 hx]; decide) (fun i hi => by
          have e2 : (wr).heap.size = i := by simpa [Value.ownBlock] using hi
          have h1 := Nat.lt_of_lt_of_le HQSZ.out hx3.size
          omega))
        clear hx3 HXA HOA HQSZ
        go_wp2_with (fail)
        refine HASK.out.mono ?_
        rintro e w6 ⟨u, rfl, hu1, hs1, ho1⟩
        clear HASK
        obtain ⟨X, hX⟩ : ∃ X, askS s 1 num [oEx] = X := ⟨_, rfl⟩
        have hlow := fun h => HO.out.low (num := num) h
        have hsame := fun h e => HO.out.same (num := num) h e
        have hnext := fun h e => HO.out.next (num := num) h e
        rw [hX] at hu1 hs1 hlow hsame hnext
        rw [hX]
        clear hX c1
        by_cases hl : num < 1 ∨ num < last
        · obtain ⟨he, hord⟩ := hlow hl
          have HORD := Lib.hid hord
          clear hlow hsame hnext hord
          have HOA := Lib.hid ho1
          obtain ⟨xs, hxs, hxe⟩ := hu1
          obtain ⟨ua, uc, rfl⟩ := hxs.slice
          have HU0 : Hid (RpAt w6 0 (.slice ua xs.length uc) X.2) := ⟨xs, hxs, hxe⟩
          clear hxs hxe
          generalize xs.length = un at *
          unfold rplA
          obtain ⟨w7, hWD⟩ : ∃ W, (w6).alloc (.cells #[.int .i64 (X.2).num, .int .i64 (X.2).zxid, .int .i64 (X.2).err, .int .i64 (X.2).at_, .slice ua un uc] rplT) = W := ⟨_, rfl⟩
          have hxD : Ext w6 w7 := by rw [← hWD]; exact (Kp.refl _ _).alloc _
          have BA : Hid (Blk w7 (w6).heap.size #[.int .i64 (X.2).num, .int .i64 (X.2).zxid, .int .i64 (X.2).err, .int .i64 (X.2).at_, .slice ua un uc] rplT) := by
            show Blk _ _ _ _
            rw [← hWD]; exact heap_alloc_new w6 _
          have HUA := Lib.hid (HU0.out.ext hxD)
          have HS7 := Lib.hid ((hs1).ext hxD)
          have HXD := Lib.hid hxD
          have HWD := Lib.hid hWD
          clear ho1 hs1 HU0 hxD hWD
          have hba := BA.out
          rw [he] at hba
          have a0 := hba.cell 0 _ rfl
          have a1 := hba.cell 1 _ rfl
          have a2 := hba.cell 2 _ rfl
          have a3 := hba.cell 3 _ rfl
          have a4 := hba.cell 4 _ rfl
          have c1 := (HX1.out.trans HS7.out.ex).cell C0.out (fun f => f)
          clear hba he
          go_upto_region 16 with (fail)
          rw [HWD.out]
          by_cases h1 : num < 1
          · clear hl
            go_wp2_with (fail)
            refine (soS_zxid HS7.out).mono ?_
            rintro e w8 ⟨rfl, rfl⟩
            rw [HORD.out.zx]
            go_wp2_with (fail)
            go_light
            refine ⟨⟨j + 1, last, z, _, ?_, ?_, ?_, HS7.out, HORD.out⟩, ?_⟩
            · omega
            · rfl
            · go_num
            · simp [intOf]; omega
          · have h2 : num < last := by omega
            clear hl
            go_wp2_with (fail)
            refine (soS_zxid HS7.out).mono ?_
            rintro e w8 ⟨rfl, rfl⟩
            rw [HORD.out.zx]
            go_wp2_with (fail)
            go_light
            refine ⟨⟨j + 1, last, z, _, ?_, ?_, ?_, HS7.out, HORD.out⟩, ?_⟩
            · omega
            · rfl
            · go_num
            · simp [intOf]; omega
        · have t1 : ¬ num < 1 := by omega
          have t2 : ¬ num < last := by omega
          by_cases he2 : num = last
          · obtain ⟨he, hord⟩ := hsame hl he2
            have HORD := Lib.hid hord
            clear hlow hsame hnext hord hl
            subst he2
            have HOA := Lib.hid ho1
            obtain ⟨xs, hxs, hxe⟩ := hu1
            obtain ⟨ua, uc, rfl⟩ := hxs.slice
            have HU0 : Hid (RpAt w6 0 (.slice ua xs.length uc) X.2) := ⟨xs, hxs, hxe⟩
            clear hxs hxe
            generalize xs.length = un at *
            unfold rplA
            obtain ⟨w7, hWD⟩ : ∃ W, (w6).alloc (.cells #[.int .i64 (X.2).num, .int .i64 (X.2).zxid, .int .i64 (X.2).err, .int .i64 (X.2).at_, .slice ua un uc] rplT) = W := ⟨_, rfl⟩
            have hxD : Ext w6 w7 := by rw [← hWD]; exact (Kp.refl _ _).alloc _
            have BA : Hid (Blk w7 (w6).heap.size #[.int .i64 (X.2).num, .int .i64 (X.2).zxid, .int .i64 (X.2).err, .int .i64 (X.2).at_, .slice ua un uc] rplT) := by
              show Blk _ _ _ _
              rw [← hWD]; exact heap_alloc_new w6 _
            have HUA := Lib.hid (HU0.out.ext hxD)
            have HS7 := Lib.hid ((hs1).ext hxD)
            have HXD := Lib.hid hxD
            have HWD := Lib.hid hWD
            clear ho1 hs1 HU0 hxD hWD
            have hba := BA.out
            rw [he] at hba
            have a0 := hba.cell 0 _ rfl
            have a1 := hba.cell 1 _ rfl
            have a2 := hba.cell 2 _ rfl
            have a3 := hba.cell 3 _ rfl
            have a4 := hba.cell 4 _ rfl
            have c1 := (HX1.out.trans HS7.out.ex).cell C0.out (fun f => f)
            clear hba he t2
            go_upto_region 16 with (fail)
            rw [HWD.out]
            go_wp2_with (fail)
            refine (soS_zxid HS7.out).mono ?_
            rintro e w8 ⟨rfl, rfl⟩
            rw [HORD.out.zx]
            go_wp2_with (fail)
            go_light
            refine ⟨⟨j + 1, num, z, _, ?_, ?_, ?_, HS7.out, HORD.out⟩, ?_⟩
            · omega
            · rfl
            · go_num
            · simp [intOf]; omega
          · obtain ⟨he, hz, hord⟩ := hnext hl he2
            have HORD := Lib.hid hord
            have t3 : (num == last) = false := beq_eq_false_iff_ne.2 he2
            clear hlow hsame hnext hord hl he2
            have HOA := Lib.hid ho1
            obtain ⟨xs, hxs, hxe⟩ := hu1
            obtain ⟨ua, uc, rfl⟩ := hxs.slice
            have HU0 : Hid (RpAt w6 0 (.slice ua xs.length uc) X.2) := ⟨xs, hxs, hxe⟩
            clear hxs hxe
            generalize xs.length = un at *
            unfold rplA
            obtain ⟨w7, hWD⟩ : ∃ W, (w6).alloc (.cells #[.int .i64 (X.2).num, .int .i64 (X.2).zxid, .int .i64 (X.2).err, .int .i64 (X.2).at_, .slice ua un uc] rplT) = W := ⟨_, rfl⟩
            have hxD : Ext w6 w7 := by rw [← hWD]; exact (Kp.refl _ _).alloc _
            have BA : Hid (Blk w7 (w6).heap.size #[.int .i64 (X.2).num, .int .i64 (X.2).zxid, .int .i64 (X.2).err, .int .i64 (X.2).at_, .slice ua un uc] rplT) := by
              show Blk _ _ _ _
              rw [← hWD]; exact heap_alloc_new w6 _
            have HUA := Lib.hid (HU0.out.ext hxD)
            have HS7 := Lib.hid ((hs1).ext hxD)
            have HXD := Lib.hid hxD
            have HWD := Lib.hid hWD
            clear ho1 hs1 HU0 hxD hWD
            have hba := BA.out
            rw [he, hz] at hba
            have a0 := hba.cell 0 _ rfl
            have a1 := hba.cell 1 _ rfl
            have a2 := hba.cell 2 _ rfl
            have a3 := hba.cell 3 _ rfl
            have a4 := hba.cell 4 _ rfl
            have c1 := (HX1.out.trans HS7.out.ex).cell C0.out (fun f => f)
            clear hba he hz
            go_upto_region 16 with (fail)
            rw [HWD.out]
            go_wp2_with (fail)
            refine (soS_zxid HS7.out).mono ?_
            rintro e w8 ⟨rfl, rfl⟩
            rw [HORD.out.zx]
            go_wp2_with (fail)
            go_light
            refine ⟨⟨j + 1, num, (z + 1), _, ?_, ?_, ?_, HS7.out, HORD.out⟩, ?_⟩
            · omega
            · rfl
            · go_num
            · simp [intOf]; omega
      · go_wp2_with (fail)
        go_ret
        exact ⟨rfl, HX1.out.trans HS.out.ex⟩
  · have h30' : (30 : Int) < (xs.length : Int) := by omega
    go_enter Tryz.func4, Tryz.ntmps4
    go_wp2_with (fail)
    refine HAW.out.mono ?_
    rintro e w1 ⟨rfl, hx1⟩
    have HX1 := Lib.hid hx1
    clear hx1
    go_wp2_with (fail)
    go_ret
    exact ⟨rfl, HX1.out⟩
end Go.Proofs.YtjcdnkfjobenlaaGreatDoor

/- From the rows' arguments to the walks: SoloOrder. -/
namespace Go.Proofs.YtjcdnkfjobenlaaGreatDoor
set_option maxRecDepth 100000
open Go.ChangeShapes Go.WideShapes Go.ChangeAt Go.RowKit Av

theorem soloOrder_con {H : Type} {enc : TypeId × Value → H} (W : World) (base : Nat) (args : Array Value) (ds : List (DataW H)) (p : List MemPlace)
    (hval : ∀ (j : Nat) t v, Tryz.f4.params[j]? = some t → args[j]? = some v → Value.okWide Tryz.prog W .any base t v)
    (hA : DataW.TrodAll enc Tryz.prog W 0 (fun _ => true) true Tryz.f4.params.toList args.toList ds p)
    (hsh : W.ShapedOpen Tryz.prog) (hl : laidMet Tryz.prog Rows.soloOrderRow.laid W) : Calls Tryz.prog 4 args W fun e W' => e = .returned (.bool true) ∧ Ext W W' := by
  rw [Tryz.params4] at hA hval
  obtain ⟨v0, d0, rfl, rfl, h0⟩ := trodAll_one hA
  obtain ⟨xs, a1, _⟩ := arg_nums (hval 0 _ v0 rfl rfl) h0
  exact soloOrder_any v0 xs W (gt_of hsh hl (by kernel_rfl)) a1
end Go.Proofs.YtjcdnkfjobenlaaGreatDoor
