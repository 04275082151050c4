/- Texts put together: AvLaw21E, AvLaw21W. -/
import Derived.Test.YtnlefnhdhigecaaGreatDoorAvG41

/- Walks of package aviarylaw21: SoloAgain. -/
namespace Go.Proofs.YtnlefnhdhigecaaGreatDoor
set_option maxRecDepth 100000
open Go.RowKit Av

theorem ag_open1 : (openO (soZ 100) 10000).2 = (1, 0) := by decide
theorem ag_open2 : (openO (openO (soZ 100) 10000).1 10000).2 = (2, 0) := by decide
theorem ag_live : liveS (openO (openO (soZ 100) 10000).1 10000).1.ss 1 = true := by decide
def AgRel (w : World) (g n q : Nat) (A : Array Value) (u : Value) (ops : List OpV) (r : RpV) (s14 : Value) (wr : World) : Prop := ∃ (j : Nat) (s : SoV), j ≤ n ∧ s14 = .int .i64 j ∧ SoS w wr g (3 + j) s ∧ s.room = 100 ∧ AgS ops r s ∧ RpAt wr 0 u r ∧ Blk wr q A rplT
def AgRel2 (w : World) (g N q : Nat) (times : Int) (A : Array Value) (u : Value) (ops : List OpV) (r : RpV) (g2 base : Nat) (s0 : SoV) (s17 : Value) (wr : World) : Prop := ∃ (j : Nat) (s : SoV), (j : Int) ≤ times ∧ s17 = .int .i64 j ∧ SoS w wr g (N + j) s ∧ s.room = 100 ∧ AgS ops r s ∧ RpAt wr 0 u r ∧ Blk wr q A rplT ∧ RefT wr base g2 100 s0.tr ∧ s.tr = s0.tr ∧ s.zx = s0.zx
set_option maxHeartbeats 6400000 in
theorem soloAgain_any (v0 v1 : Value) (times : Int) (ops : List OpV) (xs : List ActG) (w : World) (hG : GT w) (h0 : OpsAt w v0 ops) (h1 : ActsG w v1 xs) :
    Calls Tryz.prog 6 #[v0, v1, .int .i64 times] w fun e w' => e = .returned (.bool true) ∧ Ext w w' := by
  have HG := Lib.hid hG
  have HAW := Lib.hid (awake21_any w hG)
  have HO1 := Lib.hid h0
  obtain ⟨a, c, rfl, hm, hop⟩ := h1.open
  obtain ⟨a1, c1, rfl, _, hm1, hop1⟩ := OpsAt.open h0
  have HOP := Lib.hid hop
  unfold maxLen at hm hm1
  clear h0 h1 hop hop1 hG
  go_enter Tryz.func6, Tryz.ntmps6
  go_wp2_with (fail)
  refine HAW.out.mono ?_
  rintro e w1 ⟨rfl, hx1⟩
  have HX1 := Lib.hid hx1
  have HG := Lib.hid (HG.out.ext hx1)
  have HOO := Lib.hid (HO1.out.ext hx1)
  clear hx1
  go_wp2_with (fail)
  refine (long21_any _ ops w1 HOO.out).mono ?_
  rintro e w2 ⟨r, rfl, hr, rfl⟩
  have HR := Lib.hid hr
  clear hr
  cases r with
  | true =>
    go_wp2_with (fail)
    go_ret
    exact ⟨rfl, HX1.out⟩
  | false =>
    have HSZ := Lib.hid (opsS_of (HR.out rfl))
    clear HR
    by_cases h20 : xs.length ≤ 20
    · have h20' : ¬ (20 : Int) < (xs.length : Int) := by omega
      by_cases ht0 : times < 0
      · go_wp2_with (fail)
        go_ret
        exact ⟨rfl, HX1.out⟩
      by_cases ht5 : 5 < times
      · go_wp2_with (fail)
        go_ret
        exact ⟨rfl, HX1.out⟩
      go_wp2_with (fail)
      refine (soS_new 100 w1 (by decide) (by decide)).mono ?_
      rintro e w2 ⟨g, rfl, h3, hx2⟩
      have H1 := Lib.hid h3
      clear h3 hx2
      go_wp2_with (fail)
      refine (soS_open H1.out (by decide) 10000).mono ?_
      rintro e w3 ⟨rfl, h3, ho2⟩
      rw [ag_open1]
      have H2 := Lib.hid h3
      clear h3 ho2 H1 HAW
      go_wp2_with (fail)
      refine (soS_open H2.out (by decide) 10000).mono ?_
      rintro e w4 ⟨rfl, h3, ho2⟩
      rw [ag_open2]
      have H3 := Lib.hid h3
      clear h3 ho2 H2
      go_wp2_with (fail)
      refine (ask21_any 1 3 _ _ _ _).mono ?_
      rintro e w5 ⟨rfl, hx3⟩
      have HASK := Lib.hid (soS_askA H3.out (by omega) HG.out hx3 (.slice a1 (ops).length c1) ops 1 3 HOO.out HSZ.out)
      clear hx3
      go_wp2_with (fail)
      refine HASK.out.mono ?_
      rintro e w6 ⟨u, rfl, hu1, hs1, ho1⟩
      clear HASK
      have hag := AgS.first ag_live rfl ops
      obtain ⟨X, hX⟩ : ∃ X, askS (openO (openO (soZ 100) 10000).1 10000).1 1 3 ops = X := ⟨_, rfl⟩
      have hrm : X.1.room = 100 := by rw [← hX, ask_room]; rfl
      rw [hX] at hag hu1 hs1 ⊢
      have HAG := Lib.hid hag
      have HRM := Lib.hid hrm
      clear hX hag hrm
      have HOA := Lib.hid ho1
      obtain ⟨rsl, hrsl, hxe⟩ := hu1
      obtain ⟨ua, uc, rfl⟩ := hrsl.slice
      have HU0 : Hid (RpAt w6 0 (.slice ua rsl.length uc) X.2) := ⟨rsl, hrsl, hxe⟩
      clear hrsl hxe
      generalize rsl.length = un at *
      unfold rplA
      obtain ⟨w7, hWD⟩ : ∃ W, (w6).alloc (.cells #[.int .i64 (X.2).num, .int .i64 (X.2).zxid, .int .i64 (X.2).err, .int .i64 (X.2).at_, .slice ua un uc] rplT) = W := ⟨_, rfl⟩
      have hxD : Ext w6 w7 := by rw [← hWD]; exact (Kp.refl _ _).alloc _
      have BA : Hid (Blk w7 (w6).heap.size #[.int .i64 (X.2).num, .int .i64 (X.2).zxid, .int .i64 (X.2).err, .int .i64 (X.2).at_, .slice ua un uc] rplT) := by
        show Blk _ _ _ _
        rw [← hWD]; exact heap_alloc_new w6 _
      have HUA := Lib.hid (HU0.out.ext hxD)
      have HS7 := Lib.hid ((hs1).ext hxD)
      have HXD := Lib.hid hxD
      have HWD := Lib.hid hWD
      clear ho1 hs1 HU0 hxD hWD
      go_upto_region 9 with (fail)
      rw [HWD.out]
      go_wp2_with (fail)
      go_loopw [14] (fun s14 wr => AgRel w1 g xs.length w6.heap.size #[.int .i64 X.2.num, .int .i64 X.2.zxid, .int .i64 X.2.err, .int .i64 X.2.at_, .slice ua un uc] (.slice ua un uc) ops X.2 s14 wr) (fun s14 _ => xs.length - (intOf s14).toNat)
      case atStart => exact ⟨0, _, Nat.zero_le _, rfl, HS7.out, HRM.out, HAG.out, HUA.out, BA.out⟩
      case round =>
        clear HS7 HRM HAG HUA BA HOA
        obtain ⟨j, s, hj, rfl, hs, hroom, hag, hrp, hblk⟩ := hrel
        have HS := Lib.hid hs
        have HROOM := Lib.hid hroom
        have HAG := Lib.hid hag
        have HRP := Lib.hid hrp
        have HBLK := Lib.hid hblk
        clear hs hroom hag hrp hblk
        by_cases hlt : j < xs.length
        · obtain ⟨b, off, rfl, _, hc⟩ := HOP.out (by omega)
          obtain ⟨c0, ho0⟩ := hc j hlt
          generalize xs[j] = x at c0 ho0
          have HOX := Lib.hid (ho0.ext HX1.out)
          obtain ⟨oa, oc, hov, _, hom, _⟩ := OpsAt.open ho0
          rw [hov] at c0 HOX
          have C0 := Lib.hid c0
          have c3 := (HX1.out.trans HS.out.ex).cell c0 (fun f => f)
          unfold maxLen at hom
          have hW1 : wrap64 ((j : Int) + 1) = j + 1 := by unfold wrap64; omega
          have hV1 : IntKind.i64.wrap ((j : Int) + 1) = j + 1 := IntWalk.i64_in _ (by omega)
          clear hc c0 ho0 hov
          go_wp2_with (fail)
          refine (long21_any _ x.ops wr (HOX.out.ext HS.out.ex)).mono ?_
          rintro e w5 ⟨r, rfl, hr, rfl⟩
          have HR := Lib.hid hr
          clear hr
          cases r with
          | true =>
            go_wp2_with (fail)
            go_ret
            exact ⟨rfl, HX1.out.trans HS.out.ex⟩
          | false =>
            have HZX := Lib.hid (opsS_of (HR.out rfl))
            clear HR
            go_wp2_with (fail)
            refine (ask21_any 2 ((j : Int) + 1) _ _ _ _).mono ?_
            rintro e w5 ⟨rfl, hx3⟩
            have HASK := Lib.hid (soS_askA HS.out (by omega) HG.out hx3 (.slice oa (x.ops).length oc) x.ops 2 ((j : Int) + 1) HOX.out HZX.out)
            clear hx3
            go_wp2_with (fail)
            refine HASK.out.mono ?_
            rintro e w6b ⟨u, rfl, hu1, hs1, ho1⟩
            clear HASK
            have HS1 := Lib.hid hs1
            have HO1 := Lib.hid ho1
            have HRM : Hid ((askS s 2 ((j : Int) + 1) x.ops).1.room = 100) := by show _ = _; rw [ask_room]; exact HROOM.out
            clear hs1 ho1 hu1
            go_wp2_with (fail)
            go_light
            refine ⟨⟨j + 1, _, ?_, ?_, HS1.out, HRM.out, HAG.out.other _ _, HO1.out.rp HRP.out, HO1.out.blk HBLK.out (by decide)⟩, ?_⟩
            · omega
            · go_num
            · simp [intOf]; omega
        · go_wp2_with (fail)
          refine (soS_tree HS.out (by omega)).mono ?_
          rintro e w5 ⟨tb, tm, tc, rfl, ht, hxt⟩
          rw [HROOM.out] at ht
          have HOWN := Lib.hid (own21 ht (by decide) (by omega) 100)
          have HXT := Lib.hid hxt
          clear ht hxt
          go_wp2_with (fail)
          refine HOWN.out.mono ?_
          rintro e w8 ⟨g2, rfl, hr, hxo⟩
          have HRF := Lib.hid hr
          have HXO := Lib.hid (HXT.out.trans hxo)
          clear hr hxo HOWN HXT
          have HS6 := Lib.hid (HS.out.ext HXO.out)
          have HRP6 := Lib.hid (HRP.out.ext HXO.out)
          have HBLK6 := Lib.hid (HBLK.out.kp HXO.out (fun f => f))
          clear HXO HS HRP HBLK
          go_wp2_with (fail)
          refine (soS_zxid HS6.out).mono ?_
          rintro e w9 ⟨rfl, rfl⟩
          go_wp2_with (fail)
          go_loopw [17] (fun s17 wr => AgRel2 w1 g (3 + j) w6.heap.size times #[.int .i64 X.2.num, .int .i64 X.2.zxid, .int .i64 X.2.err, .int .i64 X.2.at_, .slice ua un uc] (.slice ua un uc) ops X.2 g2 w5.heap.size s s17 wr) (fun s17 _ => (times - intOf s17).toNat)
          case atStart => exact ⟨0, s, by omega, rfl, HS6.out, HROOM.out, HAG.out, HRP6.out, HBLK6.out, HRF.out, rfl, rfl⟩
          case round =>
            clear HS6 HROOM HAG HRP6 HBLK6 HRF
            obtain ⟨i, t, hi, rfl, hs, hroom, hag, hrp, hblk, hrf, htr, hzx⟩ := hrel
            have HS := Lib.hid hs
            have HROOM := Lib.hid hroom
            have HAG := Lib.hid hag
            have HRP := Lib.hid hrp
            have HBLK := Lib.hid hblk
            have HRF := Lib.hid hrf
            have HTR := Lib.hid htr
            have HZX := Lib.hid hzx
            clear hs hroom hag hrp hblk hrf htr hzx
            by_cases hlt2 : (i : Int) < times
            · obtain ⟨B, hR, hok⟩ := HS.out
              have hagn := HAG.out.again
              have HASKK := Lib.hid (fun W (hW : SoR w1 W g (20 * (3 + j + i)) B t) => soR_askA hW hok (by omega) HG.out (.slice a1 ops.length c1) ops 1 3 HOO.out HSZ.out)
              rw [hagn.1] at HASKK
              have HAGN := Lib.hid hagn.2
              have HRMY : Hid ((askS t 1 3 ops).1.room = 100) := by show _ = _; rw [ask_room]; exact HROOM.out
              generalize askS t 1 3 ops = Y at HASKK HAGN HRMY
              have HSAMEC : Hid (∀ W ra rn rc, RpAt W 0 (.slice ra rn rc) X.2 → RpAt W 0 (.slice ua un uc) X.2 → Calls Tryz.prog 41 #[.agg #[.int .i64 X.2.num, .int .i64 X.2.zxid, .int .i64 X.2.err, .int .i64 X.2.at_, .slice ra rn rc], .agg #[.int .i64 X.2.num, .int .i64 X.2.zxid, .int .i64 X.2.err, .int .i64 X.2.at_, .slice ua un uc]] W fun e w' => e = .returned (.bool true) ∧ Ext W w') := fun W ra rn rc h1 h2 => by
                have := repSame_any 0 0 _ _ _ _ W h1 h2
                rw [sameRp_refl] at this
                exact this
              have HBX : Hid (∀ W, Kp (fun i => wr.heap.size ≤ i ∨ SoFr g B i) wr W → Blk W w6.heap.size #[.int .i64 X.2.num, .int .i64 X.2.zxid, .int .i64 X.2.err, .int .i64 X.2.at_, .slice ua un uc] rplT) := fun W hW => HBLK.out.kp hW (fun f => by
                rcases f with f | f
                · have := HBLK.out.lt; omega
                · exact hR.safeA.blk HBLK.out (by decide) f)
              have HKX : Hid (∀ W, Kp (fun i => wr.heap.size ≤ i ∨ SoFr g B i) wr W → Oth w1 wr W) := fun W hW => hR.oth (Kp.refl _ _) (hW.mono (fun i hi e => e.elim (fun h => by omega) id))
              have HRX : Hid (∀ W, Kp (fun i => wr.heap.size ≤ i ∨ SoFr g B i) wr W → RpAt W 0 (.slice ua un uc) X.2) := fun W hW => (HKX.out W hW).rp HRP.out
              have HRR := Lib.hid hR
              clear hagn hR hok
              go_upto_region 19 with (fail)
              refine' Av.X.wp_region_dagG (fun i => SoFr g B i) 8 [(91, [900], [])] [900] ((87, .val _) :: (88, .val _) :: (89, .val _) :: (90, .val _) :: (91, ⟨fun v => ∃ ra rn rc, v = .agg #[.int .i64 X.2.num, .int .i64 X.2.zxid, .int .i64 X.2.err, .int .i64 X.2.at_, .slice ra rn rc], fun v w' => (∃ u, v = .agg (rplA X.2 u) ∧ RpAt w' 0 u X.2) ∧ SoS w1 w' g (3 + j + i + 1) Y.1⟩) :: (92, .val _) :: (93, .val _) :: (94, .val _) :: (900, ⟨fun _ => True, fun _ w' => SoR w1 w' g (20 * (3 + j + i)) B t⟩) :: []) (by exact ⟨fun _ _ _ _ _ => trivial, ⟨fun _ _ _ _ _ => trivial, ⟨fun _ _ _ _ _ => trivial, ⟨fun _ _ _ _ _ => trivial, ⟨fun _ _ _ hr ⟨⟨u, e, h1⟩, h2⟩ => ⟨⟨u, e, h1.ext hr⟩, h2.ext hr⟩, ⟨fun _ _ _ _ _ => trivial, ⟨fun _ _ _ _ _ => trivial, ⟨fun _ _ _ _ _ => trivial, ⟨fun _ _ _ hr hv => SoR.ext hv hr, trivial⟩⟩⟩⟩⟩⟩⟩⟩⟩) (by exact ⟨⟨undef, HRR.out.ext (Kp.refl (fun _ => False) _).drew⟩, trivial⟩) (by kernel_rfl) (by kernel_rfl) (by kernel_rfl) ?_
              rotate_left 7
              simp only [List.take_succ_cons, List.take_zero]
              repeat (first
                | (refine Av.X.wpD_skipv ?_ ?_ ?_
                   focus rfl
                   focus rfl
                   simp only [Act.put, List.setIfInBounds_toArray, List.set_cons_succ, List.set_cons_zero])
                | (refine' Av.X.wpD_val (c := _) ?_ (fun w => Kp.refl _ w) ?_ (fun wq hwq hfz => ?_) ?_
                   rotate_left
                   focus rfl
                   focus rfl
                   focus (have hfq := hfz.at_; have hcq := hfz.use; (have hb := HBX.out _ hwq; have e0 := hb.cell 0 _ rfl; have e1 := hb.cell 1 _ rfl; have e2 := hb.cell 2 _ rfl; have e3 := hb.cell 3 _ rfl; have e4 := hb.cell 4 _ rfl; clear hb); go_simp; first | done | rfl)
                   simp only [Act.put, List.setIfInBounds_toArray, List.set_cons_succ, List.set_cons_zero])
                | (refine' Av.X.wpD_con (c := _) ?_ ?_ (fun wq hwq hfz => ?_) ?_
                   rotate_left
                   focus rfl
                   focus rfl
                   focus (have hfq := hfz.at_; have hcq := hfz.use; (have hb := HBX.out _ hwq; have e0 := hb.cell 0 _ rfl; have e1 := hb.cell 1 _ rfl; have e2 := hb.cell 2 _ rfl; have e3 := hb.cell 3 _ rfl; have e4 := hb.cell 4 _ rfl; clear hb); go_simp; (try (rw [dUpon_enter])); (first | ((with_reducible refine (ask21_any 1 3 a1 ops.length c1 wq).mono ?_); rintro e w' ⟨rfl, hx⟩; exact DEnd.con hx) | (have h91 : (∃ u, _ ∧ RpAt wq 0 u X.2) ∧ _ := hfq 91 rfl; obtain ⟨⟨u, hu, hr1⟩, _⟩ := h91; have hu2 : u = .slice ra rn rc := (by unfold rplA at hu; simpa using hu.symm); subst hu2; (with_reducible refine (HSAMEC.out wq ra rn rc hr1 (HRX.out _ hwq)).mono ?_); rintro e w' ⟨rfl, hx⟩; exact DEnd.con hx)))
                   simp only [Act.put, List.setIfInBounds_toArray, List.set_cons_succ, List.set_cons_zero])
                | (refine Av.X.wpD_used (A := fun v => ∃ ra rn rc, v = .agg #[.int .i64 X.2.num, .int .i64 X.2.zxid, .int .i64 X.2.err, .int .i64 X.2.at_, .slice ra rn rc]) (V := fun v w' => (∃ u, v = .agg (rplA X.2 u) ∧ RpAt w' 0 u X.2) ∧ SoS w1 w' g (3 + j + i + 1) Y.1) 91 ?_ ?_ ?_ ?_ (fun wq hwq hfz => ?_) (fun v91 h91 => ?_)
                   focus rfl
                   focus rfl
                   focus (exact ⟨_, none, 0, 0, rfl⟩)
                   focus rfl
                   focus (have hfq := hfz.at_; have hcq := hfz.use; (have hb := HBX.out _ hwq; have e0 := hb.cell 0 _ rfl; have e1 := hb.cell 1 _ rfl; have e2 := hb.cell 2 _ rfl; have e3 := hb.cell 3 _ rfl; have e4 := hb.cell 4 _ rfl; clear hb); go_simp; (try (rw [dUpon_enter])); have h900 : SoR w1 wq g (20 * (3 + j + i)) B t := (hcq 900 rfl).elim (fun _ h => h); (with_reducible refine (HASKK.out _ h900).mono ?_); rintro e w' ⟨u, rfl, h1, h2, hk⟩; obtain ⟨rs, hrs, hre⟩ := h1; obtain ⟨ra, rc, rfl⟩ := hrs.slice; refine ⟨_, rfl, ⟨ra, _, rc, rfl⟩, ⟨⟨_, rfl, rs, hrs, hre⟩, h2⟩, hk.mono (fun i _ e => .inr e), ?_⟩; repeat (first | exact PresL.nil | (with_reducible refine PresL.val ?_) | (refine PresL.out rfl ?_)))
                   obtain ⟨ra, rn, rc, rfl⟩ := h91
                   simp only [Act.put, List.setIfInBounds_toArray, List.set_cons_succ, List.set_cons_zero])
                | fail)
              refine Av.X.wpD_nil ?_
              intro w2 hr2 hend
              refine wpList_nil ?_
              obtain ⟨_, hs2⟩ : (∃ u, _ ∧ RpAt w2 0 u X.2) ∧ SoS w1 w2 g (3 + j + i + 1) Y.1 := hend 91 (by kernel_rfl)
              clear hend
              have hot := HKX.out _ hr2
              have HS2 := Lib.hid hs2
              have HRP2 := Lib.hid (hot.rp HRP.out)
              have HBL2 := Lib.hid (hot.blk HBLK.out (by decide))
              have HRF2 := Lib.hid (hot.ref HRF.out)
              have HRM2 : Hid (Y.1.room = 100) := HRMY.out
              clear hs2 hot hr2
              go_wp2_with (fail)
              go_light
              refine ⟨⟨i + 1, Y.1, ?_, ?_, HS2.out, HRM2.out, HAGN.out.2.2, HRP2.out, HBL2.out, HRF2.out, ?_, ?_⟩, ?_⟩
              · omega
              · go_num
              · rw [HAGN.out.1]; exact HTR.out
              · rw [HAGN.out.2.1]; exact HZX.out
              · simp [intOf]; omega
            · go_wp2_with (fail)
              refine (soS_tree HS.out (by omega)).mono ?_
              rintro e w10 ⟨tb, tm, tc, rfl, ht, hxt⟩
              rw [HROOM.out] at ht
              have HOWN := Lib.hid (own21 ht (by decide) (by omega) 100)
              have HXT := Lib.hid hxt
              clear ht hxt
              go_wp2_with (fail)
              refine HOWN.out.mono ?_
              rintro e w11 ⟨g3, rfl, hr, hxo⟩
              have hxo2 := HXT.out.trans hxo
              rw [HTR.out] at hr
              have HSAME := Lib.hid (sameTree_any _ _ _ _ _ _ _ _ _ hr (HRF.out.ext hxo2))
              rw [show decide (s.tr = s.tr) = true from decide_eq_true rfl] at HSAME
              have HXO := Lib.hid hxo2
              clear hr hxo hxo2 HOWN HXT
              go_wp2_with (fail)
              refine HSAME.out.mono ?_
              rintro e w12 ⟨rfl, hx12⟩
              have HX12 := Lib.hid (HXO.out.trans hx12)
              clear hx12 HSAME
              go_wp2_with (fail)
              refine (soS_zxid (HS.out.ext HX12.out)).mono ?_
              rintro e w13 ⟨rfl, rfl⟩
              rw [HZX.out]
              go_wp2_with (fail)
              go_ret
              exact ⟨rfl, (HX1.out.trans HS.out.ex).trans HX12.out⟩
    · have h20' : (20 : Int) < (xs.length : Int) := by omega
      go_wp2_with (fail)
      go_ret
      exact ⟨rfl, HX1.out⟩
end Go.Proofs.YtnlefnhdhigecaaGreatDoor

/- From the rows' arguments to the walks: SoloAgain. -/
namespace Go.Proofs.YtnlefnhdhigecaaGreatDoor
set_option maxRecDepth 100000
open Go.ChangeShapes Go.WideShapes Go.ChangeAt Go.RowKit Av

theorem soloAgain_con {H : Type} {enc : TypeId × Value → H} (W : World) (base : Nat) (args : Array Value) (ds : List (DataW H)) (p : List MemPlace)
    (hval : ∀ (j : Nat) t v, Tryz.f6.params[j]? = some t → args[j]? = some v → Value.okWide Tryz.prog W .any base t v)
    (hA : DataW.TrodAll enc Tryz.prog W 0 (fun _ => true) true Tryz.f6.params.toList args.toList ds p)
    (hsh : W.ShapedOpen Tryz.prog) (hl : laidMet Tryz.prog Rows.soloAgainRow.laid W) : Calls Tryz.prog 6 args W fun e W' => e = .returned (.bool true) ∧ Ext W W' := by
  rw [Tryz.params6] at hA hval
  obtain ⟨v0, v1, v2, d0, d1, d2, p0, p1, p2, rfl, rfl, rfl, h0, h1, h2⟩ := trodAll_three hA
  obtain ⟨os, b1, _, _⟩ := arg_opsl (hval 0 _ v0 rfl rfl) h0
  obtain ⟨xs, a1⟩ := arg_actsG (hval 1 _ v1 rfl rfl) h1
  obtain ⟨n, rfl⟩ := okWide_int Tryz.underlying3 (hval 2 _ v2 rfl rfl)
  exact soloAgain_any v0 v1 n os xs W (gt_of hsh hl (by kernel_rfl)) b1 a1
end Go.Proofs.YtnlefnhdhigecaaGreatDoor
