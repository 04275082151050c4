/- Texts put together: AvSoM, AvLaw21D, AvLaw21X. -/
import Derived.Test.YtnlefnhdhigecaaGreatDoorAvG38
import Derived.Test.YtnlefnhdhigecaaGreatDoorAvG40

/- The solo as a law holds it: Ask of ops that came in; its tree as the reference's own. -/
namespace Go.Proofs.YtnlefnhdhigecaaGreatDoor
set_option maxRecDepth 100000
open Go.RowKit Av

variable {w0 w w' : World} {g K N : Nat} {B : SoB} {s : SoV}
theorem Oth.ref (h : Oth w0 w w') {base q : Nat} {rm : Int} {L : RL} (hr : RefT w base q rm L) : RefT w' base q rm L := by
  obtain ⟨S, ms, k, hs⟩ := h
  exact hr.kp k (hs.noT (by decide)) (hs.noT (by decide)) (hs.noT (by decide))
theorem ops_block {v : Value} {ops : List OpV} (h : OpsAt w v ops) (hn : 0 < ops.length) {i : Nat} (hi : v.ownBlock = some i) : i < w.heap.size := by
  obtain ⟨a, c, rfl, _, _, hop⟩ := OpsAt.open h
  obtain ⟨b, off, rfl, hb, _⟩ := hop hn
  have e : b = i := by simpa [Value.ownBlock] using hi
  omega
theorem opsS_of {ops : List OpV} (h : ops.length ≤ 20 ∧ ∀ k (hk : k < ops.length), ops[k].path.size ≤ 300 ∧ ops[k].data.size ≤ 1100) : OpsS ops := fun o ho => by
  obtain ⟨k, hk, rfl⟩ := List.getElem_of_mem ho
  have := h.2 k hk
  omega
theorem soS_askA (h : SoS w0 w g N s) (hN : N ≤ 3000) (hG : GT w0) {W : World} (hx : Ext w W) (v : Value) (ops : List OpV) (sess num : Int) (ho : OpsAt w0 v ops) (hsz : OpsS ops) :
    Calls Tryz.prog 34 #[.pointer (some ⟨g, 0, none⟩), .agg #[.int .i64 sess, .int .i64 num, v]] W fun e w' => ∃ u, e = .returned (.agg (rplA (askS s sess num ops).2 u)) ∧ RpAt w' 0 u (askS s sess num ops).2 ∧ SoS w0 w' g (N + 1) (askS s sess num ops).1 ∧ Oth w0 w w' := by
  have hoW := ho.ext (h.ex.trans hx)
  have hs0 := h.ex.size
  have hs1 := hx.size
  by_cases hm : mayR sess num ops = 0
  · have hn : 0 < ops.length := by
      rcases Nat.eq_zero_or_pos ops.length with h0 | h0
      · exfalso
        unfold mayR at hm
        rw [if_pos (.inr (.inr h0))] at hm
        exact absurd hm (by decide)
      · exact h0
    exact soS_ask h hN hG hx v ops sess num hoW hsz (fun i hi => by have := ops_block ho hn hi; omega)
  · obtain ⟨B, hr, hok⟩ := h
    refine (soAsk_bad (K := 20 * N) (hr.ext hx) hok hG v ops sess num hoW hsz hm).mono ?_
    rintro e w' ⟨u, rfl, h1, h2, h3⟩
    have hoth := h2.oth hr hx
    obtain ⟨B', h4, _, _⟩ := h2
    exact ⟨u, rfl, h1.less (Nat.zero_le _), ⟨B', h4.mono (by omega), h3⟩, hoth⟩
/-- As it stands in a region that draws its order: the blocks that are written are told. -/
theorem soR_askA (h : SoR w0 w g (20 * N) B s) (hok : SoOk N s) (hN : N ≤ 3000) (hG : GT w0) (v : Value) (ops : List OpV) (sess num : Int) (ho : OpsAt w0 v ops) (hsz : OpsS ops) :
    Calls Tryz.prog 34 #[.pointer (some ⟨g, 0, none⟩), .agg #[.int .i64 sess, .int .i64 num, v]] w fun e w' => ∃ u, e = .returned (.agg (rplA (askS s sess num ops).2 u)) ∧ RpAt w' 0 u (askS s sess num ops).2 ∧ SoS w0 w' g (N + 1) (askS s sess num ops).1 ∧ Kp (SoFr g B) w w' := by
  have hoW := ho.ext h.ex
  have hs0 := h.ex.size
  have key : Calls Tryz.prog 34 #[.pointer (some ⟨g, 0, none⟩), .agg #[.int .i64 sess, .int .i64 num, v]] w (AskPost w0 w g (20 * N) N B (askS s sess num ops)) := by
    by_cases hm : mayR sess num ops = 0
    · have hn : 0 < ops.length := by
        rcases Nat.eq_zero_or_pos ops.length with h0 | h0
        · exfalso
          unfold mayR at hm
          rw [if_pos (.inr (.inr h0))] at hm
          exact absurd hm (by decide)
        · exact h0
      refine soAsk_any h hok (by omega) (by omega) hG v ops sess num hoW hsz (fun i hi hs => ?_) (fun i hi => by have := ops_block ho hn hi; omega)
      have h1 := h.low i hs
      have h2 := ops_block ho hn hi
      omega
    · exact soAsk_bad h hok hG v ops sess num hoW hsz hm
  refine key.mono ?_
  rintro e w' ⟨u, rfl, h1, ⟨B', h4, h5, _⟩, h3⟩
  exact ⟨u, rfl, h1.less (Nat.zero_le _), ⟨B', h4.mono (by omega), h3⟩, h5⟩
theorem own21 {b m : Nat} {room : Int} {t : Tr} {L : RL} (h : TrA w0 w b m room K t L) (hr : room ≤ 100000) (hK : K ≤ 100000) (rm : Int) :
    Calls Tryz.prog 39 #[.pointer (some ⟨b, 0, none⟩), .int .i64 rm] w fun e w' => OwnPost w rm L e w' := by
  have := treeOwn21_any h.ts h.good.snd hr hK rm
  rw [← h.own] at this
  exact this
/-- The solo's tree, as the reference's own. -/
theorem ActsG.open {v : Value} {xs : List ActG} (h : ActsG w v xs) : ∃ a c, v = .slice a xs.length c ∧ xs.length ≤ maxLen ∧ (0 < xs.length → ∃ b off, a = some ⟨b, off, none⟩ ∧ b < w.heap.size ∧ ∀ k (hk : k < xs.length), w.cell? ⟨b, off + k * 6 + 3, none⟩ = some xs[k].ov ∧ OpsAt w xs[k].ov xs[k].ops) := by
  obtain ⟨hs, hok⟩ := h
  obtain ⟨a, c, rfl, _, hm, _, hop⟩ := Sl.open hs
  refine ⟨a, c, rfl, hm, fun hn => ?_⟩
  obtain ⟨b, off, rfl, hb, hc⟩ := hop hn
  refine ⟨b, off, rfl, hb, fun k hk => ⟨?_, (hok _ (List.getElem_mem hk)).ops⟩⟩
  have := hc (k * 6 + 3) _ (rows_cell ActG.cells 6 (fun _ => rfl) xs k hk 3 (by decide))
  rwa [← Nat.add_assoc] at this
end Go.Proofs.YtnlefnhdhigecaaGreatDoor

/- Walks of package aviarylaw21: SoloReads. -/
namespace Go.Proofs.YtnlefnhdhigecaaGreatDoor
set_option maxRecDepth 100000
open Go.RowKit Av

theorem rd_open : (openO (soZ 60) 10000).2 = (1, 0) := by decide
def RdRel (w : World) (g n : Nat) (s9 : Value) (wr : World) : Prop := ∃ (j : Nat) (s : SoV), j ≤ n ∧ s9 = .int .i64 j ∧ SoS w wr g (1 + j) s ∧ s.room = 60
def WrRel (w : World) (os : List OpV) (s12 s13 : Value) (wr : World) : Prop := ∃ k : Nat, k ≤ os.length ∧ s12 = .bool (wrB (os.take k)) ∧ s13 = .int .i64 k ∧ w = wr
theorem wrB_snoc (os : List OpV) (k : Nat) (hk : k < os.length) : wrB (os.take (k + 1)) = (wrB (os.take k) || decide (os[k].kind < 4)) := by
  rw [List.take_succ_eq_append_getElem hk]
  unfold wrB
  rw [List.any_append, List.any_cons, List.any_nil, Bool.or_false]
set_option maxHeartbeats 6400000 in
theorem soloReads_any (v0 v1 : Value) (xs : List ActG) (os : List OpV) (w : World) (hG : GT w) (h0 : ActsG w v0 xs) (h1 : OpsAt w v1 os) :
    Calls Tryz.prog 7 #[v0, v1] w fun e w' => e = .returned (.bool true) ∧ Ext w w' := by
  have HG := Lib.hid hG
  have HAW := Lib.hid (awake21_any w hG)
  have HO1 := Lib.hid h1
  obtain ⟨a, c, rfl, hm, hop⟩ := h0.open
  obtain ⟨a1, c1, rfl, _, hm1, hop1⟩ := OpsAt.open h1
  have HOP := Lib.hid hop
  have HOP1 := Lib.hid hop1
  unfold maxLen at hm hm1
  clear h0 h1 hop hop1 hG
  by_cases h20 : xs.length ≤ 20
  · have h20' : ¬ (20 : Int) < (xs.length : Int) := by omega
    go_enter Tryz.func7, Tryz.ntmps7
    go_wp2_with (fail)
    refine HAW.out.mono ?_
    rintro e w1 ⟨rfl, hx1⟩
    have HX1 := Lib.hid hx1
    have HG := Lib.hid (HG.out.ext hx1)
    have HOO := Lib.hid (HO1.out.ext hx1)
    clear hx1
    go_wp2_with (fail)
    refine (long21_any _ os w1 HOO.out).mono ?_
    rintro e w2 ⟨r, rfl, hr, rfl⟩
    have HR := Lib.hid hr
    clear hr
    cases r with
    | true =>
      go_wp2_with (fail)
      go_ret
      exact ⟨rfl, HX1.out⟩
    | false =>
      have HSZ := Lib.hid (opsS_of (HR.out rfl))
      have ho20 := (HR.out rfl).1
      clear HR
      go_wp2_with (fail)
      refine (soS_new 60 w1 (by decide) (by decide)).mono ?_
      rintro e w2 ⟨g, rfl, h3, hx2⟩
      have H1 := Lib.hid h3
      clear h3 hx2
      go_wp2_with (fail)
      refine (soS_open H1.out (by decide) 10000).mono ?_
      rintro e w3 ⟨rfl, h3, ho2⟩
      rw [rd_open]
      have H2 := Lib.hid h3
      clear h3 ho2 H1 HAW
      go_wp2_with (fail)
      go_loopw [9] (fun s9 wr => RdRel w1 g xs.length s9 wr) (fun s9 _ => xs.length - (intOf s9).toNat)
      case atStart => exact ⟨0, _, Nat.zero_le _, rfl, H2.out, rfl⟩
      case round =>
        clear H2
        obtain ⟨j, s, hj, rfl, hs, hroom⟩ := hrel
        have HS := Lib.hid hs
        have HROOM := Lib.hid hroom
        clear hs hroom
        by_cases hlt : j < xs.length
        · obtain ⟨b, off, rfl, _, hc⟩ := HOP.out (by omega)
          obtain ⟨c0, ho0⟩ := hc j hlt
          generalize xs[j] = x at c0 ho0
          have HOX := Lib.hid (ho0.ext HX1.out)
          obtain ⟨oa, oc, hov, _, hom, _⟩ := OpsAt.open ho0
          rw [hov] at c0 HOX
          have c3 := (HX1.out.trans HS.out.ex).cell c0 (fun f => f)
          unfold maxLen at hom
          have hW1 : wrap64 ((j : Int) + 1) = j + 1 := by unfold wrap64; omega
          clear hc c0 ho0 hov
          go_wp2_with (fail)
          refine (long21_any _ x.ops wr (HOX.out.ext HS.out.ex)).mono ?_
          rintro e w5 ⟨r, rfl, hr, rfl⟩
          have HR := Lib.hid hr
          clear hr
          cases r with
          | true =>
            go_wp2_with (fail)
            go_ret
            exact ⟨rfl, HX1.out.trans HS.out.ex⟩
          | false =>
            have HZX := Lib.hid (opsS_of (HR.out rfl))
            clear HR
            go_wp2_with (fail)
            refine (ask21_any 1 ((j : Int) + 1) _ _ _ _).mono ?_
            rintro e w5 ⟨rfl, hx3⟩
            have HASK := Lib.hid (soS_askA HS.out (by omega) HG.out hx3 (.slice oa (x.ops).length oc) x.ops 1 ((j : Int) + 1) HOX.out HZX.out)
            clear hx3
            go_wp2_with (fail)
            refine HASK.out.mono ?_
            rintro e w6 ⟨u, rfl, hu1, hs1, ho1⟩
            clear HASK
            have HS1 := Lib.hid hs1
            have HRM : Hid ((askS s 1 ((j : Int) + 1) x.ops).1.room = 60) := by show _ = _; rw [ask_room]; exact HROOM.out
            clear hs1 ho1 hu1
            go_wp2_with (fail)
            go_light
            refine ⟨⟨j + 1, _, ?_, ?_, HS1.out, HRM.out⟩, ?_⟩
            · omega
            · go_num
            · simp [intOf]; omega
        · go_wp2_with (fail)
          refine (soS_tree HS.out (by omega)).mono ?_
          rintro e w5 ⟨tb, tm, tc, rfl, ht, hxt⟩
          rw [HROOM.out] at ht
          have HOWN := Lib.hid (own21 ht (by decide) (by omega) 60)
          have HXT := Lib.hid hxt
          clear ht hxt
          go_wp2_with (fail)
          refine HOWN.out.mono ?_
          rintro e w6 ⟨g2, rfl, hr, hxo⟩
          have HRF := Lib.hid hr
          have HXO := Lib.hid (HXT.out.trans hxo)
          clear hr hxo HOWN HXT
          have HS6 := Lib.hid (HS.out.ext HXO.out)
          clear HXO
          go_wp2_with (fail)
          refine (ask21_any 1 99 _ _ _ _).mono ?_
          rintro e w7 ⟨rfl, hx3⟩
          have HASK := Lib.hid (soS_askA HS6.out (by omega) HG.out hx3 (.slice a1 (os).length c1) os 1 99 HOO.out HSZ.out)
          clear hx3
          go_wp2_with (fail)
          refine HASK.out.mono ?_
          rintro e w8 ⟨u, rfl, hu1, hs1, ho1⟩
          clear HASK
          have hrd := ask_reads s 1 99 os
          obtain ⟨X, hX⟩ : ∃ X, askS s 1 99 os = X := ⟨_, rfl⟩
          have hrm : X.1.room = 60 := by rw [← hX, ask_room]; exact HROOM.out
          rw [hX] at hrd hu1 hs1 ⊢
          have HRD := Lib.hid hrd
          have HRM := Lib.hid hrm
          clear hX hrd hrm
          have HOA := Lib.hid ho1
          obtain ⟨rsl, hrsl, hxe⟩ := hu1
          obtain ⟨ua, uc, rfl⟩ := hrsl.slice
          have HU0 : Hid (RpAt w8 0 (.slice ua rsl.length uc) X.2) := ⟨rsl, hrsl, hxe⟩
          clear hrsl hxe
          generalize rsl.length = un at *
          unfold rplA
          obtain ⟨w9, hWD⟩ : ∃ W, (w8).alloc (.cells #[.int .i64 (X.2).num, .int .i64 (X.2).zxid, .int .i64 (X.2).err, .int .i64 (X.2).at_, .slice ua un uc] rplT) = W := ⟨_, rfl⟩
          have hxD : Ext w8 w9 := by rw [← hWD]; exact (Kp.refl _ _).alloc _
          have BA : Hid (Blk w9 (w8).heap.size #[.int .i64 (X.2).num, .int .i64 (X.2).zxid, .int .i64 (X.2).err, .int .i64 (X.2).at_, .slice ua un uc] rplT) := by
            show Blk _ _ _ _
            rw [← hWD]; exact heap_alloc_new w8 _
          have HUA := Lib.hid (HU0.out.ext hxD)
          have HS9 := Lib.hid ((hs1).ext hxD)
          have HXD := Lib.hid hxD
          have HWD := Lib.hid hWD
          clear ho1 hs1 HU0 hxD hWD
          have HRF9 := Lib.hid ((HOA.out.ref HRF.out).ext HXD.out)
          go_upto_region 15 with (fail)
          rw [HWD.out]
          go_wp2_with (fail)
          go_loopw [12, 13] (fun s12 s13 wr => WrRel w9 os s12 s13 wr) (fun _ s13 _ => os.length - (intOf s13).toNat)
          case atStart => exact ⟨0, Nat.zero_le _, rfl, rfl, rfl⟩
          case round =>
            obtain ⟨k, hk, rfl, rfl, rfl⟩ := hrel
            by_cases hlt2 : k < os.length
            · obtain ⟨b1, off1, rfl, _, hc1⟩ := HOP1.out (by omega)
              obtain ⟨q0, _, _, _, _⟩ := hc1 k hlt2
              have hst := wrB_snoc os k hlt2
              have q1 := (HX1.out.trans HS9.out.ex).cell q0 (fun f => f)
              obtain ⟨bb, hbb⟩ : ∃ b, wrB (os.take k) = b := ⟨_, rfl⟩
              generalize os[k].kind = kd at *
              rw [hbb] at hst ⊢
              have HST := Lib.hid hst
              clear hc1 q0 hst hbb
              cases bb with
              | true =>
                go_wp2_with (fail)
                go_light
                refine ⟨⟨k + 1, ?_, ?_, ?_, rfl⟩, ?_⟩
                · omega
                · rw [HST.out]; rfl
                · go_num
                · simp [intOf]; omega
              | false =>
                by_cases hkd : kd < 4
                · go_wp2_with (fail)
                  go_light
                  refine ⟨⟨k + 1, ?_, ?_, ?_, rfl⟩, ?_⟩
                  · omega
                  · rw [HST.out]; simp [hkd]
                  · go_num
                  · simp [intOf]; omega
                · go_wp2_with (fail)
                  go_light
                  refine ⟨⟨k + 1, ?_, ?_, ?_, rfl⟩, ?_⟩
                  · omega
                  · rw [HST.out]; simp [hkd]
                  · go_num
                  · simp [intOf]; omega
            · rw [List.take_of_length_le (by omega)]
              have hrd := HRD.out
              obtain ⟨bb, hbb⟩ : ∃ b, wrB os = b := ⟨_, rfl⟩
              rw [hbb] at hrd ⊢
              have hba := BA.out
              have a0 := hba.cell 0 _ rfl
              have a1 := hba.cell 1 _ rfl
              have a2 := hba.cell 2 _ rfl
              have a3 := hba.cell 3 _ rfl
              have a4 := hba.cell 4 _ rfl
              clear hba hbb
              by_cases he : X.2.err = 0
              · have he1 : (X.2.err == 0) = true := by rw [he]; rfl
                cases bb with
                | true =>
                  clear hrd he
                  go_wp2_with (fail)
                  go_ret
                  exact ⟨rfl, HX1.out.trans HS9.out.ex⟩
                | false =>
                  have htr : X.1.tr = s.tr := by
                    rcases hrd with h | h
                    · exact h
                    · exact absurd h.2 (by decide)
                  have HTR := Lib.hid htr
                  clear hrd htr he
                  go_wp2_with (fail)
                  refine (soS_tree HS9.out (by omega)).mono ?_
                  rintro e w10 ⟨tb, tm, tc, rfl, ht, hxt⟩
                  rw [HRM.out] at ht
                  have HOWN := Lib.hid (own21 ht (by decide) (by omega) 60)
                  have HXT := Lib.hid hxt
                  clear ht hxt
                  go_wp2_with (fail)
                  refine HOWN.out.mono ?_
                  rintro e w11 ⟨g3, rfl, hr, hxo⟩
                  have HR3 := Lib.hid hr
                  have HXO := Lib.hid (HXT.out.trans hxo)
                  clear hr hxo HOWN HXT
                  rw [HTR.out] at HR3
                  have HSAME := Lib.hid (sameTree_any _ _ _ _ _ _ _ _ _ HR3.out (HRF9.out.ext HXO.out))
                  rw [show decide (s.tr = s.tr) = true from decide_eq_true rfl] at HSAME
                  go_wp2_with (fail)
                  refine HSAME.out.mono ?_
                  rintro e w20 ⟨rfl, hx20⟩
                  have HX20 := Lib.hid (HXO.out.trans hx20)
                  clear hx20 HSAME
                  go_wp2_with (fail)
                  go_ret
                  exact ⟨rfl, (HX1.out.trans HS9.out.ex).trans HX20.out⟩
              · have he1 : (X.2.err == 0) = false := beq_eq_false_iff_ne.2 he
                have htr : X.1.tr = s.tr := by
                  rcases hrd with h | h
                  · exact h
                  · exact absurd h.1 he
                have HTR := Lib.hid htr
                clear hrd htr he
                go_wp2_with (fail)
                refine (soS_tree HS9.out (by omega)).mono ?_
                rintro e w10 ⟨tb, tm, tc, rfl, ht, hxt⟩
                rw [HRM.out] at ht
                have HOWN := Lib.hid (own21 ht (by decide) (by omega) 60)
                have HXT := Lib.hid hxt
                clear ht hxt
                go_wp2_with (fail)
                refine HOWN.out.mono ?_
                rintro e w11 ⟨g3, rfl, hr, hxo⟩
                have HR3 := Lib.hid hr
                have HXO := Lib.hid (HXT.out.trans hxo)
                clear hr hxo HOWN HXT
                rw [HTR.out] at HR3
                have HSAME := Lib.hid (sameTree_any _ _ _ _ _ _ _ _ _ HR3.out (HRF9.out.ext HXO.out))
                rw [show decide (s.tr = s.tr) = true from decide_eq_true rfl] at HSAME
                go_wp2_with (fail)
                refine HSAME.out.mono ?_
                rintro e w20 ⟨rfl, hx20⟩
                have HX20 := Lib.hid (HXO.out.trans hx20)
                clear hx20 HSAME
                go_wp2_with (fail)
                go_ret
                exact ⟨rfl, (HX1.out.trans HS9.out.ex).trans HX20.out⟩
  · have h20' : (20 : Int) < (xs.length : Int) := by omega
    go_enter Tryz.func7, Tryz.ntmps7
    go_wp2_with (fail)
    refine HAW.out.mono ?_
    rintro e w1 ⟨rfl, hx1⟩
    have HX1 := Lib.hid hx1
    clear hx1
    go_wp2_with (fail)
    go_ret
    exact ⟨rfl, HX1.out⟩
end Go.Proofs.YtnlefnhdhigecaaGreatDoor

/- From the rows' arguments to the walks: SoloReads. -/
namespace Go.Proofs.YtnlefnhdhigecaaGreatDoor
set_option maxRecDepth 100000
open Go.ChangeShapes Go.WideShapes Go.ChangeAt Go.RowKit Av

theorem soloReads_con {H : Type} {enc : TypeId × Value → H} (W : World) (base : Nat) (args : Array Value) (ds : List (DataW H)) (p : List MemPlace)
    (hval : ∀ (j : Nat) t v, Tryz.f7.params[j]? = some t → args[j]? = some v → Value.okWide Tryz.prog W .any base t v)
    (hA : DataW.TrodAll enc Tryz.prog W 0 (fun _ => true) true Tryz.f7.params.toList args.toList ds p)
    (hsh : W.ShapedOpen Tryz.prog) (hl : laidMet Tryz.prog Rows.soloReadsRow.laid W) : Calls Tryz.prog 7 args W fun e W' => e = .returned (.bool true) ∧ Ext W W' := by
  rw [Tryz.params7] at hA hval
  obtain ⟨v0, v1, d0, d1, p0, p1, rfl, rfl, rfl, h0, h1⟩ := trodAll_two hA
  obtain ⟨xs, a1⟩ := arg_actsG (hval 0 _ v0 rfl rfl) h0
  obtain ⟨os, b1, _, _⟩ := arg_opsl (hval 1 _ v1 rfl rfl) h1
  exact soloReads_any v0 v1 xs os W (gt_of hsh hl (by kernel_rfl)) a1 b1
end Go.Proofs.YtnlefnhdhigecaaGreatDoor
