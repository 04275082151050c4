/- Walks of package plan: Results. -/
import Derived.Test.YtmgnndhhpnedkaaGreatDoorAvWPres
namespace Go.Proofs.YtmgnndhhpnedkaaGreatDoor
set_option maxRecDepth 100000
open Go.RowKit Av

/-- What Results answers. -/
def ResPost (w' : World) (N : Nat) (pl : List (List Nat)) (rs : List (List ResV)) (e : Ending) : Prop :=
  (fitsR pl rs ∧ ∃ v, e = .returned (.tuple #[v, .int .i64 0]) ∧ ResAt w' v (putTo N pl rs pl.length)) ∨ (¬ fitsR pl rs ∧ e = .returned (.tuple #[.slice none 0 0, .int .i64 1]))
abbrev lrT : TypeId := 53
def RsRel (wO : World) (o N : Nat) (pl : List (List Nat)) (rs : List (List ResV)) (i : Value) (W : World) : Prop :=
  ∃ k : Nat, k ≤ pl.length ∧ i = .int .i64 k ∧ (∀ j, j < k → (rs.getD j []).length = (pl.getD j []).length) ∧ RowB W o reT 11 N ((putTo N pl rs k).flatMap rsC) ∧ Kp (fun i => i = o) wO W
def RsIn (w1 : World) (o N : Nat) (out : List ResV) (l : List Nat) (r : List ResV) (i : Value) (W : World) : Prop :=
  ∃ k : Nat, k ≤ l.length ∧ i = .int .i64 k ∧ RowB W o reT 11 N ((putRow out l r k).flatMap rsC) ∧ Kp (fun i => i = o) w1 W
theorem row_cell {W : World} {o N : Nat} {out : List ResV} (h : RowB W o reT 11 N (out.flatMap rsC)) {a : Nat} (ha : a < out.length) (j : Nat) {x : Value} (hj : j < 11) (hx : (rsC out[a])[j]? = some x) : W.cell? ⟨o, a * 11 + j, none⟩ = some x :=
  h.cell (by rw [rowK_cell rsC 11 (fun _ => rfl) out a ha j hj]; exact hx)
theorem row_put {W : World} {o N : Nat} {out : List ResV} (h : RowB W o reT 11 N (out.flatMap rsC)) {a : Nat} (ha : a < out.length) (x : ResV) :
    RowB ((W.setCells o (a * 11) (rsC x)).setCell ⟨o, a * 11 + 3, none⟩ (.slice none 0 0)) o reT 11 N ((out.set a x).flatMap rsC) := by
  have h1 := RowB.setCells (rsC x) (a * 11) h
  rw [setMs_flat rsC 11 (fun _ => rfl) out a ha x] at h1
  have h2 := h1.set (a * 11 + 3) (.slice none 0 0)
  rwa [set_same (by rw [rowK_cell rsC 11 (fun _ => rfl) (out.set a x) a (by rw [List.length_set]; exact ha) 3 (by decide), List.getElem_set_self]; rfl)] at h2
set_option maxHeartbeats 3200000 in
theorem planResults_any (s n : Int) (ov sv plv lv : Value) (xs : List OpV) (ss : List Nat) (pl : List (List Nat)) (rs : List (List ResV)) (vs : List Value) (w : World) (h : PlanR w ov sv plv xs ss pl) (hl : ss.length = pl.length) (h1 : 1 ≤ xs.length) (h16 : xs.length ≤ 16) (hr : RowsS w lv vs rs) :
    Calls Tryz.prog 19 #[planV s n ov sv plv, lv] w fun e w' => ResPost w' xs.length pl rs e ∧ Ext w w' := by
  have HPL := Lib.hid (fun W (k : Ext w W) (i : Nat) => places0_any s n i ov sv plv xs ss pl w W h k)
  have HMK := Lib.hid (mk_res xs.length h1 h16)
  have HR := Lib.hid hr
  obtain ⟨⟨a1, c1, rfl⟩, ⟨a2, c2, rfl⟩, a3, c3, rfl⟩ := h.open
  obtain ⟨ra, rc, rfl, hrcc, hrm, hro⟩ := hr.open
  unfold maxLen at hrm
  clear h hr hrcc hro
  unfold planV at HPL ⊢
  rw [hl] at HPL ⊢
  obtain ⟨wB, hWB⟩ : ∃ wB, w.alloc (.cells #[.int .i64 s, .int .i64 n, .slice a1 xs.length c1, .slice a2 pl.length c2, .slice a3 pl.length c3] plT) = wB := ⟨_, rfl⟩
  have hxB : Ext w wB := by rw [← hWB]; exact (Kp.refl _ _).alloc _
  have hbB : Blk wB w.heap.size #[.int .i64 s, .int .i64 n, .slice a1 xs.length c1, .slice a2 pl.length c2, .slice a3 pl.length c3] plT := by rw [← hWB]; exact heap_alloc_new w _
  have q2 := hbB.cell 2 _ rfl
  have q3 := hbB.cell 3 _ rfl
  have HB := Lib.hid hbB
  have HXB := Lib.hid hxB
  have HWB := Lib.hid hWB
  clear hWB hxB hbB hl
  by_cases hlen : rs.length = pl.length
  · have e1 : (rs.length : Int) = (pl.length : Int) := by omega
    have HLEN := Lib.hid hlen
    have hmk := HMK.out
    obtain ⟨wO, hWO⟩ : ∃ wO, wB.alloc (.cells ((List.replicate xs.length resZ).flatMap rsC).toArray reT) = wO := ⟨_, rfl⟩
    have hxO : Ext wB wO := by rw [← hWO]; exact (Kp.refl _ _).alloc _
    have hrb : RowB wO wB.heap.size reT 11 xs.length ((List.replicate xs.length resZ).flatMap rsC) := by
      rw [← hWO]
      have hz : ((List.replicate xs.length resZ).flatMap rsC).length = xs.length * 11 := by rw [rowK_len rsC 11 (fun _ => rfl), List.length_replicate]
      exact ⟨_, heap_alloc_new wB _, by simpa using hz, List.take_of_length_le (Nat.le_refl _)⟩
    have hzB : w.heap.size < wB.heap.size := HB.out.lt
    have HBO := Lib.hid (HB.out.kp hxO (fun f => f))
    have HRB := Lib.hid hrb
    have HXO := Lib.hid (HXB.out.ext hxO)
    have HZB := Lib.hid hzB
    have HWO := Lib.hid hWO
    clear hxO hrb hzB hWO hlen HMK HB HXB
    go_enter Tryz.func19, Tryz.ntmps19
    go_upto_region 3 with (fail)
    rw [HWB.out]
    go_upto_region 4 with (fail)
    rw [HWO.out]
    go_wp2_with (fail)
    clear hmk q2 q3
    go_loopw [25] (fun i W => RsRel wO wB.heap.size xs.length pl rs i W) (fun i _ => pl.length - (intOf i).toNat)
    case atStart => exact ⟨0, Nat.zero_le _, rfl, fun j hj => absurd hj (Nat.not_lt_zero _), HRB.out, Kp.refl _ _⟩
    case round =>
      obtain ⟨k, hk, rfl, hfit, hrb, hkp⟩ := hrel
      have hxr : Ext w wr := HXO.out.next hkp (fun i hi e => by have := HZB.out; omega)
      have hbr := HBO.out.kp hkp (fun e => by have := HZB.out; omega)
      have HFIT := Lib.hid hfit
      have HRBR := Lib.hid hrb
      have HKP := Lib.hid hkp
      have HXR := Lib.hid hxr
      have HBR := Lib.hid hbr
      have hkl : k ≤ rs.length := by have := HLEN.out; omega
      clear hfit hrb hkp hxr hbr
      by_cases hlt : k < pl.length
      · have hltr : k < rs.length := by have := HLEN.out; omega
        have k1 : (k : Int) < rs.length := by omega
        obtain ⟨rra, rrc, er, _, _, hro⟩ := HR.out.open
        simp only [Value.slice.injEq, true_and] at er
        obtain ⟨rfl, rfl⟩ := er
        obtain ⟨rb, roff, rfl, hrblt, hrc⟩ := hro (by omega)
        obtain ⟨xa, xc, hcell0, hres⟩ := hrc k hltr
        have hcell := HXR.out.cell hcell0 (fun f => f)
        clear hcell0
        have q0 := HBR.out.cell 0 _ rfl
        have q1 := HBR.out.cell 1 _ rfl
        have q2 := HBR.out.cell 2 _ rfl
        have q3 := HBR.out.cell 3 _ rfl
        have q4 := HBR.out.cell 4 _ rfl
        have HP := Lib.hid (HPL.out wr HXR.out k)
        have hgk : plAt pl (k : Int) = pl[k] := by rw [plAt_nat]; simp [List.getD, List.getElem?_eq_getElem hlt]
        have hgp : pl.getD k [] = pl[k] := by simp [List.getD, List.getElem?_eq_getElem hlt]
        have hgr : rs.getD k [] = rs[k] := by simp [List.getD, List.getElem?_eq_getElem hltr]
        rw [hgk] at HP
        have HRES := Lib.hid hres
        have HGP := Lib.hid hgp
        have HGR := Lib.hid hgr
        have HNX : Hid (putTo xs.length pl rs (k + 1) = putRow (putTo xs.length pl rs k) pl[k] rs[k] pl[k].length) := putTo_in hlt hltr
        obtain ⟨r, hrk⟩ : ∃ r, rs[k] = r := ⟨_, rfl⟩
        obtain ⟨l, hlk⟩ : ∃ l, pl[k] = l := ⟨_, rfl⟩
        rw [hrk] at hcell HRES HGR HNX
        rw [hlk] at HP HGP HNX
        have hol := putTo_len xs.length pl rs k
        have HOL := Lib.hid hol
        generalize putTo xs.length pl rs k = out at HNX HRBR HOL
        clear hro hrc hres hgk hgp hgr hrk hlk hol
        go_wp2_with (fail)
        refine HP.out.mono ?_
        rintro e w1 ⟨v, rfl, hn, hx1⟩
        obtain ⟨la, lc, rfl, hlcc, hlm, hlo⟩ := hn.open
        have HX1 := Lib.hid hx1
        have HLO := Lib.hid hlo
        have HN := Lib.hid hn
        unfold maxLen at hlm
        clear hx1 hlo hn HP hcell q0 q1 q2 q3 q4 hlcc
        by_cases hrl : r.length = l.length
        · have e2 : (r.length : Int) = (l.length : Int) := by omega
          have HRL := Lib.hid hrl
          go_wp2_with (fail)
          clear e2 hrl
          obtain ⟨wo, HWo⟩ : ∃ wo : World, wo = wr := ⟨_, rfl⟩
          rw [← HWo] at HX1 HKP HXR HBR HRBR
          clear HWo
          go_loopw [40] (fun i W => RsIn w1 wB.heap.size xs.length out l r i W) (fun i _ => l.length - (intOf i).toNat)
          case atStart => exact ⟨0, Nat.zero_le _, rfl, HRBR.out.kp HX1.out (fun f => f), Kp.refl _ _⟩
          case round =>
            obtain ⟨j, hj, rfl, hrb, hkp⟩ := hrel
            have hxi : Ext w wr := (HXR.out.ext HX1.out).next hkp (fun i hi e => by have := HZB.out; omega)
            have HRBI := Lib.hid hrb
            have HKPI := Lib.hid hkp
            have HXI := Lib.hid hxi
            clear hrb hkp hxi
            by_cases hjl : j < l.length
            · have hjr : j < r.length := by have := HRL.out; omega
              have k2 : (j : Int) < l.length := by omega
              have k3 : (j : Int) < r.length := by omega
              obtain ⟨lb, loff, rfl, _, hlcell⟩ := HLO.out (by omega)
              have hnc := HXI.out.cell (hlcell j hjl) (fun f => f)
              obtain ⟨xa', xc', ex, _, _, hxo⟩ := HRES.out.open
              simp only [Value.slice.injEq, true_and] at ex
              obtain ⟨rfl, rfl⟩ := ex
              obtain ⟨xb, xoff, rfl, hxb, hxc⟩ := hxo (by omega)
              have HNI : Hid (putRow out l r (j + 1) = (putRow out l r j).set l[j] r[j]) := putRow_in hjl hjr
              have hpl := putRow_len out l r j
              rw [HOL.out] at hpl
              have HXC := Lib.hid (fun W (hx : Ext w W) i x (h11 : i < 11) (hx' : (rsC r[j])[i]? = some x) => hx.cell (hxc j hjr i x h11 hx') (fun f => f))
              have hng : (0 : Int) ≤ (l[j] : Int) := by omega
              generalize l[j] = nv at hnc HNI hng
              generalize r[j] = rj at HNI HXC
              generalize putRow out l r j = oj at HNI HRBI hpl
              clear hlcell hxo hxc
              by_cases hin : nv < xs.length
              · have k4 : (nv : Int) < xs.length := by omega
                have hnl : nv < oj.length := by omega
                have x0 := HXC.out wr HXI.out 0 _ (by decide) rfl
                have x1 := HXC.out wr HXI.out 1 _ (by decide) rfl
                have x2 := HXC.out wr HXI.out 2 _ (by decide) rfl
                have x3 := HXC.out wr HXI.out 3 _ (by decide) rfl
                have x4 := HXC.out wr HXI.out 4 _ (by decide) rfl
                have x5 := HXC.out wr HXI.out 5 _ (by decide) rfl
                have x6 := HXC.out wr HXI.out 6 _ (by decide) rfl
                have x7 := HXC.out wr HXI.out 7 _ (by decide) rfl
                have x8 := HXC.out wr HXI.out 8 _ (by decide) rfl
                have x9 := HXC.out wr HXI.out 9 _ (by decide) rfl
                have x10 := HXC.out wr HXI.out 10 _ (by decide) rfl
                have y0 := row_cell HRBI.out hnl 0 (by decide) rfl
                have y1 := row_cell HRBI.out hnl 1 (by decide) rfl
                have y2 := row_cell HRBI.out hnl 2 (by decide) rfl
                have y3 := row_cell HRBI.out hnl 3 (by decide) rfl
                have y4 := row_cell HRBI.out hnl 4 (by decide) rfl
                have y5 := row_cell HRBI.out hnl 5 (by decide) rfl
                have y6 := row_cell HRBI.out hnl 6 (by decide) rfl
                have y7 := row_cell HRBI.out hnl 7 (by decide) rfl
                have y8 := row_cell HRBI.out hnl 8 (by decide) rfl
                have y9 := row_cell HRBI.out hnl 9 (by decide) rfl
                have y10 := row_cell HRBI.out hnl 10 (by decide) rfl
                have f0 := HRBI.out.free (nv * 11 + 0)
                have f1 := HRBI.out.free (nv * 11 + 1)
                have f2 := HRBI.out.free (nv * 11 + 2)
                have f3 := HRBI.out.free (nv * 11 + 3)
                have f4 := HRBI.out.free (nv * 11 + 4)
                have f5 := HRBI.out.free (nv * 11 + 5)
                have f6 := HRBI.out.free (nv * 11 + 6)
                have f7 := HRBI.out.free (nv * 11 + 7)
                have f8 := HRBI.out.free (nv * 11 + 8)
                have f9 := HRBI.out.free (nv * 11 + 9)
                have f10 := HRBI.out.free (nv * 11 + 10)
                simp only [Nat.add_zero] at x0 y0 f0
                go_upto_region 15 with (fail)
                obtain ⟨W2, hW2⟩ : ∃ W2, wr.setCells wB.heap.size (nv * 11) (rsC rj) = W2 := ⟨_, rfl⟩
                have hW3 : (((((((((((wr.setCell ⟨wB.heap.size, nv * 11, none⟩ (.int .i64 rj.err)).setCell ⟨wB.heap.size, nv * 11 + 1, none⟩ (.string rj.path)).setCell ⟨wB.heap.size, nv * 11 + 2, none⟩ (.string rj.data)).setCell ⟨wB.heap.size, nv * 11 + 3, none⟩ (.slice none 0 0)).setCell ⟨wB.heap.size, nv * 11 + 4, none⟩ (.int .i64 rj.s0)).setCell ⟨wB.heap.size, nv * 11 + 5, none⟩ (.int .i64 rj.s1)).setCell ⟨wB.heap.size, nv * 11 + 6, none⟩ (.int .i64 rj.s2)).setCell ⟨wB.heap.size, nv * 11 + 7, none⟩ (.int .i64 rj.s3)).setCell ⟨wB.heap.size, nv * 11 + 8, none⟩ (.int .i64 rj.s4)).setCell ⟨wB.heap.size, nv * 11 + 9, none⟩ (.int .i64 rj.s5)).setCell ⟨wB.heap.size, nv * 11 + 10, none⟩ (.int .i64 rj.s6)) = W2 := hW2
                rw [hW3]
                have hk2 : Kp (fun i => i = wB.heap.size) wr W2 := by rw [← hW2]; exact kp_setCells _ _ _
                have hx2 : Ext w W2 := HXI.out.next hk2 (fun i hi e => by have := HZB.out; omega)
                have hrb2 : RowB W2 wB.heap.size reT 11 xs.length ((oj.set nv rj).flatMap rsC) := by
                  have := RowB.setCells (rsC rj) (nv * 11) HRBI.out
                  rw [hW2, setMs_flat rsC 11 (fun _ => rfl) oj nv hnl rj] at this
                  exact this
                clear x0 x1 x2 x3 x4 x5 x6 x7 x8 x9 x10 y0 y1 y2 y3 y4 y5 y6 y7 y8 y9 y10 f0 f1 f2 f3 f4 f5 f6 f7 f8 f9 f10
                have x3 := HXC.out W2 hx2 3 _ (by decide) rfl
                have y3 := hrb2.cell (i := nv * 11 + 3) (by rw [rowK_cell rsC 11 (fun _ => rfl) (oj.set nv rj) nv (by rw [List.length_set]; exact hnl) 3 (by decide), List.getElem_set_self]; rfl)
                have f3 := hrb2.free (nv * 11 + 3)
                have hrp := row_put HRBI.out hnl rj
                rw [hW2] at hrp
                have HRP := Lib.hid hrp
                have HK2 := Lib.hid (HKPI.out.trans hk2)
                clear hW2 hW3 hk2 hx2 hrb2 hrp
                go_wp2_with (fail)
                refine (cloneNil_any W2).mono ?_
                rintro e w9 ⟨rfl, rfl⟩
                go_wp2_with (fail)
                go_light
                exact ⟨⟨j + 1, by omega, by go_num, by rw [HNI.out]; exact HRP.out, HK2.out.set1 _ _ _ rfl⟩, by simp [intOf]; omega⟩
              · have k4 : ¬ (nv : Int) < xs.length := by omega
                have hset : oj.set nv rj = oj := List.set_eq_of_length_le (by omega)
                rw [hset] at HNI
                clear hset
                go_wp2_with (fail)
                go_light
                exact ⟨⟨j + 1, by omega, by go_num, by rw [HNI.out]; exact HRBI.out, HKPI.out⟩, by simp [intOf]; omega⟩
            · have hje : j = l.length := by omega
              have k2 : ¬ (j : Int) < l.length := by omega
              have HR2 : Hid (RowB wr wB.heap.size reT 11 xs.length ((putTo xs.length pl rs (k + 1)).flatMap rsC)) := by
                have := HRBI.out
                rw [hje] at this
                show RowB _ _ _ _ _ _
                rw [HNX.out]
                exact this
              have HK2 := Lib.hid ((HKP.out.ext HX1.out).trans HKPI.out)
              have HF2 : Hid (∀ i, i < k + 1 → (rs.getD i []).length = (pl.getD i []).length) := by
                intro i hi
                by_cases h : i < k
                · exact HFIT.out i h
                · obtain rfl : i = k := by omega
                  rw [HGP.out, HGR.out]
                  exact HRL.out
              clear hje hjl HNX
              go_wp2_with (fail)
              go_light
              exact ⟨⟨k + 1, by omega, by go_num, HF2.out, HR2.out, HK2.out⟩, by simp [intOf]; omega⟩
        · have e2 : ¬ (r.length : Int) = (l.length : Int) := by omega
          have HNF : Hid (¬ fitsR pl rs) := fun h => by
            have := h.2 k hlt
            rw [HGP.out, HGR.out] at this
            exact hrl this
          clear hrl
          go_wp2_with (fail)
          go_ret2
          go_light
          exact ⟨.inr ⟨HNF.out, rfl⟩, HXR.out.ext HX1.out⟩
      · have hke : k = pl.length := by omega
        have k1 : ¬ (k : Int) < rs.length := by have := HLEN.out; omega
        have HF : Hid (fitsR pl rs ∧ ResAt wr (.slice (some ⟨wB.heap.size, 0, none⟩) xs.length xs.length) (putTo xs.length pl rs pl.length)) := by
          refine ⟨⟨HLEN.out, by rw [← hke]; exact HFIT.out⟩, ?_⟩
          have hr := HRBR.out
          rw [hke] at hr
          have hn := putTo_len xs.length pl rs pl.length
          have hz : ((putTo xs.length pl rs pl.length).flatMap rsC).length = xs.length * 11 := by rw [rowK_len rsC 11 (fun _ => rfl), hn]
          have ho := hr.owns (m := xs.length) (by omega) (Nat.le_refl _) (by unfold maxLen; omega) (Nat.le_refl _)
          rw [List.take_of_length_le (by omega)] at ho
          exact ⟨by rw [hn]; exact Sl.of_owns ho, shp_owns ho⟩
        clear hke hlt HRBR HFIT
        go_wp2_with (fail)
        go_ret2
        go_light
        exact ⟨.inl ⟨HF.out.1, _, rfl, HF.out.2⟩, HXR.out⟩
  · have hne : ¬ (rs.length : Int) = (pl.length : Int) := by omega
    have HNF : Hid (¬ fitsR pl rs) := fun h => hlen h.1
    clear hlen
    go_enter Tryz.func19, Tryz.ntmps19
    go_wp2_with (fail)
    go_ret2
    go_light
    exact ⟨.inr ⟨HNF.out, rfl⟩, (Kp.refl _ _).alloc _⟩
end Go.Proofs.YtmgnndhhpnedkaaGreatDoor
