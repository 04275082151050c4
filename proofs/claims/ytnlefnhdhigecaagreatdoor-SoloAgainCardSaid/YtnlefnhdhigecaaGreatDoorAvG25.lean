/- Texts put together: AvWReq, AvMulC, AvWEqS. -/
import Derived.Test.YtnlefnhdhigecaaGreatDoorAvG18
import Derived.Test.YtnlefnhdhigecaaGreatDoorAvG15
import Derived.Test.YtnlefnhdhigecaaGreatDoorAvHMulB
import Derived.Test.YtnlefnhdhigecaaGreatDoorAvG20
import Derived.Test.YtnlefnhdhigecaaGreatDoorAvG3
import Derived.Test.YtnlefnhdhigecaaGreatDoorShelfE
import Derived.Shelf.Slices.Equal
import Derived.Shelf.Slices.Empties2

/- Walks of package op over requests: May, Writes, and slices.ContainsFunc over ops. -/
namespace Go.Proofs.YtnlefnhdhigecaaGreatDoor
set_option maxRecDepth 100000
open Go.RowKit Av

set_option maxHeartbeats 400000 in
theorem mayF_any (o : OpV) (w : World) : Calls Tryz.prog 128 #[o.val] w fun e w' => e = .returned (.bool (readsB o.kind)) ∧ Ext w w' := by
  obtain ⟨k, p, d, v, f⟩ := o
  unfold OpV.val
  have H := Lib.hid (reads_any k)
  simp only
  go_enter Tryz.func128, Tryz.ntmps128
  go_wp2_with (fail)
  refine (H.out _).mono ?_
  rintro e w1 ⟨rfl, rfl⟩
  go_wp2_with (fail)
  go_ret
  go_light
  exact ⟨rfl, (Kp.refl _ _).alloc _⟩
/-- The loop of a search: none of the first k is it. -/
def IdxRel (w : World) (p : OpV → Bool) (xs : List OpV) (i : Value) (wr : World) : Prop :=
  ∃ k : Nat, k ≤ xs.length ∧ i = .int .i64 k ∧ (∀ x ∈ xs.take k, p x = false) ∧ Ext w wr

set_option maxHeartbeats 800000 in
theorem readsIdx_any (v : Value) (xs : List OpV) (w : World) (h : OpsAt w v xs) :
    Calls Tryz.prog 167 #[v, .func (.func 128) #[] #[]] w fun e w' => e = .returned (.int .i64 (idxI (fun o => readsB o.kind) xs)) ∧ Ext w w' := by
  obtain ⟨a, c, rfl, hcc, hm, hop⟩ := OpsAt.open h
  have HO := Lib.hid hop
  unfold maxLen at hm
  clear h hop
  go_enter Tryz.func167, Tryz.ntmps167
  go_wp2_with (fail)
  go_loopw [8] (IdxRel w (fun o => readsB o.kind) xs) (fun i _ => xs.length - (intOf i).toNat)
  case atStart => exact ⟨0, Nat.zero_le _, rfl, by simp, Kp.refl _ _⟩
  case round =>
    obtain ⟨k, hk, rfl, hnone, hx⟩ := hrel
    have HN := Lib.hid hnone
    clear hnone
    by_cases hlt : k < xs.length
    · obtain ⟨b, off, rfl, _, hc⟩ := HO.out (by omega)
      obtain ⟨c0, c1, c2, c3, c4⟩ := hc k hlt
      have d0 := hx.cell c0 (fun f => f)
      have d1 := hx.cell c1 (fun f => f)
      have d2 := hx.cell c2 (fun f => f)
      have d3 := hx.cell c3 (fun f => f)
      have d4 := hx.cell c4 (fun f => f)
      have k1 : (k : Int) < xs.length := by omega
      have HC := Lib.hid (mayF_any xs[k])
      unfold OpV.val at HC
      clear hc c0 c1 c2 c3 c4
      go_wp2_with (fail)
      refine (HC.out _).mono ?_
      rintro e w1 ⟨rfl, hx1⟩
      cases hb : (fun o => readsB o.kind) xs[k] with
      | false =>
        have HB := Lib.hid hb
        have hb' : readsB xs[k].kind = false := hb
        clear hb
        rw [hb']
        clear hb'
        go_wp2_with (fail)
        go_light
        exact ⟨⟨k + 1, by omega, by go_num, take_allP hlt HN.out HB.out, hx.ext hx1⟩, by simp [intOf]; omega⟩
      | true =>
        have HB := Lib.hid hb
        have hb' : readsB xs[k].kind = true := hb
        clear hb
        rw [hb']
        clear hb'
        go_wp2_with (fail)
        go_ret
        go_light
        exact ⟨ret_val (by rw [idxI_at hlt HN.out HB.out]; rfl), hx.ext hx1⟩
    · have hall : ∀ x ∈ xs, (fun o => readsB o.kind) x = false := by
        have := HN.out
        rwa [List.take_of_length_le (by omega)] at this
      have HI := Lib.hid (idxI_none hall)
      clear hall HN
      go_wp2_with (fail)
      go_ret
      go_light
      exact ⟨ret_val (by rw [HI.out]; rfl), hx⟩

set_option maxHeartbeats 400000 in
theorem readsAny_any (v : Value) (xs : List OpV) (w : World) (h : OpsAt w v xs) :
    Calls Tryz.prog 127 #[v, .func (.func 128) #[] #[]] w fun e w' => e = .returned (.bool (xs.any (fun o => readsB o.kind))) ∧ Ext w w' := by
  have HC := Lib.hid (readsIdx_any v xs w h)
  have HI := Lib.hid (idxI_any (fun o => readsB o.kind) xs)
  obtain ⟨z, hz⟩ : ∃ z, idxI (fun o => readsB o.kind) xs = z := ⟨_, rfl⟩
  rw [hz] at HC HI
  clear hz
  go_enter Tryz.func127, Tryz.ntmps127
  go_wp2_with (fail)
  refine (HC.out).mono ?_
  rintro e w1 ⟨rfl, hx1⟩
  go_wp2_with (fail)
  go_ret
  go_light
  exact ⟨ret_bool HI.out, hx1⟩

/-- The loop of May: the first k are good. -/
def MayRel (w : World) (xs : List OpV) (i : Value) (wr : World) : Prop :=
  ∃ k : Nat, k ≤ xs.length ∧ i = .int .i64 k ∧ (∀ x ∈ xs.take k, goodO x = 0) ∧ Ext w wr
/-- The cells of a boxed request stay. -/
theorem req_cells {w W : World} {s n : Int} {v : Value} {T : TypeId} (h : Ext (w.alloc (.cells #[.int .i64 s, .int .i64 n, v] T)) W) :
    W.cell? ⟨w.heap.size, 0, none⟩ = some (.int .i64 s) ∧ W.cell? ⟨w.heap.size, 1, none⟩ = some (.int .i64 n) ∧ W.cell? ⟨w.heap.size, 2, none⟩ = some v := by
  refine ⟨?_, ?_, ?_⟩ <;> exact h.cell (by simp) (fun f => f)

set_option maxHeartbeats 1600000 in
theorem may_any (s n : Int) (v : Value) (xs : List OpV) (w : World) (hG : GT w) (h : OpsAt w v xs) (hsz : OpsSz xs) :
    Calls Tryz.prog 79 #[.agg #[.int .i64 s, .int .i64 n, v]] w fun e w' => e = .returned (.int .i64 (mayR s n xs)) ∧ Ext w w' := by
  have HAny := Lib.hid (fun W (k : Ext w W) => readsAny_any v xs W (h.ext k))
  have HS := Lib.hid hsz
  obtain ⟨a, c, rfl, hcc, hm, hop⟩ := OpsAt.open h
  have HO := Lib.hid hop
  unfold maxLen at hm
  clear h hop hsz
  have hE : Ext w (w.alloc (.cells #[.int .i64 s, .int .i64 n, .slice a xs.length c] 71)) := (Kp.refl _ _).alloc _
  have HE := Lib.hid hE
  clear hE
  by_cases c1 : s < 1
  · go_enter Tryz.func79, Tryz.ntmps79
    go_wp2_with (fail)
    go_ret
    go_light
    exact ⟨ret_val (by rw [mayR_few (.inl c1)]; rfl), HE.out⟩
  · by_cases c2 : n < 1
    · go_enter Tryz.func79, Tryz.ntmps79
      go_wp2_with (fail)
      go_ret
      go_light
      exact ⟨ret_val (by rw [mayR_few (.inr (.inl c2))]; rfl), HE.out⟩
    · by_cases c3 : xs.length = 0
      · have c3' : (xs.length : Int) = 0 := by omega
        have HM := Lib.hid (mayR_few (sess := s) (num := n) (xs := xs) (.inr (.inr c3)))
        have c4 : ((xs.length : Int) == 0) = true := by rw [beq_iff_eq]; exact c3'
        clear c3 c3'
        go_enter Tryz.func79, Tryz.ntmps79
        go_wp2_with (fail)
        go_ret
        go_light
        exact ⟨ret_val (by rw [HM.out]; rfl), HE.out⟩
      · have c3' : ((xs.length : Int) == 0) = false := by rw [beq_eq_false_iff_ne]; omega
        have HF : Hid (¬ (s < 1 ∨ n < 1 ∨ xs.length = 0)) := by
          show ¬ _
          omega
        clear c3
        by_cases c4 : xs.length ≤ 16
        · go_enter Tryz.func79, Tryz.ntmps79
          go_wp2_with (fail)
          go_loopw [29] (MayRel (w.alloc (.cells #[.int .i64 s, .int .i64 n, .slice a xs.length c] 71)) xs) (fun i _ => xs.length - (intOf i).toNat)
          case atStart => exact ⟨0, Nat.zero_le _, rfl, by simp, Kp.refl _ _⟩
          case round =>
            obtain ⟨k, hk, rfl, hgood, hx⟩ := hrel
            have HGD := Lib.hid hgood
            have hxw := HE.out.ext hx
            have HXW := Lib.hid hxw
            clear hgood hxw
            by_cases hlt : k < xs.length
            · obtain ⟨b, off, rfl, _, hc⟩ := HO.out (by omega)
              obtain ⟨q0, q1, q2, q3, q4⟩ := hc k hlt
              have d0 := HXW.out.cell q0 (fun f => f)
              have d1 := HXW.out.cell q1 (fun f => f)
              have d2 := HXW.out.cell q2 (fun f => f)
              have d3 := HXW.out.cell q3 (fun f => f)
              have d4 := HXW.out.cell q4 (fun f => f)
              have k1 : (k : Int) < xs.length := by omega
              have hsk := HS.out _ (List.getElem_mem hlt)
              have HC := Lib.hid (fun W (k' : Ext w W) => opGood_any xs[k] W (hG.ext k') hsk.1 hsk.2)
              unfold OpV.val at HC
              clear hc q0 q1 q2 q3 q4 hsk
              go_wp2_with (fail)
              refine (HC.out _ (HXW.out.alloc _)).mono ?_
              rintro e w1 ⟨rfl, hx1⟩
              by_cases hz : goodO xs[k] = 0
              · have HZ := Lib.hid hz
                rw [hz]
                clear hz
                go_wp2_with (fail)
                go_light
                exact ⟨⟨k + 1, by omega, by go_num, take_allP hlt HGD.out HZ.out, (hx.alloc _).ext hx1⟩, by simp [intOf]; omega⟩
              · have HM := Lib.hid (mayR_bad HF.out (by omega) hlt HGD.out hz)
                obtain ⟨g, hg⟩ : ∃ g, goodO xs[k] = g := ⟨_, rfl⟩
                rw [hg] at hz HM ⊢
                have hz' : (g == 0) = false := by rw [beq_eq_false_iff_ne]; exact hz
                clear hg hz
                go_wp2_with (fail)
                go_ret
                go_light
                exact ⟨ret_val (by rw [HM.out]; rfl), (HXW.out.alloc _).ext hx1⟩
            · have hall : ∀ x ∈ xs, goodO x = 0 := by
                have := HGD.out
                rwa [List.take_of_length_le (by omega)] at this
              have HM := Lib.hid (mayR_all HF.out (by omega) hall)
              obtain ⟨r0, r1, r2⟩ := req_cells hx
              clear hall HGD
              by_cases c5 : 1 < xs.length
              · go_wp2_with (fail)
                refine (HAny.out _ HXW.out).mono ?_
                rintro e w1 ⟨rfl, hx1⟩
                cases hb : xs.any (fun o => readsB o.kind) with
                | false =>
                  rw [hb] at HM
                  clear hb
                  go_wp2_with (fail)
                  go_ret
                  go_light
                  exact ⟨ret_val (by rw [HM.out]; simp), HXW.out.ext hx1⟩
                | true =>
                  rw [hb] at HM
                  clear hb
                  go_wp2_with (fail)
                  go_ret
                  go_light
                  exact ⟨ret_val (by rw [HM.out]; simp [c5]), HXW.out.ext hx1⟩
              · have HC5 := Lib.hid c5
                go_wp2_with (fail)
                go_ret
                go_light
                exact ⟨ret_val (by rw [HM.out, if_neg (fun h => HC5.out h.1)]; rfl), HXW.out⟩
        · have HM := Lib.hid (mayR_many HF.out (by omega))
          go_enter Tryz.func79, Tryz.ntmps79
          go_wp2_with (fail)
          go_ret
          go_light
          exact ⟨ret_val (by rw [HM.out]; rfl), HE.out⟩

end Go.Proofs.YtnlefnhdhigecaaGreatDoor

/- Walks: multi.Request; solo.copied. -/
namespace Go.Proofs.YtnlefnhdhigecaaGreatDoor
set_option maxRecDepth 100000
open Go.RowKit Av

def ReqPost (w0 w : World) (b m : Nat) (room : Int) (K : Nat) (t : Tr) (X : RL × RpV) (e : Ending) (w' : World) : Prop :=
  (∀ x ∈ X.2.res, RpB 100000 x) ∧ ∃ u m' t', e = .returned (.agg (rplA X.2 u)) ∧ RpAt w' w.heap.size u X.2 ∧ TrA w0 w' b m' room (K + 16) t' X.1 ∧ Kp (fun i => i = b) w w' ∧ (m' = m ∨ w.heap.size ≤ m') ∧ ∀ i, TOwn b m' t' i → TOwn b m t i ∨ w.heap.size ≤ i
theorem OpsS.sz {ops : List OpV} (h : OpsS ops) : OpsSz ops := fun o ho => by
  have := h o ho
  unfold maxLen
  omega
set_option maxHeartbeats 3200000 in
theorem request_any {w0 w : World} {b m : Nat} {room : Int} {K : Nat} {t : Tr} {L : RL} (h : TrA w0 w b m room K t L) (hG : GT w0) (hK : K ≤ 90000) (v : Value) (ops : List OpV) (sess num z : Int) (ho : OpsAt w v ops) (hsz : OpsS ops) :
    Calls Tryz.prog 83 #[.pointer (some ⟨b, 0, none⟩), .agg #[.int .i64 sess, .int .i64 num, v], .int .i64 z] w (ReqPost w0 w b m room K t (requestL room L sess num z ops)) := by
  obtain ⟨wB, hWB⟩ : ∃ wB, (w.alloc (.cells #[.int .i64 sess, .int .i64 num, v] 71)).alloc (.cells rpZ rplT) = wB := ⟨_, rfl⟩
  have hxB : Ext w wB := by rw [← hWB]; exact ((Kp.refl _ _).alloc _).alloc _
  have hA : Blk wB w.heap.size #[.int .i64 sess, .int .i64 num, v] 71 := by
    rw [← hWB]
    exact Blk.kp (heap_alloc_new w _) ((Kp.refl (fun _ => False) _).alloc _) (fun f => f)
  have hB : Blk wB (w.heap.size + 1) rpZ rplT := by
    rw [← hWB]
    have := heap_alloc_new (w.alloc (.cells #[.int .i64 sess, .int .i64 num, v] 71)) (.cells rpZ rplT)
    rw [World.size_alloc] at this
    exact this
  have HMAY := Lib.hid (may_any sess num v ops wB ((hG.ext h.ts.ex).ext hxB) (ho.ext hxB) hsz.sz)
  have HDO := Lib.hid (fun W (hW : Ext wB W) => multiDo_any (h.ext (hxB.trans hW)) hG hK v ops sess z (ho.ext (hxB.trans hW)) hsz)
  have HA := Lib.hid hA
  have HB := Lib.hid hB
  have HXB := Lib.hid hxB
  have HWB := Lib.hid hWB
  have HH := Lib.hid h
  obtain ⟨va, vc, rfl, _, _, _⟩ := OpsAt.open ho
  have a0 := hA.cell 0 _ rfl
  have a1 := hA.cell 1 _ rfl
  have a2 := hA.cell 2 _ rfl
  obtain ⟨z0, hz0⟩ : ∃ z0, mayR sess num ops = z0 := ⟨_, rfl⟩
  rw [hz0] at HMAY
  by_cases hz : z0 = 0
  · have HE : Hid (requestL room L sess num z ops = ((multiL room L sess z ops).1, { (multiL room L sess z ops).2.1 with num := num, zxid := z })) := by show _ = _; unfold requestL; rw [if_neg (by rw [hz0, hz]; simp)]
    subst hz
    generalize hX : multiL room L sess z ops = X at HDO HE
    clear h ho hWB hxB hA hB hz0 hX
    go_enter Tryz.func83, Tryz.ntmps83
    go_upto_region 1 with (fail)
    rw [HWB.out]
    go_wp2_with (fail)
    refine HMAY.out.mono ?_
    rintro e w1 ⟨rfl, hx1⟩
    have hA1 := HA.out.kp hx1 (fun f => f)
    have HX1 := Lib.hid hx1
    clear hx1 a0 a1 a2
    have a0 := hA1.cell 0 _ rfl
    have a1 := hA1.cell 1 _ rfl
    have a2 := hA1.cell 2 _ rfl
    have HA1 := Lib.hid hA1
    clear hA1
    go_wp2_with (fail)
    refine (HDO.out w1 HX1.out).mono ?_
    rintro e w2 ⟨hbd, u, m', t', rfl, hu, ht, hk, hmm, hown⟩
    have HBD := Lib.hid hbd
    clear hbd
    obtain ⟨XL, ⟨xn, xz, xe, xa, xr⟩, xb⟩ := X
    simp only at hu ht HE ⊢
    have hA2 := HA1.out.kp hk (by have := HH.out.ts.tr.blk.lt; omega)
    have hB2 := (HB.out.kp HX1.out (fun f => f)).kp hk (by have := HH.out.ts.tr.blk.lt; omega)
    obtain ⟨us, hus, hue⟩ := hu
    obtain ⟨ua, uc, rfl⟩ := hus.slice
    have HUS := Lib.hid hus
    have HUE := Lib.hid hue
    have HT := Lib.hid ht
    have HK := Lib.hid hk
    have HOW := Lib.hid hown
    have HB2 := Lib.hid hB2
    generalize us.length = un at *
    clear a0 a1 a2 hus hue ht hk hown
    have a0 := hA2.cell 0 _ rfl
    have a1 := hA2.cell 1 _ rfl
    have a2 := hA2.cell 2 _ rfl
    unfold rpZ at hB2
    have HA2 := Lib.hid hA2
    clear hA2 hB2
    unfold rplA
    simp only
    go_upto_region 5 with (fail)
    obtain ⟨wD, hWD⟩ : ∃ wD, w2.alloc (.cells #[.int .i64 xn, .int .i64 xz, .int .i64 xe, .int .i64 xa, .slice ua un uc] rplT) = wD := ⟨_, rfl⟩
    rw [hWD]
    have hxD : Ext w2 wD := by rw [← hWD]; exact (Kp.refl _ _).alloc _
    have hCD : Blk wD w2.heap.size #[.int .i64 xn, .int .i64 xz, .int .i64 xe, .int .i64 xa, .slice ua un uc] rplT := by rw [← hWD]; exact heap_alloc_new w2 _
    clear a0 a1 a2 hWD
    have hAD := HA2.out.kp hxD (fun f => f)
    have a0 := hAD.cell 0 _ rfl
    have a1 := hAD.cell 1 _ rfl
    have a2 := hAD.cell 2 _ rfl
    obtain ⟨w3, hW3⟩ : ∃ w3, (wD.setCell ⟨w2.heap.size, 0, none⟩ (.int .i64 num)).setCell ⟨w2.heap.size, 1, none⟩ (.int .i64 z) = w3 := ⟨_, rfl⟩
    have hC3 : Blk w3 w2.heap.size #[.int .i64 num, .int .i64 z, .int .i64 xe, .int .i64 xa, .slice ua un uc] rplT := by rw [← hW3]; exact (hCD.set 0 _).set 1 _
    have hx3 : Ext w2 w3 := by rw [← hW3]; exact hxD.next (((Kp.refl (fun i => i = w2.heap.size) _).set1 _ 0 _ rfl).set1 _ 1 _ rfl) (fun i hi e => by omega)
    have f0 := hCD.free 0
    have f1 := hCD.free 1
    have g0 := hCD.cell 0 _ rfl
    have g1 := hCD.cell 1 _ rfl
    have HW3 := Lib.hid hW3
    clear hCD hAD hxD hW3
    go_upto_region 6 with (fail)
    rw [HW3.out]
    clear f0 f1 g0 g1
    have hB3 := HB2.out.kp hx3 (fun f => f)
    have HX3 := Lib.hid hx3
    have HB3 := Lib.hid hB3
    unfold rpZ at hB3
    clear a0 a1 a2
    have x0 := hC3.cell 0 _ rfl
    have x1 := hC3.cell 1 _ rfl
    have x2 := hC3.cell 2 _ rfl
    have x3 := hC3.cell 3 _ rfl
    have x4 := hC3.cell 4 _ rfl
    have c0 := hB3.cell 0 _ rfl
    have c1 := hB3.cell 1 _ rfl
    have c2 := hB3.cell 2 _ rfl
    have c3 := hB3.cell 3 _ rfl
    have c4 := hB3.cell 4 _ rfl
    have fc0 := hB3.free 0
    have fc1 := hB3.free 1
    have fc2 := hB3.free 2
    have fc3 := hB3.free 3
    have fc4 := hB3.free 4
    clear hC3 hB3 hx3
    go_wp2_with (fail)
    go_light
    refine bodyPost_ret (v := .agg #[.int .i64 num, .int .i64 z, .int .i64 xe, .int .i64 xa, .slice ua un uc]) (by simp [results, Tryz.results83, go_sem, c0, c1, c2, c3, c4]) rfl ?_
    rw [HE.out]
    have k5 := kp_set5 w3 (w.heap.size + 1) (.int .i64 num) (.int .i64 z) (.int .i64 xe) (.int .i64 xa) (.slice ua un uc)
    have hsz := HXB.out.size
    have hsz1 := HX1.out.size
    have h0s := HH.out.ts.ex.size
    refine ⟨HBD.out, .slice ua un uc, m', t', rfl, ⟨us, ((HUS.out.ext HX3.out).kpT k5 (noT_blk HB3.out (by decide)) (noT_blk HB3.out (by decide))).less (by omega), HUE.out⟩, (HT.out.ext HX3.out).aside k5 (fun i hi => by have e : i = w.heap.size + 1 := hi; omega) (Other.blk HB3.out (by decide) (by decide) (by decide)), ?_, hmm.imp id (fun h => by omega), fun i hi => ?_⟩
    · exact ((((Ext.kp HXB.out).next HX1.out (fun i _ f => f.elim)).trans HK.out).next HX3.out (fun i _ f => f.elim)).next k5 (fun i hi e => by omega)
    · rcases HOW.out i hi with h | h
      · exact .inl h
      · exact .inr (by omega)
  · have HE : Hid (requestL room L sess num z ops = (L, failRp num z0 (-1) 0)) := by show _ = _; unfold requestL; rw [if_pos (by rw [hz0]; exact hz), hz0]
    clear h ho hWB hxB hA hB hz0 HDO
    go_enter Tryz.func83, Tryz.ntmps83
    go_upto_region 1 with (fail)
    rw [HWB.out]
    go_wp2_with (fail)
    refine HMAY.out.mono ?_
    rintro e w1 ⟨rfl, hx1⟩
    have hA1 := HA.out.kp hx1 (fun f => f)
    have HX1 := Lib.hid (HXB.out.trans hx1)
    have HB1 := Lib.hid (HB.out.kp hx1 (fun f => f))
    clear hx1 a0 a1 a2
    have a0 := hA1.cell 0 _ rfl
    have a1 := hA1.cell 1 _ rfl
    have a2 := hA1.cell 2 _ rfl
    clear hA1
    go_wp2_with (fail)
    refine (repFail_any num z0 (-1) 0 _).mono ?_
    rintro e w2 ⟨u, rfl, hu, hx2⟩
    have hB2 := HB1.out.kp hx2 (fun f => f)
    have HU := Lib.hid hu
    have HB2 := Lib.hid hB2
    have HX2 := Lib.hid (HX1.out.trans hx2)
    obtain ⟨us, hus, _⟩ := hu
    obtain ⟨ua, uc, rfl⟩ := hus.slice
    generalize us.length = un at *
    unfold rpZ at hB2
    have c0 := hB2.cell 0 _ rfl
    have c1 := hB2.cell 1 _ rfl
    have c2 := hB2.cell 2 _ rfl
    have c3 := hB2.cell 3 _ rfl
    have c4 := hB2.cell 4 _ rfl
    have fc0 := hB2.free 0
    have fc1 := hB2.free 1
    have fc2 := hB2.free 2
    have fc3 := hB2.free 3
    have fc4 := hB2.free 4
    clear hB2 hx2 hus a0 a1 a2
    unfold rplA failRp
    simp only
    go_wp2_with (fail)
    go_light
    refine bodyPost_ret (v := .agg #[.int .i64 num, .int .i64 0, .int .i64 z0, .int .i64 (-1), .slice ua un uc]) (by simp [results, Tryz.results83, go_sem, c0, c1, c2, c3, c4]) rfl ?_
    rw [HE.out]
    have k5 := kp_set5 w2 (w.heap.size + 1) (.int .i64 num) (.int .i64 0) (.int .i64 z0) (.int .i64 (-1)) (.slice ua un uc)
    have hx5 : Ext w _ := HX2.out.next k5 (fun i hi e => by omega)
    exact ⟨failB _ _ _ _, .slice ua un uc, m, t, rfl, (HU.out.kpT k5 (noT_blk HB2.out (by decide)) (noT_blk HB2.out (by decide))).less (by have := HX1.out.size; omega), (HH.out.ext hx5).mono (by omega), Ext.kp hx5, .inl rfl, fun i hi => .inl hi⟩
end Go.Proofs.YtnlefnhdhigecaaGreatDoor

/- slices.Equal at []string, at rows that can be read. -/
namespace Go.Proofs.YtnlefnhdhigecaaGreatDoor
set_option maxRecDepth 100000
open Go.RowKit Av

theorem enc_inj : ∀ {xs ys : List Bs}, (xs.map fun b => (⟨b.toArray⟩ : ByteArray)) = (ys.map fun b => (⟨b.toArray⟩ : ByteArray)) → xs = ys
  | [], [], _ => rfl
  | [], _ :: _, h => by simp at h
  | _ :: _, [], h => by simp at h
  | x :: xs, y :: ys, h => by
    simp only [List.map_cons, List.cons.injEq] at h
    rw [enc_inj h.2]
    congr 1
    have h1 := congrArg (fun b : ByteArray => b.data.toList) h.1
    simpa using h1
theorem enc_cells {w : World} {b off : Nat} {xs : List Bs} (h : ∀ i x, (xs.map encStr)[i]? = some x → w.cell? ⟨b, off + i, none⟩ = some x) : ∀ j, j < (xs.map fun b => (⟨b.toArray⟩ : ByteArray)).length → w.cell? ⟨b, off + j, none⟩ = some (.string ((xs.map fun b => (⟨b.toArray⟩ : ByteArray)).getD j ByteArray.empty)) := fun j hj => by
  have hj' : j < xs.length := by simpa using hj
  refine h j _ ?_
  rw [List.getElem?_map, List.getElem?_eq_getElem hj']
  simp only [List.getD, List.getElem?_map, List.getElem?_eq_getElem hj', Option.map_some, Option.getD_some]
theorem equalS_any (va vb : Value) (xs ys : List Bs) (w : World) (ha : Sl w 1 va xs.length (xs.map encStr)) (hb : Sl w 1 vb ys.length (ys.map encStr)) :
    Calls Tryz.prog 172 #[va, vb] w fun e w' => e = .returned (.bool (decide (xs = ys))) ∧ Ext w w' := by
  obtain ⟨a1, c, rfl, _, hm1, _, hop1⟩ := Sl.open ha
  obtain ⟨a2, d, rfl, _, hm2, _, hop2⟩ := Sl.open hb
  unfold maxLen at hm1 hm2
  by_cases hl : xs.length = ys.length
  · by_cases h0 : xs.length = 0
    · have hx0 : xs = [] := List.length_eq_zero_iff.1 h0
      have hy0 : ys = [] := List.length_eq_zero_iff.1 (by omega)
      subst hx0 hy0
      refine (Any.slices_Equal_string_empty Tryz.laysE193 a1 a2 c 0 d w (by omega)).mono ?_
      rintro e w' ⟨rfl, rfl⟩
      exact ⟨by simp, Kp.refl _ _⟩
    · obtain ⟨b1, o1, rfl, _, h1⟩ := hop1 (by omega)
      obtain ⟨b2, o2, rfl, _, h2⟩ := hop2 (by omega)
      refine (Any.slices_Equal_string Tryz.laysE193 b1 o1 xs.length c b2 o2 ys.length d (xs.map fun b => (⟨b.toArray⟩ : ByteArray)) (ys.map fun b => (⟨b.toArray⟩ : ByteArray)) w (by simp) (by simp) (by omega) (by omega) (enc_cells h1) (enc_cells h2)).mono ?_
      rintro e w' ⟨rfl, q, rfl⟩
      refine ⟨?_, (Kp.refl _ _).drewN _⟩
      have e1 : decide (((xs.map fun b => (⟨b.toArray⟩ : ByteArray)).take xs.length) = ((ys.map fun b => (⟨b.toArray⟩ : ByteArray)).take ys.length)) = decide (xs = ys) := by
        rw [List.take_of_length_le (by simp), List.take_of_length_le (by simp), Bool.eq_iff_iff, decide_eq_true_iff, decide_eq_true_iff]
        exact ⟨enc_inj, fun h => by rw [h]⟩
      rw [e1]
  · refine (Any.slices_Equal_string_lens Tryz.laysE193 a1 a2 xs.length c ys.length d w hl).mono ?_
    rintro e w' ⟨rfl, rfl⟩
    exact ⟨by rw [decide_eq_false (fun h => hl (by rw [h]))], Kp.refl _ _⟩
end Go.Proofs.YtnlefnhdhigecaaGreatDoor
