/- Walks of package op over requests: May, Writes, and slices.ContainsFunc over ops. -/
import Derived.Test.YtmgnndhhpnedkaaGreatDoorAvOps
import Derived.Test.YtmgnndhhpnedkaaGreatDoorAvWOpB
namespace Go.Proofs.YtmgnndhhpnedkaaGreatDoor
set_option maxRecDepth 100000
open Go.RowKit Av

set_option maxHeartbeats 400000 in
theorem mayF_any (o : OpV) (w : World) : Calls Tryz.prog 48 #[o.val] w fun e w' => e = .returned (.bool (readsB o.kind)) ∧ Ext w w' := by
  obtain ⟨k, p, d, v, f⟩ := o
  unfold OpV.val
  have H := Lib.hid (reads_any k)
  simp only
  go_enter Tryz.func48, Tryz.ntmps48
  go_wp2_with (fail)
  refine (H.out _).mono ?_
  rintro e w1 ⟨rfl, rfl⟩
  go_wp2_with (fail)
  go_ret
  go_light
  exact ⟨rfl, (Kp.refl _ _).alloc _⟩
def writesB (k : Int) : Bool := decide (k = 1) || (decide (k = 2) || decide (k = 3))
/-- The loop of a search: none of the first k is it. -/
def IdxRel (w : World) (p : OpV → Bool) (xs : List OpV) (i : Value) (wr : World) : Prop :=
  ∃ k : Nat, k ≤ xs.length ∧ i = .int .i64 k ∧ (∀ x ∈ xs.take k, p x = false) ∧ Ext w wr

set_option maxHeartbeats 800000 in
theorem readsIdx_any (v : Value) (xs : List OpV) (w : World) (h : OpsAt w v xs) :
    Calls Tryz.prog 60 #[v, .func (.func 48) #[] #[]] w fun e w' => e = .returned (.int .i64 (idxI (fun o => readsB o.kind) xs)) ∧ Ext w w' := by
  obtain ⟨a, c, rfl, hcc, hm, hop⟩ := OpsAt.open h
  have HO := Lib.hid hop
  unfold maxLen at hm
  clear h hop
  go_enter Tryz.func60, Tryz.ntmps60
  go_wp2_with (fail)
  go_loopw [8] (IdxRel w (fun o => readsB o.kind) xs) (fun i _ => xs.length - (intOf i).toNat)
  case atStart => exact ⟨0, Nat.zero_le _, rfl, by simp, Kp.refl _ _⟩
  case round =>
    obtain ⟨k, hk, rfl, hnone, hx⟩ := hrel
    have HN := Lib.hid hnone
    clear hnone
    by_cases hlt : k < xs.length
    · obtain ⟨b, off, rfl, _, hc⟩ := HO.out (by omega)
      obtain ⟨c0, c1, c2, c3, c4⟩ := hc k hlt
      have d0 := hx.cell c0 (fun f => f)
      have d1 := hx.cell c1 (fun f => f)
      have d2 := hx.cell c2 (fun f => f)
      have d3 := hx.cell c3 (fun f => f)
      have d4 := hx.cell c4 (fun f => f)
      have k1 : (k : Int) < xs.length := by omega
      have HC := Lib.hid (mayF_any xs[k])
      unfold OpV.val at HC
      clear hc c0 c1 c2 c3 c4
      go_wp2_with (fail)
      refine (HC.out _).mono ?_
      rintro e w1 ⟨rfl, hx1⟩
      cases hb : (fun o => readsB o.kind) xs[k] with
      | false =>
        have HB := Lib.hid hb
        have hb' : readsB xs[k].kind = false := hb
        clear hb
        rw [hb']
        clear hb'
        go_wp2_with (fail)
        go_light
        exact ⟨⟨k + 1, by omega, by go_num, take_allP hlt HN.out HB.out, hx.ext hx1⟩, by simp [intOf]; omega⟩
      | true =>
        have HB := Lib.hid hb
        have hb' : readsB xs[k].kind = true := hb
        clear hb
        rw [hb']
        clear hb'
        go_wp2_with (fail)
        go_ret
        go_light
        exact ⟨ret_val (by rw [idxI_at hlt HN.out HB.out]; rfl), hx.ext hx1⟩
    · have hall : ∀ x ∈ xs, (fun o => readsB o.kind) x = false := by
        have := HN.out
        rwa [List.take_of_length_le (by omega)] at this
      have HI := Lib.hid (idxI_none hall)
      clear hall HN
      go_wp2_with (fail)
      go_ret
      go_light
      exact ⟨ret_val (by rw [HI.out]; rfl), hx⟩

set_option maxHeartbeats 400000 in
theorem readsAny_any (v : Value) (xs : List OpV) (w : World) (h : OpsAt w v xs) :
    Calls Tryz.prog 47 #[v, .func (.func 48) #[] #[]] w fun e w' => e = .returned (.bool (xs.any (fun o => readsB o.kind))) ∧ Ext w w' := by
  have HC := Lib.hid (readsIdx_any v xs w h)
  have HI := Lib.hid (idxI_any (fun o => readsB o.kind) xs)
  obtain ⟨z, hz⟩ : ∃ z, idxI (fun o => readsB o.kind) xs = z := ⟨_, rfl⟩
  rw [hz] at HC HI
  clear hz
  go_enter Tryz.func47, Tryz.ntmps47
  go_wp2_with (fail)
  refine (HC.out).mono ?_
  rintro e w1 ⟨rfl, hx1⟩
  go_wp2_with (fail)
  go_ret
  go_light
  exact ⟨ret_bool HI.out, hx1⟩

/-- The loop of May: the first k are good. -/
def MayRel (w : World) (xs : List OpV) (i : Value) (wr : World) : Prop :=
  ∃ k : Nat, k ≤ xs.length ∧ i = .int .i64 k ∧ (∀ x ∈ xs.take k, goodO x = 0) ∧ Ext w wr
/-- The cells of a boxed request stay. -/
theorem req_cells {w W : World} {s n : Int} {v : Value} {T : TypeId} (h : Ext (w.alloc (.cells #[.int .i64 s, .int .i64 n, v] T)) W) :
    W.cell? ⟨w.heap.size, 0, none⟩ = some (.int .i64 s) ∧ W.cell? ⟨w.heap.size, 1, none⟩ = some (.int .i64 n) ∧ W.cell? ⟨w.heap.size, 2, none⟩ = some v := by
  refine ⟨?_, ?_, ?_⟩ <;> exact h.cell (by simp) (fun f => f)

set_option maxHeartbeats 1600000 in
theorem may_any (s n : Int) (v : Value) (xs : List OpV) (w : World) (hG : GT w) (h : OpsAt w v xs) (hsz : OpsSz xs) :
    Calls Tryz.prog 29 #[.agg #[.int .i64 s, .int .i64 n, v]] w fun e w' => e = .returned (.int .i64 (mayR s n xs)) ∧ Ext w w' := by
  have HAny := Lib.hid (fun W (k : Ext w W) => readsAny_any v xs W (h.ext k))
  have HS := Lib.hid hsz
  obtain ⟨a, c, rfl, hcc, hm, hop⟩ := OpsAt.open h
  have HO := Lib.hid hop
  unfold maxLen at hm
  clear h hop hsz
  have hE : Ext w (w.alloc (.cells #[.int .i64 s, .int .i64 n, .slice a xs.length c] 25)) := (Kp.refl _ _).alloc _
  have HE := Lib.hid hE
  clear hE
  by_cases c1 : s < 1
  · go_enter Tryz.func29, Tryz.ntmps29
    go_wp2_with (fail)
    go_ret
    go_light
    exact ⟨ret_val (by rw [mayR_few (.inl c1)]; rfl), HE.out⟩
  · by_cases c2 : n < 1
    · go_enter Tryz.func29, Tryz.ntmps29
      go_wp2_with (fail)
      go_ret
      go_light
      exact ⟨ret_val (by rw [mayR_few (.inr (.inl c2))]; rfl), HE.out⟩
    · by_cases c3 : xs.length = 0
      · have c3' : (xs.length : Int) = 0 := by omega
        have HM := Lib.hid (mayR_few (sess := s) (num := n) (xs := xs) (.inr (.inr c3)))
        have c4 : ((xs.length : Int) == 0) = true := by rw [beq_iff_eq]; exact c3'
        clear c3 c3'
        go_enter Tryz.func29, Tryz.ntmps29
        go_wp2_with (fail)
        go_ret
        go_light
        exact ⟨ret_val (by rw [HM.out]; rfl), HE.out⟩
      · have c3' : ((xs.length : Int) == 0) = false := by rw [beq_eq_false_iff_ne]; omega
        have HF : Hid (¬ (s < 1 ∨ n < 1 ∨ xs.length = 0)) := by
          show ¬ _
          omega
        clear c3
        by_cases c4 : xs.length ≤ 16
        · go_enter Tryz.func29, Tryz.ntmps29
          go_wp2_with (fail)
          go_loopw [29] (MayRel (w.alloc (.cells #[.int .i64 s, .int .i64 n, .slice a xs.length c] 25)) xs) (fun i _ => xs.length - (intOf i).toNat)
          case atStart => exact ⟨0, Nat.zero_le _, rfl, by simp, Kp.refl _ _⟩
          case round =>
            obtain ⟨k, hk, rfl, hgood, hx⟩ := hrel
            have HGD := Lib.hid hgood
            have hxw := HE.out.ext hx
            have HXW := Lib.hid hxw
            clear hgood hxw
            by_cases hlt : k < xs.length
            · obtain ⟨b, off, rfl, _, hc⟩ := HO.out (by omega)
              obtain ⟨q0, q1, q2, q3, q4⟩ := hc k hlt
              have d0 := HXW.out.cell q0 (fun f => f)
              have d1 := HXW.out.cell q1 (fun f => f)
              have d2 := HXW.out.cell q2 (fun f => f)
              have d3 := HXW.out.cell q3 (fun f => f)
              have d4 := HXW.out.cell q4 (fun f => f)
              have k1 : (k : Int) < xs.length := by omega
              have hsk := HS.out _ (List.getElem_mem hlt)
              have HC := Lib.hid (fun W (k' : Ext w W) => opGood_any xs[k] W (hG.ext k') hsk.1 hsk.2)
              unfold OpV.val at HC
              clear hc q0 q1 q2 q3 q4 hsk
              go_wp2_with (fail)
              refine (HC.out _ (HXW.out.alloc _)).mono ?_
              rintro e w1 ⟨rfl, hx1⟩
              by_cases hz : goodO xs[k] = 0
              · have HZ := Lib.hid hz
                rw [hz]
                clear hz
                go_wp2_with (fail)
                go_light
                exact ⟨⟨k + 1, by omega, by go_num, take_allP hlt HGD.out HZ.out, (hx.alloc _).ext hx1⟩, by simp [intOf]; omega⟩
              · have HM := Lib.hid (mayR_bad HF.out (by omega) hlt HGD.out hz)
                obtain ⟨g, hg⟩ : ∃ g, goodO xs[k] = g := ⟨_, rfl⟩
                rw [hg] at hz HM ⊢
                have hz' : (g == 0) = false := by rw [beq_eq_false_iff_ne]; exact hz
                clear hg hz
                go_wp2_with (fail)
                go_ret
                go_light
                exact ⟨ret_val (by rw [HM.out]; rfl), (HXW.out.alloc _).ext hx1⟩
            · have hall : ∀ x ∈ xs, goodO x = 0 := by
                have := HGD.out
                rwa [List.take_of_length_le (by omega)] at this
              have HM := Lib.hid (mayR_all HF.out (by omega) hall)
              obtain ⟨r0, r1, r2⟩ := req_cells hx
              clear hall HGD
              by_cases c5 : 1 < xs.length
              · go_wp2_with (fail)
                refine (HAny.out _ HXW.out).mono ?_
                rintro e w1 ⟨rfl, hx1⟩
                cases hb : xs.any (fun o => readsB o.kind) with
                | false =>
                  rw [hb] at HM
                  clear hb
                  go_wp2_with (fail)
                  go_ret
                  go_light
                  exact ⟨ret_val (by rw [HM.out]; simp), HXW.out.ext hx1⟩
                | true =>
                  rw [hb] at HM
                  clear hb
                  go_wp2_with (fail)
                  go_ret
                  go_light
                  exact ⟨ret_val (by rw [HM.out]; simp [c5]), HXW.out.ext hx1⟩
              · have HC5 := Lib.hid c5
                go_wp2_with (fail)
                go_ret
                go_light
                exact ⟨ret_val (by rw [HM.out, if_neg (fun h => HC5.out h.1)]; rfl), HXW.out⟩
        · have HM := Lib.hid (mayR_many HF.out (by omega))
          go_enter Tryz.func29, Tryz.ntmps29
          go_wp2_with (fail)
          go_ret
          go_light
          exact ⟨ret_val (by rw [HM.out]; rfl), HE.out⟩

end Go.Proofs.YtmgnndhhpnedkaaGreatDoor
