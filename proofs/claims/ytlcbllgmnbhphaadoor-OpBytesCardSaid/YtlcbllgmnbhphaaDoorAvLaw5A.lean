/- Walks of package aviarylaw5: awake, OpParts. -/
import Derived.Test.YtlcbllgmnbhphaaDoorAvWGet
import Derived.Deep.DeepCutAuto
namespace Go.Proofs.YtlcbllgmnbhphaaDoor
set_option maxRecDepth 100000
open Go.RowKit Av

/-- What a law's call comes to. -/
def LawOK (w : World) (e : Ending) (w' : World) : Prop := e = .returned (.bool true) ∧ Ext w w'
def oA : OpV := ⟨3, ⟨#[47, 97]⟩, ⟨#[120]⟩, -1, 0⟩
def oB : OpV := ⟨1, ⟨#[47, 97]⟩, ⟨#[]⟩, 0, 2⟩
theorem oB_bad : goodO oB = 1 := by
  have h1 : formedB oB = true := by decide +kernel
  have h2 : numberedB oB = false := by
    unfold numberedB
    rw [show decide (1 < (partsL oB.path.data.toList).length) = false by decide +kernel, show decide (oB.flags < 2) = false by decide]
    rfl
  unfold goodO
  rw [h1, h2]
  decide
theorem oA_good : goodO oA = 0 := by
  have h1 : formedB oA = true := by decide +kernel
  have h2 : numberedB oA = true := by
    unfold numberedB
    rw [show decide (oA.flags < 2) = true by decide]
    rfl
  unfold goodO
  rw [h1, h2]
  decide
theorem mayA : mayR 1 2 [oA] = 0 := by
  rw [mayR_all (by decide) (by decide) (by intro x hx; simp at hx; subst hx; exact oA_good)]
  decide
theorem encA : getR (putR 1 2 [oA]) = some (1, 2, [oA]) := by
  unfold putR
  rw [if_pos mayA]
  exact getR_enc mayA ⟨by decide, by decide⟩ ⟨by decide, by decide⟩ (by intro o ho; simp at ho; subst ho; exact ⟨⟨by decide, by decide⟩, ⟨by decide, by decide⟩, ⟨by decide, by decide⟩⟩)
theorem szA : OpsSz [oA] := by intro o ho; simp at ho; subst ho; exact ⟨by decide, by decide⟩
theorem opsA (w : World) : OpsAt (w.alloc (.cells #[.int .i64 3, .string ⟨#[47, 97]⟩, .string ⟨#[120]⟩, .int .i64 (-1), .int .i64 0] 43)) (.slice (some ⟨w.heap.size, 0, none⟩) 1 1) [oA] :=
  ⟨Sl.of_block (xs := oA.cells) (heap_alloc_new w _) rfl (by decide) (Nat.le_refl _), Shp.some⟩
theorem put_len (s n : Int) (xs : List OpV) : (putR s n xs).length ≤ 100000 := by
  unfold putR
  split
  · rename_i h
    obtain ⟨_, _, _, o4, o5, _⟩ := mayR_ok h
    have := encs_len xs o5
    unfold encR
    simp only [List.length_append, be8_len]
    omega
  · simp
theorem getA (v : Value) (w : World) (hG : GT w) (hb : BytesR w v (putR 1 2 [oA])) :
    Calls Tryd.prog 8 #[v] w fun e w' => ∃ v, e = .returned (.tuple #[.agg #[.int .i64 1, .int .i64 2, v], .int .i64 0]) ∧ OpsAt w' v [oA] ∧ Ext w w' := by
  have h := get_any v (putR 1 2 [oA]) w hG hb (by have := put_len 1 2 [oA]; omega)
  unfold getE at h
  rw [encA] at h
  exact h
set_option maxHeartbeats 1600000 in
theorem awake_any (w : World) (hG : GT w) : Calls Tryd.prog 6 #[] w (LawOK w) := by
  have hx0 : Ext w (w.alloc (.cells #[.int .i64 3, .string ⟨#[47, 97]⟩, .string ⟨#[120]⟩, .int .i64 (-1), .int .i64 0] 43)) := (Kp.refl _ _).alloc _
  obtain ⟨wA, hwA⟩ : ∃ wA, (w.alloc (.cells #[.int .i64 3, .string ⟨#[47, 97]⟩, .string ⟨#[120]⟩, .int .i64 (-1), .int .i64 0] 43)).alloc (.cells #[.int .i64 1, .int .i64 2, .slice (some ⟨w.heap.size, 0, none⟩) 1 1] 24) = wA := ⟨_, rfl⟩
  have hxA : Ext w wA := by rw [← hwA]; exact hx0.alloc _
  have hoA : OpsAt wA (.slice (some ⟨w.heap.size, 0, none⟩) 1 1) [oA] := by rw [← hwA]; exact (opsA w).ext ((Kp.refl _ _).alloc _)
  have hrA : Blk wA (w.heap.size + 1) #[.int .i64 1, .int .i64 2, .slice (some ⟨w.heap.size, 0, none⟩) 1 1] 24 := by
    rw [← hwA]
    have := heap_alloc_new (w.alloc (.cells #[.int .i64 3, .string ⟨#[47, 97]⟩, .string ⟨#[120]⟩, .int .i64 (-1), .int .i64 0] 43)) (.cells #[.int .i64 1, .int .i64 2, .slice (some ⟨w.heap.size, 0, none⟩) 1 1] 24)
    simpa [Blk] using this
  have HPUT := Lib.hid (put_any 1 2 _ [oA] wA (hG.ext hxA) hoA szA)
  have HGOOD := Lib.hid (fun W h => opGood_any oB W h (by decide) (by decide))
  rw [oB_bad] at HGOOD
  have HMAY := Lib.hid (fun v W h h2 => may_any 1 2 v [oA] W h h2 szA)
  rw [mayA] at HMAY
  have HSAME := Lib.hid (fun va vb W h h2 => opSame_any 1 2 1 2 va vb [oA] [oA] W h h2)
  rw [show sameR 1 2 [oA] 1 2 [oA] = true by decide +kernel] at HSAME
  have HWR := Lib.hid (fun v W h => writes_any 1 2 v [oA] W h)
  rw [show ([oA].any fun o => writesB o.kind) = true by decide +kernel] at HWR
  have HXA := Lib.hid hxA
  have HOA := Lib.hid hoA
  have HWA := Lib.hid hwA
  have r0 := hrA.cell 0 _ rfl
  have r1 := hrA.cell 1 _ rfl
  have r2 := hrA.cell 2 _ rfl
  have HRA := Lib.hid hrA
  clear hx0 hxA hoA hrA hwA
  go_enter Tryd.func6, Tryd.ntmps6
  go_upto_region 2 with (fail)
  rw [HWA.out]
  go_wp2_with (fail)
  refine HPUT.out.mono ?_
  rintro e w1 ⟨v1, rfl, hb1, hx1⟩
  have h1 := HXA.out.ext hx1
  have HG1 := Lib.hid (getA v1 w1 (hG.ext h1) hb1)
  have HO1 := Lib.hid (HOA.out.ext hx1)
  have HR1 := Lib.hid (HRA.out.kp hx1 (fun f => f))
  have H1 := Lib.hid h1
  clear hb1 hx1 h1 HRA HOA HXA HPUT r0 r1 r2
  go_wp2_with (fail)
  refine HG1.out.mono ?_
  rintro e w2 ⟨v2, rfl, ho2, hx2⟩
  obtain ⟨a2, l2, c2, hv2⟩ : ∃ a2 l2 c2, v2 = .slice a2 l2 c2 := by obtain ⟨a, c, e, _⟩ := Sl.open ho2.1; exact ⟨_, _, _, e⟩
  subst hv2
  obtain ⟨wB, hwB⟩ : ∃ wB, w2.alloc (.cells #[.int .i64 1, .int .i64 2, .slice a2 l2 c2] 24) = wB := ⟨_, rfl⟩
  have hxB : Ext w2 wB := by rw [← hwB]; exact (Kp.refl _ _).alloc _
  have HO2 := Lib.hid (ho2.ext hxB)
  have HO1' := Lib.hid ((HO1.out.ext hx2).ext hxB)
  have HQ : Blk wB w2.heap.size #[.int .i64 1, .int .i64 2, .slice a2 l2 c2] 24 := by rw [← hwB]; exact heap_alloc_new w2 _
  have HQ2 := Lib.hid HQ
  have HR2 := Lib.hid (Blk.kp (Blk.kp HR1.out hx2 (fun f => f)) hxB (fun f => f))
  have HH2 := Lib.hid ((H1.out.ext hx2).ext hxB)
  have HWB := Lib.hid hwB
  clear ho2 hx2 hxB HQ hwB HR1 HO1 HG1 H1
  go_upto_region 3 with (fail)
  rw [HWB.out]
  go_wp2_with (fail)
  refine (HGOOD.out wB (hG.ext HH2.out)).mono ?_
  rintro e w3 ⟨rfl, hx3⟩
  have HR3 := Lib.hid (Blk.kp HR2.out hx3 (fun f => f))
  have HQ3 := Lib.hid (Blk.kp HQ2.out hx3 (fun f => f))
  have HO3 := Lib.hid (HO2.out.ext hx3)
  have HP3 := Lib.hid (HO1'.out.ext hx3)
  have HH3 := Lib.hid (HH2.out.ext hx3)
  clear HR2 HQ2 HO2 HO1' HH2 HWB hx3
  have r0 := HR3.out.cell 0 _ rfl
  have r1 := HR3.out.cell 1 _ rfl
  have r2 := HR3.out.cell 2 _ rfl
  go_wp2_with (fail)
  refine (HMAY.out _ w3 (hG.ext HH3.out) HP3.out).mono ?_
  rintro e w4 ⟨rfl, hx4⟩
  clear r0 r1 r2
  have r0 := (Blk.kp HR3.out hx4 (fun f => f)).cell 0 _ rfl
  have r1 := (Blk.kp HR3.out hx4 (fun f => f)).cell 1 _ rfl
  have r2 := (Blk.kp HR3.out hx4 (fun f => f)).cell 2 _ rfl
  have q0 := (Blk.kp HQ3.out hx4 (fun f => f)).cell 0 _ rfl
  have q1 := (Blk.kp HQ3.out hx4 (fun f => f)).cell 1 _ rfl
  have q2 := (Blk.kp HQ3.out hx4 (fun f => f)).cell 2 _ rfl
  have HO4 := Lib.hid (HO3.out.ext hx4)
  have HP4 := Lib.hid (HP3.out.ext hx4)
  have HH4 := Lib.hid (HH3.out.ext hx4)
  have HX4 := Lib.hid hx4
  clear hx4
  go_wp2_with (fail)
  refine (HSAME.out _ _ w4 HO4.out HP4.out).mono ?_
  rintro e w5 ⟨rfl, hx5⟩
  clear r0 r1 r2 q0 q1 q2
  have r0 := (Blk.kp (Blk.kp HR3.out HX4.out (fun f => f)) hx5 (fun f => f)).cell 0 _ rfl
  have r1 := (Blk.kp (Blk.kp HR3.out HX4.out (fun f => f)) hx5 (fun f => f)).cell 1 _ rfl
  have r2 := (Blk.kp (Blk.kp HR3.out HX4.out (fun f => f)) hx5 (fun f => f)).cell 2 _ rfl
  have HP5 := Lib.hid (HP4.out.ext hx5)
  have HH5 := Lib.hid (HH4.out.ext hx5)
  clear hx5
  go_wp2_with (fail)
  refine (HWR.out _ w5 HP5.out).mono ?_
  rintro e w6 ⟨rfl, hx6⟩
  go_wp2_with (fail)
  go_ret
  go_light
  exact ⟨rfl, HH5.out.ext hx6⟩

/-- What makes a request one that may be. -/
def headB (s n : Int) (xs : List OpV) : Bool := decide (1 ≤ s) && (decide (1 ≤ n) && (decide (1 ≤ xs.length) && decide (xs.length ≤ 16)))
def partB (xs : List OpV) (o : OpV) : Bool := decide (goodO o = 0) && (decide (xs.length = 1) || decide (o.kind < 5))
theorem parts_may (s n : Int) (xs : List OpV) : (headB s n xs && xs.all (partB xs)) = decide (mayR s n xs = 0) := by
  rw [Bool.eq_iff_iff]
  simp only [headB, Bool.and_eq_true, decide_eq_true_eq, List.all_eq_true]
  constructor
  · rintro ⟨⟨h1, h2, h3, h4⟩, h5⟩
    have hg : ∀ o ∈ xs, goodO o = 0 := fun o ho => by have := h5 o ho; simp only [partB, Bool.and_eq_true, decide_eq_true_eq] at this; exact this.1
    rw [mayR_all (by omega) (by omega) hg]
    refine if_neg ?_
    rintro ⟨hl, ha⟩
    obtain ⟨o, ho, hr⟩ := List.any_eq_true.1 ha
    have := h5 o ho
    simp only [partB, Bool.and_eq_true, Bool.or_eq_true, decide_eq_true_eq] at this
    rw [readsB_ge this.1, decide_eq_true_eq] at hr
    omega
  · intro h
    obtain ⟨h1, h2, h3, h4, h5, h6⟩ := mayR_ok h
    refine ⟨⟨h1, h2, h3, h4⟩, fun o ho => ?_⟩
    simp only [partB, Bool.and_eq_true, Bool.or_eq_true, decide_eq_true_eq]
    refine ⟨h5 o ho, ?_⟩
    rcases h6 with h6 | h6
    · exact .inl h6
    · have := h6 o ho
      rw [readsB_ge (h5 o ho), decide_eq_false_iff_not] at this
      exact .inr (by omega)
theorem all_take {α : Type} (f : α → Bool) (l : List α) (k : Nat) (h : k < l.length) : (l.take (k + 1)).all f = ((l.take k).all f && f l[k]) := by
  rw [List.take_succ_eq_append_getElem h, List.all_append]
  simp
def PartsRel (w : World) (g : Bool) (f : OpV → Bool) (xs : List OpV) (v i : Value) (wr : World) : Prop :=
  ∃ k : Nat, k ≤ xs.length ∧ i = .int .i64 k ∧ v = .bool (g && (xs.take k).all f) ∧ Ext w wr
theorem put_pos {s n : Int} {xs : List OpV} (h : mayR s n xs = 0) : 0 < (putR s n xs).length := by
  unfold putR
  rw [if_pos h]
  unfold encR
  simp only [List.length_append, be8_len]
  omega
set_option maxHeartbeats 3200000 in
theorem opParts_any (s n : Int) (v : Value) (xs : List OpV) (w : World) (hG : GT w) (h : OpsAt w v xs) (hsz : OpsSz xs) :
    Calls Tryd.prog 5 #[.agg #[.int .i64 s, .int .i64 n, v]] w (LawOK w) := by
  obtain ⟨a, c, rfl, hcc, hm, hop⟩ := OpsAt.open h
  obtain ⟨wA, hwA⟩ : ∃ wA, w.alloc (.cells #[.int .i64 s, .int .i64 n, .slice a xs.length c] 24) = wA := ⟨_, rfl⟩
  have hxA : Ext w wA := by rw [← hwA]; exact (Kp.refl _ _).alloc _
  have hrA : Blk wA w.heap.size #[.int .i64 s, .int .i64 n, .slice a xs.length c] 24 := by rw [← hwA]; exact heap_alloc_new w _
  have HOA := Lib.hid (h.ext hxA)
  have HOP := Lib.hid (fun hn => hop hn)
  have HSZ := Lib.hid hsz
  have HXA := Lib.hid hxA
  have HRA := Lib.hid hrA
  have HWA := Lib.hid hwA
  have HAW := Lib.hid (awake_any wA (hG.ext hxA))
  unfold maxLen at hm
  clear h hop hxA hrA hwA hsz
  go_enter Tryd.func5, Tryd.ntmps5
  go_upto_region 1 with (fail)
  rw [HWA.out]
  go_wp2_with (fail)
  refine HAW.out.mono ?_
  rintro e w1 ⟨rfl, hx1⟩
  have r2 := (Blk.kp HRA.out hx1 (fun f => f)).cell 2 _ rfl
  have HX1 := Lib.hid hx1
  clear hx1 HAW
  go_wp2_with (fail)
  refine (great_any _ xs w1 (HOA.out.ext HX1.out)).mono ?_
  rintro e w2 ⟨rfl, hx2⟩
  have HX2 := Lib.hid (HX1.out.ext hx2)
  clear hx2 r2 HX1
  cases hgr : greatB xs with
  | true =>
    clear hgr
    go_wp2_with (fail)
    go_ret
    go_light
    exact ⟨rfl, HXA.out.ext HX2.out⟩
  | false =>
    clear hgr
    have r0 := (Blk.kp HRA.out HX2.out (fun f => f)).cell 0 _ rfl
    have r1 := (Blk.kp HRA.out HX2.out (fun f => f)).cell 1 _ rfl
    have r2 := (Blk.kp HRA.out HX2.out (fun f => f)).cell 2 _ rfl
    go_upto_region 5 with (fail)
    go_cut [3] (fun s3 wx => s3 = .bool (headB s n xs) ∧ wx = w2)
    case first =>
      go_wp2_with (fail)
      all_goals
        go_meet
        go_light
        refine ⟨congrArg Value.bool ?_, rfl⟩
        rw [Bool.eq_iff_iff]
        simp only [headB, Bool.and_eq_true, decide_eq_true_eq]
        first | omega | (constructor <;> simp <;> omega)
    case rest =>
      obtain ⟨rfl, rfl⟩ := hcut
      clear r0 r1 r2
      obtain ⟨g0, hg0⟩ : ∃ g0, headB s n xs = g0 := ⟨_, rfl⟩
      rw [hg0]
      have HG0 := Lib.hid hg0
      clear hg0
      go_wp2_with (fail)
      go_loopw [3, 4] (PartsRel wA g0 (partB xs) xs) (fun _ i _ => xs.length - (intOf i).toNat)
      case atStart => exact ⟨0, Nat.zero_le _, rfl, by simp, HX2.out⟩
      case round =>
        clear HX2
        obtain ⟨k, hk, rfl, rfl, hx⟩ := hrel
        have HX := Lib.hid hx
        clear hx
        have r0 := (Blk.kp HRA.out HX.out (fun f => f)).cell 0 _ rfl
        have r1 := (Blk.kp HRA.out HX.out (fun f => f)).cell 1 _ rfl
        have r2 := (Blk.kp HRA.out HX.out (fun f => f)).cell 2 _ rfl
        by_cases hlt : k < xs.length
        · have k1 : (k : Int) < xs.length := by omega
          have HT := Lib.hid (all_take (partB xs) xs k hlt)
          cases hb : g0 && (xs.take k).all (partB xs) with
          | false =>
            have HN : Hid ((g0 && (xs.take (k + 1)).all (partB xs)) = false) := by show _ = _; rw [HT.out, ← Bool.and_assoc, hb]; rfl
            clear hb HT
            go_wp2_with (fail)
            go_light
            exact ⟨⟨k + 1, by omega, by go_num, by rw [HN.out], HX.out⟩, by simp [intOf]; omega⟩
          | true =>
            obtain ⟨b, off, rfl, _, hc⟩ := HOP.out (by omega)
            obtain ⟨q0, q1, q2, q3, q4⟩ := hc k hlt
            have d0 := (HXA.out.ext HX.out).cell q0 (fun f => f)
            have d1 := (HXA.out.ext HX.out).cell q1 (fun f => f)
            have d2 := (HXA.out.ext HX.out).cell q2 (fun f => f)
            have d3 := (HXA.out.ext HX.out).cell q3 (fun f => f)
            have d4 := (HXA.out.ext HX.out).cell q4 (fun f => f)
            have hso := HSZ.out _ (List.getElem_mem hlt)
            have HGO := Lib.hid (opGood_any xs[k] wr (hG.ext (HXA.out.ext HX.out)) hso.1 hso.2)
            have HN : Hid ((g0 && (xs.take (k + 1)).all (partB xs)) = (decide (goodO xs[k] = 0) && (decide ((xs.length : Int) = 1) || decide (xs[k].kind < 5)))) := by
              show _ = _
              rw [HT.out, ← Bool.and_assoc, hb, show decide ((xs.length : Int) = 1) = decide (xs.length = 1) by rw [decide_eq_decide]; omega]
              rfl
            clear hb HT q0 q1 q2 q3 q4 hc hso
            obtain ⟨z, hz⟩ : ∃ z, goodO xs[k] = z := ⟨_, rfl⟩
            rw [hz] at HGO HN
            clear hz
            have HE := Lib.hid (fun (W : World) (hx : Ext wr W) => (HXA.out.ext HX.out).ext hx)
            have HC := Lib.hid (fun (W : World) (hx : Ext wr W) => And.intro (hx.cell d0 (fun f => f)) (And.intro (hx.cell r2 (fun f => f)) (HX.out.ext hx)))
            unfold OpV.val at HGO
            generalize xs[k].kind = kk at *
            generalize xs[k].path = pp at *
            generalize xs[k].data = dd at *
            generalize xs[k].ver = vv at *
            generalize xs[k].flags = ff at *
            go_wp2_with (fail)
            refine HGO.out.mono ?_
            rintro e w3 ⟨rfl, hx3⟩
            obtain ⟨e0, e2, hxx⟩ := HC.out w3 hx3
            clear d0 d1 d2 d3 d4 r0 r1 r2
            go_wp2_with (fail)
            all_goals
              go_light
              exact ⟨⟨k + 1, by omega, by go_num, by rw [HN.out]; simp [*], hxx⟩, by simp [intOf]; omega⟩
        · have hgg : (g0 && (xs.take k).all (partB xs)) = decide (mayR s n xs = 0) := by
            rw [List.take_of_length_le (by omega), ← HG0.out]
            exact parts_may s n xs
          rw [hgg]
          have HMAY := Lib.hid (may_any s n _ xs wr (hG.ext (HXA.out.ext HX.out)) (HOA.out.ext HX.out) HSZ.out)
          have HPUT := Lib.hid (fun W (hx : Ext wr W) => put_any s n _ xs W (hG.ext ((HXA.out.ext HX.out).ext hx)) ((HOA.out.ext HX.out).ext hx) HSZ.out)
          clear hgg
          have HPP := Lib.hid (@put_pos s n xs)
          by_cases hz : mayR s n xs = 0
          · have hz' : decide (mayR s n xs = 0) = true := by simpa using hz
            have HPL := HPP.out hz
            rw [hz']
            rw [hz] at HMAY
            clear hz hz'
            go_wp2_with (fail)
            refine HMAY.out.mono ?_
            rintro e w3 ⟨rfl, hx3⟩
            have s0 := hx3.cell r0 (fun f => f)
            have s1 := hx3.cell r1 (fun f => f)
            have s2 := hx3.cell r2 (fun f => f)
            have HP3 := Lib.hid (HPUT.out w3 hx3)
            have HX3 := Lib.hid ((HXA.out.ext HX.out).ext hx3)
            clear r0 r1 r2 hx3
            go_wp2_with (fail)
            refine HP3.out.mono ?_
            rintro e w4 ⟨v4, rfl, hb4, hx4⟩
            obtain ⟨a4, c4, rfl, _, _, _⟩ := BytesR.open hb4
            have hpos : (0 : Int) < (putR s n xs).length := by omega
            clear hb4
            go_wp2_with (fail)
            go_ret
            go_light
            exact ⟨rfl, HX3.out.ext hx4⟩
          · have hz' : decide (mayR s n xs = 0) = false := by simpa using hz
            have hpz : putR s n xs = [] := if_neg hz
            rw [hz']
            rw [hpz] at HPUT
            obtain ⟨z, hzz⟩ : ∃ z, mayR s n xs = z := ⟨_, rfl⟩
            rw [hzz] at hz HMAY
            have hzb : (z == 0) = false := by rw [beq_eq_false_iff_ne]; exact hz
            clear hz' hpz hzz HPP
            go_wp2_with (fail)
            refine HMAY.out.mono ?_
            rintro e w3 ⟨rfl, hx3⟩
            have s0 := hx3.cell r0 (fun f => f)
            have s1 := hx3.cell r1 (fun f => f)
            have s2 := hx3.cell r2 (fun f => f)
            have HP3 := Lib.hid (HPUT.out w3 hx3)
            have HX3 := Lib.hid ((HXA.out.ext HX.out).ext hx3)
            clear r0 r1 r2 hx3
            go_wp2_with (fail)
            refine HP3.out.mono ?_
            rintro e w4 ⟨v4, rfl, hb4, hx4⟩
            obtain ⟨a4, c4, rfl, _, _, _⟩ := BytesR.open hb4
            clear hb4
            go_wp2_with (fail)
            go_ret
            go_light
            exact ⟨rfl, HX3.out.ext hx4⟩
end Go.Proofs.YtlcbllgmnbhphaaDoor
