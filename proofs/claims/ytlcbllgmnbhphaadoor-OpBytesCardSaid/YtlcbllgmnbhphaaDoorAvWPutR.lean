/- Walks: the reference's Put. -/
import Derived.Test.YtlcbllgmnbhphaaDoorAvWPut
namespace Go.Proofs.YtlcbllgmnbhphaaDoor
set_option maxRecDepth 100000
open Go.RowKit Av

theorem rown_i64 (v : Value) (bs : Bs) (z : Int) (w0 w : World) (base : Nat) (hb : BytesR w v bs) (hx : Ext w0 w) (hl : bs.length ≤ 10000000) (hbase : base ≤ w.heap.size) :
    Calls Tryd.prog 31 #[v, .int .i64 z] w fun e w' => ∃ v, e = .returned v ∧ OwnBy w' base v (bs ++ be8 z) ∧ Ext w0 w' ∧ base ≤ w'.heap.size ∧ (bs ++ be8 z).length = bs.length + 8 :=
  (refI64_any v bs z w hb (by omega)).mono fun _ _ ⟨v, h1, h2, h3⟩ => ⟨v, h1, h2.low hbase, hx.ext h3, by have := h3.size; omega, by rw [List.length_append, be8_len]⟩
theorem rown_text (v : Value) (bs : Bs) (s : ByteArray) (w0 w : World) (base : Nat) (hb : BytesR w v bs) (hx : Ext w0 w) (hl : bs.length ≤ 10000000) (hs : s.size ≤ 10000000) (hbase : base ≤ w.heap.size) :
    Calls Tryd.prog 32 #[v, .string s] w fun e w' => ∃ v, e = .returned v ∧ OwnBy w' base v (bs ++ txt s.data.toList) ∧ Ext w0 w' ∧ base ≤ w'.heap.size ∧ (bs ++ txt s.data.toList).length = bs.length + 8 + s.size :=
  (refTxt_any v bs s w hb (by omega) (by omega)).mono fun _ _ ⟨v, h1, h2, h3⟩ => ⟨v, h1, h2.low hbase, hx.ext h3, by have := h3.size; omega, by rw [List.length_append, txt_len, ← Lib.size_eq]; omega⟩

set_option maxHeartbeats 3200000 in
theorem refPut_any (s n : Int) (v : Value) (xs : List OpV) (w : World) (h : OpsAt w v xs) (hsz : OpsSz xs) :
    Calls Tryd.prog 11 #[.agg #[.int .i64 s, .int .i64 n, v]] w fun e w' => ∃ v, e = .returned v ∧ BytesR w' v (putR s n xs) ∧ Ext w w' := by
  have hE : Ext w (w.alloc (.cells #[.int .i64 s, .int .i64 n, v] 31)) := (Kp.refl _ _).alloc _
  have HM := Lib.hid (refMay_any s n v xs _ (h.ext hE) hsz)
  obtain ⟨a, c, rfl, hcc, hm, hop⟩ := OpsAt.open h
  have HO := Lib.hid hop
  have HE := Lib.hid hE
  unfold maxLen at hm
  clear h hop hsz hE
  by_cases hz : mayR s n xs = 0
  · obtain ⟨o1, o2, o3, o4, o5, o6⟩ := mayR_ok hz
    have HP : Hid (putR s n xs = encR s n xs) := by show _ = _; unfold putR; rw [if_pos hz]
    have HGD := Lib.hid o5
    rw [hz] at HM
    have hrc := fun W => req_cells (w := w) (W := W) (s := s) (n := n) (v := .slice a xs.length c) (T := 31)
    have HRC := Lib.hid hrc
    obtain ⟨wR, hwR⟩ : ∃ wR, w.alloc (.cells #[.int .i64 s, .int .i64 n, .slice a xs.length c] 31) = wR := ⟨_, rfl⟩
    rw [hwR] at HM HE
    simp only [hwR] at HRC
    have HWR := Lib.hid hwR
    clear hz o5 o6 hrc hwR
    go_enter Tryd.func11, Tryd.ntmps11
    go_wp2_with (fail)
    rw [HWR.out]
    refine HM.out.mono ?_
    rintro e w1 ⟨rfl, hx1⟩
    have HI := Lib.hid (fun v bs z W hb hx hl hbase => rown_i64 v bs z wR W w.heap.size hb hx hl hbase)
    have hx1d := hx1.drew
    have hbd : w.heap.size ≤ w1.drew.heap.size := (HE.out.ext hx1d).size
    have hl0 : ([] : Bs).length ≤ 0 := Nat.le_refl _
    go_wp2_with (fail)
    go_region_held3 (fun w' => w'.cell? ⟨w.heap.size, 0, none⟩ = some (.int .i64 s) ∧ w'.cell? ⟨w.heap.size, 1, none⟩ = some (.int .i64 n) ∧ w'.cell? ⟨w.heap.size, 2, none⟩ = some (.slice a xs.length c) ∧ Ext wR w')
      ((refine (fun hE => And.intro (HRC.out _ hE).1 (And.intro (HRC.out _ hE).2.1 (And.intro (HRC.out _ hE).2.2 hE))) ?_; first | exact hx1d | assumption))
      ((go_at_call 31; refine (HI.out _ _ _ _ (by first | exact BytesR.nil _ | exact OwnBy.bytes (by assumption)) (by assumption) (by omega) (by assumption)).mono ?_; rintro e w' ⟨v', rfl, h', hx', hb', hl'⟩))
    have HX2 := Lib.hid (HE.out.ext hx')
    have hown : OwnBy w' w.heap.size v' (be8 s ++ (be8 n ++ (be8 (xs.length : Int) ++ (xs.take 0).flatMap encO))) := by
      have := h'
      simpa using this
    have HO2 := Lib.hid hown
    have HX' := Lib.hid hx'
    clear hx1 hx1d hbd h' hx' hb' hl' hown
    go_wp2_with (fail)
    go_loopw [3, 4] (PutsRel wR w.heap.size s n xs) (fun _ i _ => xs.length - (intOf i).toNat)
    case atStart => exact ⟨0, Nat.zero_le _, rfl, HO2.out, HX'.out⟩
    case round =>
      clear HO2 HX2 HX' hl0
      obtain ⟨k, hk, rfl, hown, hxr⟩ := hrel
      have hx := HE.out.ext hxr
      have HX := Lib.hid hx
      obtain ⟨r0, r1, r2⟩ := HRC.out _ hxr
      by_cases hlt : k < xs.length
      · obtain ⟨b, off, rfl, _, hc⟩ := HO.out (by omega)
        obtain ⟨q0, q1, q2, q3, q4⟩ := hc k hlt
        have d0 := HX.out.cell q0 (fun f => f)
        have d1 := HX.out.cell q1 (fun f => f)
        have d2 := HX.out.cell q2 (fun f => f)
        have d3 := HX.out.cell q3 (fun f => f)
        have d4 := HX.out.cell q4 (fun f => f)
        have k1 : (k : Int) < xs.length := by omega
        have hgk := good_kind (HGD.out _ (List.getElem_mem hlt))
        have hps := path_small _ hgk.2.2.1
        have hds := hgk.2.2.2.2.2.2
        have hl0 := encs_len (xs.take k) (fun o ho => HGD.out o (List.mem_of_mem_take ho))
        have hlk : (xs.take k).length ≤ 16 := by rw [List.length_take]; omega
        have HN : Hid (be8 s ++ (be8 n ++ (be8 (xs.length : Int) ++ (xs.take (k + 1)).flatMap encO)) = be8 s ++ (be8 n ++ (be8 (xs.length : Int) ++ (xs.take k).flatMap encO)) ++ be8 xs[k].kind ++ txt xs[k].path.data.toList ++ txt xs[k].data.data.toList ++ be8 xs[k].ver ++ be8 xs[k].flags) := by
          show _ = _
          rw [List.take_succ_eq_append_getElem hlt, List.flatMap_append, List.flatMap_singleton]
          simp only [encO, List.append_assoc]
        obtain ⟨cur, hcur⟩ : ∃ cur, be8 s ++ (be8 n ++ (be8 (xs.length : Int) ++ (xs.take k).flatMap encO)) = cur := ⟨_, rfl⟩
        have hcl : cur.length ≤ 30000 := by
          rw [← hcur]
          simp only [List.length_append, be8_len]
          omega
        rw [hcur] at hown HN
        generalize xs[k].kind = kk at *
        generalize xs[k].path = pp at *
        generalize xs[k].data = dd at *
        generalize xs[k].ver = vv at *
        generalize xs[k].flags = ff at *
        clear hc q0 q1 q2 q3 q4 hgk hl0 hlk hcur
        have hxA : Ext wr (wr.alloc (.cells #[.int .i64 kk, .string pp, .string dd, .int .i64 vv, .int .i64 ff] 43)) := (Kp.refl _ _).alloc _
        have HXB := Lib.hid (HX.out.ext hxA)
        have HXR := Lib.hid (hxr.ext hxA)
        have HOA := Lib.hid (hown.ext hxA)
        have hbx := fun W => box_cells (w := wr) (W := W) (k := kk) (p := pp) (d := dd) (v := vv) (f := ff) (T := 43)
        have HBX := Lib.hid hbx
        obtain ⟨wA, hwA⟩ : ∃ wA, wr.alloc (.cells #[.int .i64 kk, .string pp, .string dd, .int .i64 vv, .int .i64 ff] 43) = wA := ⟨_, rfl⟩
        rw [hwA] at HXB HOA HXR
        simp only [hwA] at HBX
        have HWA := Lib.hid hwA
        have hbA : w.heap.size ≤ wA.heap.size := HXB.out.size
        have HI := Lib.hid (fun v bs z W hb hx hl hbase => rown_i64 v bs z wA W w.heap.size hb hx hl hbase)
        have HT := Lib.hid (fun v bs s W hb hx hl hs hbase => rown_text v bs s wA W w.heap.size hb hx hl hs hbase)
        clear hown hxA hbx hwA
        go_upto_region 8 with (fail)
        rw [HWA.out]
        have hAd : Ext wA wA.drew := (Kp.refl _ _).drew
        have hOd := OwnBy.ext HOA.out hAd
        have hbAd : w.heap.size ≤ wA.drew.heap.size := hbA
        obtain ⟨e0, e1, e2, e3, e4⟩ := HBX.out wA (Kp.refl _ _)
        go_region_held3 (fun w' => w'.cell? ⟨wr.heap.size, 0, none⟩ = some (.int .i64 kk) ∧ w'.cell? ⟨wr.heap.size, 1, none⟩ = some (.string pp) ∧ w'.cell? ⟨wr.heap.size, 2, none⟩ = some (.string dd) ∧ Ext wA w')
          ((refine (fun hE => And.intro (HBX.out _ hE).1 (And.intro (HBX.out _ hE).2.1 (And.intro (HBX.out _ hE).2.2.1 hE))) ?_; first | exact hAd | assumption))
          ((first
            | (go_at_call 31; refine (HI.out _ _ _ _ (OwnBy.bytes (by assumption)) (by assumption) (by omega) (by assumption)).mono ?_; rintro e w' ⟨v', rfl, h', hx', hb', hl'⟩)
            | (go_at_call 32; refine (HT.out _ _ _ _ (OwnBy.bytes (by assumption)) (by assumption) (by omega) (by omega) (by assumption)).mono ?_; rintro e w' ⟨v', rfl, h', hx', hb', hl'⟩)))
        go_wp2_with (fail)
        obtain ⟨g0, g1, g2, g3, g4⟩ := HBX.out _ hx'
        have h'd := OwnBy.ext h' (Kp.refl (fun _ => False) w').drew
        have hx'd := hx'.drew
        have hb'd : w.heap.size ≤ w'.drew.heap.size := hb'
        go_region_held3 (fun w' => w'.cell? ⟨wr.heap.size, 3, none⟩ = some (.int .i64 vv) ∧ w'.cell? ⟨wr.heap.size, 4, none⟩ = some (.int .i64 ff) ∧ Ext wA w')
          ((refine (fun hE => And.intro (HBX.out _ hE).2.2.2.1 (And.intro (HBX.out _ hE).2.2.2.2 hE)) ?_; first | exact hx'd | assumption))
          ((go_at_call 31; refine (HI.out _ _ _ _ (OwnBy.bytes (by assumption)) (by assumption) (by omega) (by assumption)).mono ?_; rintro e w9 ⟨v9, rfl, h9, hx9, hb9, hl9⟩))
        have HO9 := Lib.hid h9
        have HX9 := Lib.hid (HXR.out.ext hx9)
        clear h9 hx9 hb9 hl9 h' h'd hx' hx'd hb' hb'd hl' hOd hAd
        go_wp2_with (fail)
        go_light
        exact ⟨⟨k + 1, by omega, by go_num, by rw [HN.out]; exact HO9.out, HX9.out⟩, by simp [intOf]; omega⟩
      · have hke : xs.take k = xs := List.take_of_length_le (by omega)
        rw [hke] at hown
        have HO5 := Lib.hid hown
        clear hke hown
        go_wp2_with (fail)
        go_ret
        go_light
        exact ⟨_, rfl, by rw [HP.out]; exact OwnBy.bytes HO5.out, HX.out⟩
  · have HP : Hid (putR s n xs = []) := by show _ = _; unfold putR; rw [if_neg hz]
    obtain ⟨z, hzz⟩ : ∃ z, mayR s n xs = z := ⟨_, rfl⟩
    rw [hzz] at HM hz
    clear hzz
    go_enter Tryd.func11, Tryd.ntmps11
    go_wp2_with (fail)
    refine (HM.out).mono ?_
    rintro e w1 ⟨rfl, hx1⟩
    go_wp2_with (fail)
    go_ret
    go_light
    exact ⟨_, rfl, by rw [HP.out]; exact BytesR.nil _, HE.out.ext hx1⟩
end Go.Proofs.YtlcbllgmnbhphaaDoor
