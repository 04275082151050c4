/- Walks of package aviaryref1: Name, Within, Same, Digits, Number. -/
import Derived.Test.YtpiejhfmokmaaaaDoorAvWPathC
import Derived.Deep.QuietTactic
import Derived.BigQuiet
import Derived.Deep.RegionWith
namespace Go.Proofs.YtpiejhfmokmaaaaDoor
open Go.RowKit Av

set_option maxHeartbeats 400000 in
theorem refName_any (p : ByteArray) (w : World) (hp : p.size ≤ maxLen) :
    Calls Tryd.prog 20 #[.string p] w fun e w' => e = .returned (.string ⟨(lastL p.data.toList).toArray⟩) ∧ Ext w w' := by
  have HPt := Lib.hid (refParts_any p w hp)
  go_enter Tryd.func20, Tryd.ntmps20
  go_wp2_with (fail)
  refine HPt.out.mono ?_
  rintro e w1 ⟨v, ps, rfl, hps, hst, hx⟩
  obtain ⟨a', c', rfl, hcc, hm, hop⟩ := Strs.open hst
  have HO := Lib.hid hop
  have HPS := Lib.hid hps
  unfold maxLen at hm
  clear hst hop hps
  by_cases h0 : 0 < ps.length
  · obtain ⟨b, off, rfl, hb, hc⟩ := HO.out h0
    have hlt : ps.length - 1 < ps.length := by omega
    have hcell := hc (ps.length - 1) hlt
    have h0' : ((ps.length : Int) == 0) = false := by rw [beq_eq_false_iff_ne]; omega
    have q1 : 1 ≤ (ps.length : Int) := by omega
    have e2 : ((ps.length : Int) - 1).toNat = ps.length - 1 := by omega
    have HL := Lib.hid (last_of HPS.out hlt)
    clear hc
    go_wp2_with (fail)
    go_ret
    go_light
    exact ⟨ret_val (by rw [HL.out]; rfl), hx⟩
  · have h0' : ((ps.length : Int) == 0) = true := by rw [beq_iff_eq]; omega
    have HL := Lib.hid (last_nil HPS.out (by omega))
    go_wp2_with (fail)
    go_ret
    go_light
    exact ⟨ret_val (by rw [HL.out]; rfl), hx⟩

theorem str_ne (a b : ByteArray) : (a.toList != b.toList) = !decide (a = b) := by rw [bne, str_eq]
theorem take_step {α : Type} {a b : List α} {k : Nat} (h : a.take k = b.take k) (ha : k < a.length) (hb : k < b.length) (e : a[k] = b[k]) : a.take (k + 1) = b.take (k + 1) := by
  rw [List.take_succ_eq_append_getElem ha, List.take_succ_eq_append_getElem hb, h, e]
theorem map_inj {a b : List ByteArray} : a.map (·.data.toList) = b.map (·.data.toList) ↔ a = b := by
  constructor
  · intro h
    exact List.map_inj_right (fun x y e => bytes_eq e) |>.1 h
  · rintro rfl; rfl

/-- Behind k rounds of a loop that holds two slices against each other. -/
def SameRel (w : World) (xs ys : List ByteArray) (i : Value) (wr : World) : Prop :=
  ∃ k : Nat, k ≤ ys.length ∧ i = .int .i64 k ∧ xs.take k = ys.take k ∧ Ext w wr

set_option maxHeartbeats 400000 in
theorem refSame_any (va vb : Value) (xs ys : List ByteArray) (w : World) (ha : Strs w va xs) (hb : Strs w vb ys) :
    Calls Tryd.prog 16 #[va, vb] w fun e w' => e = .returned (.bool (decide (xs = ys))) ∧ Ext w w' := by
  obtain ⟨aa, ca, rfl, hca, hma, hoa⟩ := Strs.open ha
  obtain ⟨ab, cb, rfl, hcb, hmb, hob⟩ := Strs.open hb
  unfold maxLen at hma hmb
  have HA := Lib.hid hoa
  have HB := Lib.hid hob
  clear ha hb hoa hob
  by_cases hl : xs.length = ys.length
  · have hl' : ((xs.length : Int) != ys.length) = false := by rw [bne_eq_false_iff_eq]; omega
    have HL := Lib.hid hl
    clear hl
    go_enter Tryd.func16, Tryd.ntmps16
    go_wp2_with (fail)
    go_loopw [5] (SameRel w xs ys) (fun i _ => xs.length - (intOf i).toNat)
    case atStart => exact ⟨0, Nat.zero_le _, rfl, rfl, Kp.refl _ _⟩
    case round =>
      obtain ⟨k, hk, rfl, ht, hx⟩ := hrel
      have HT := Lib.hid ht
      clear ht
      by_cases hlt : k < xs.length
      · have hlt2 : k < ys.length := by rw [← HL.out]; exact hlt
        obtain ⟨b1, o1, rfl, _, hc1⟩ := HA.out (by omega)
        obtain ⟨b2, o2, rfl, _, hc2⟩ := HB.out (by omega)
        have g1 := hx.cell (hc1 k hlt) (fun f => f)
        have g2 := hx.cell (hc2 k hlt2) (fun f => f)
        have k1 : (k : Int) < xs.length := by omega
        have k2 : (k : Int) < ys.length := by omega
        have hne := str_eq xs[k] ys[k]
        clear hc1 hc2
        by_cases he : xs[k] = ys[k]
        · have hne' : (xs[k].toList == ys[k].toList) = true := by rw [hne]; simp [he]
          have HE := Lib.hid he
          clear he hne
          go_wp2_with (fail)
          go_quiet (fail)
          go_wp2_with (fail)
          go_light
          exact ⟨⟨k + 1, by omega, by go_num, take_step HT.out hlt hlt2 HE.out, hx.drewN _⟩, by simp [intOf]; omega⟩
        · have hne' : (xs[k].toList == ys[k].toList) = false := by rw [hne]; simp [he]
          have HR : Hid (decide (xs = ys) = false) := by
            show _ = false
            rw [decide_eq_false_iff_not]; rintro rfl; exact he rfl
          clear he hne
          go_wp2_with (fail)
          go_quiet (fail)
          go_wp2_with (fail)
          go_ret
          go_light
          exact ⟨ret_bool HR.out.symm, hx.drewN _⟩
      · have HR : Hid (decide (xs = ys) = true) := by
          show _ = true
          have h1 := HT.out
          have h2 := HL.out
          rw [List.take_of_length_le (by omega), List.take_of_length_le (by omega)] at h1
          exact decide_eq_true h1
        go_wp2_with (fail)
        go_ret
        go_light
        exact ⟨ret_bool HR.out.symm, hx⟩
  · have hl' : ((xs.length : Int) != ys.length) = true := by rw [bne_iff_ne]; omega
    have HR : Hid (decide (xs = ys) = false) := by
      show _ = false
      rw [decide_eq_false_iff_not]; rintro rfl; exact hl rfl
    clear hl
    go_enter Tryd.func16, Tryd.ntmps16
    go_wp2_with (fail)
    go_ret
    go_light
    exact ⟨ret_bool HR.out.symm, Kp.refl _ _⟩

theorem withinR_map {ps qs : List ByteArray} {a b : List Bs} (h1 : ps.map (·.data.toList) = a) (h2 : qs.map (·.data.toList) = b) :
    withinR a b = ((decide (ps.length ≠ 0) && (decide (qs.length ≠ 0) && decide (qs.length ≤ ps.length))) && decide (ps.take qs.length = qs)) := by
  subst h1 h2
  unfold withinR
  simp only [List.length_map, ← List.map_take]
  congr 1
  simp only [map_inj]

set_option maxHeartbeats 800000 in
theorem refWithin_any (p q : ByteArray) (w : World) (hp : p.size ≤ maxLen) (hq : q.size ≤ maxLen) :
    Calls Tryd.prog 24 #[.string p, .string q] w fun e w' => e = .returned (.bool (withinL p.data.toList q.data.toList)) ∧ Ext w w' := by
  have H1 := Lib.hid (refParts_any p w hp)
  have H2 := Lib.hid (fun w1 => refParts_any q w1 hq)
  have HW := Lib.hid (within_law p.data.toList q.data.toList)
  go_enter Tryd.func24, Tryd.ntmps24
  go_wp2_with (fail)
  refine H1.out.mono ?_
  rintro e w1 ⟨va, ps, rfl, hps, hsa, hx1⟩
  go_wp2_with (fail)
  refine (H2.out w1).mono ?_
  rintro e w2 ⟨vb, qs, rfl, hqs, hsb, hx2⟩
  obtain ⟨aa, ca, rfl, hca, hma, hoa⟩ := Strs.open (hsa.ext hx2)
  obtain ⟨ab, cb, rfl, hcb, hmb, hob⟩ := Strs.open hsb
  unfold maxLen at hma hmb
  have HR := Lib.hid (HW.out.trans (withinR_map hps hqs))
  have HA := Lib.hid hoa
  have HB := Lib.hid hob
  have hx := hx1.ext hx2
  clear hps hqs hsa hsb hoa hob hx1 hx2
  by_cases h0 : ps.length = 0
  · have h0' : ((ps.length : Int) == 0) = true := by rw [beq_iff_eq]; omega
    have HF : Hid (withinL p.data.toList q.data.toList = false) := by show _ = false; rw [HR.out]; simp [h0]
    clear h0
    go_wp2_with (fail)
    go_ret
    go_light
    exact ⟨ret_bool HF.out.symm, hx⟩
  · have h0' : ((ps.length : Int) == 0) = false := by rw [beq_eq_false_iff_ne]; omega
    have p0 : 0 < ps.length := by omega
    by_cases h1 : qs.length = 0
    · have h1' : ((qs.length : Int) == 0) = true := by rw [beq_iff_eq]; omega
      have HF : Hid (withinL p.data.toList q.data.toList = false) := by show _ = false; rw [HR.out]; simp [h1]
      clear h0 h1
      go_wp2_with (fail)
      go_ret
      go_light
      exact ⟨ret_bool HF.out.symm, hx⟩
    · have h1' : ((qs.length : Int) == 0) = false := by rw [beq_eq_false_iff_ne]; omega
      have q0 : 0 < qs.length := by omega
      by_cases h2 : ps.length < qs.length
      · have HF : Hid (withinL p.data.toList q.data.toList = false) := by show _ = false; rw [HR.out]; simp [show ¬ qs.length ≤ ps.length by omega]
        have h2' : decide (ps.length < qs.length) = true := by simpa using h2
        clear h0 h1
        go_wp2_with (fail)
        go_ret
        go_light
        exact ⟨ret_bool HF.out.symm, hx⟩
      · have h2' : decide (ps.length < qs.length) = false := by simpa using h2
        have HF : Hid (withinL p.data.toList q.data.toList = decide (ps.take qs.length = qs)) := by show _ = _; rw [HR.out]; simp [h0, h1, show qs.length ≤ ps.length by omega]
        clear h0 h1
        go_wp2_with (fail)
        go_loopw [7] (SameRel w2 ps qs) (fun i _ => qs.length - (intOf i).toNat)
        case atStart => exact ⟨0, Nat.zero_le _, rfl, rfl, Kp.refl _ _⟩
        case round =>
          obtain ⟨k, hk, rfl, ht, hxr⟩ := hrel
          have HT := Lib.hid ht
          clear ht
          by_cases hlt : k < qs.length
          · have hlt2 : k < ps.length := by omega
            obtain ⟨b1, o1, rfl, _, hc1⟩ := HA.out (by omega)
            obtain ⟨b2, o2, rfl, _, hc2⟩ := HB.out (by omega)
            have hw2 := hxr
            have g1 := hw2.cell (hc1 k hlt2) (fun f => f)
            have g2 := hw2.cell (hc2 k hlt) (fun f => f)
            have k1 : (k : Int) < ps.length := by omega
            have k2 : (k : Int) < qs.length := by omega
            have hne := str_eq ps[k] qs[k]
            clear hc1 hc2
            by_cases he : ps[k] = qs[k]
            · have hne' : (ps[k].toList == qs[k].toList) = true := by rw [hne]; simp [he]
              have HE := Lib.hid he
              clear he hne
              go_wp2_with (fail)
              go_quiet (fail)
              go_wp2_with (fail)
              go_light
              exact ⟨⟨k + 1, by omega, by go_num, take_step HT.out hlt2 hlt HE.out, hxr.drewN _⟩, by simp [intOf]; omega⟩
            · have hne' : (ps[k].toList == qs[k].toList) = false := by rw [hne]; simp [he]
              have HE : Hid (decide (ps.take qs.length = qs) = false) := by
                show _ = false
                rw [decide_eq_false_iff_not]; intro e; apply he; have := congrArg (·[k]?) e; simp [hlt, hlt2] at this; exact this
              clear he hne
              go_wp2_with (fail)
              go_quiet (fail)
              go_wp2_with (fail)
              go_ret
              go_light
              exact ⟨ret_bool (by rw [HF.out, HE.out]), hx.ext (hxr.drewN _)⟩
          · have HE : Hid (decide (ps.take qs.length = qs) = true) := by
              show _ = true
              have h1 := HT.out
              rw [show k = qs.length by omega, List.take_length] at h1
              exact decide_eq_true h1
            go_wp2_with (fail)
            go_ret
            go_light
            exact ⟨ret_bool (by rw [HF.out, HE.out]), hx.ext hxr⟩
end Go.Proofs.YtpiejhfmokmaaaaDoor
