/- Walks of package aviaryref1: Name, Within, Same, Digits, Number. -/
import Derived.Test.YtmgnndhhpnedkaaGreatDoorAvWPathC
import Derived.Deep.QuietTactic
import Derived.BigQuiet
import Derived.Deep.RegionWith
namespace Go.Proofs.YtmgnndhhpnedkaaGreatDoor
set_option maxRecDepth 100000
open Go.RowKit Av
theorem str_ne (a b : ByteArray) : (a.toList != b.toList) = !decide (a = b) := by rw [bne, str_eq]
theorem take_step {α : Type} {a b : List α} {k : Nat} (h : a.take k = b.take k) (ha : k < a.length) (hb : k < b.length) (e : a[k] = b[k]) : a.take (k + 1) = b.take (k + 1) := by
  rw [List.take_succ_eq_append_getElem ha, List.take_succ_eq_append_getElem hb, h, e]
theorem map_inj {a b : List ByteArray} : a.map (·.data.toList) = b.map (·.data.toList) ↔ a = b := by
  constructor
  · intro h
    exact List.map_inj_right (fun x y e => bytes_eq e) |>.1 h
  · rintro rfl; rfl

/-- Behind k rounds of a loop that holds two slices against each other. -/
def SameRel (w : World) (xs ys : List ByteArray) (i : Value) (wr : World) : Prop :=
  ∃ k : Nat, k ≤ ys.length ∧ i = .int .i64 k ∧ xs.take k = ys.take k ∧ Ext w wr

set_option maxHeartbeats 400000 in
theorem refSame_any (va vb : Value) (xs ys : List ByteArray) (w : World) (ha : Strs w va xs) (hb : Strs w vb ys) :
    Calls Tryz.prog 53 #[va, vb] w fun e w' => e = .returned (.bool (decide (xs = ys))) ∧ Ext w w' := by
  obtain ⟨aa, ca, rfl, hca, hma, hoa⟩ := Strs.open ha
  obtain ⟨ab, cb, rfl, hcb, hmb, hob⟩ := Strs.open hb
  unfold maxLen at hma hmb
  have HA := Lib.hid hoa
  have HB := Lib.hid hob
  clear ha hb hoa hob
  by_cases hl : xs.length = ys.length
  · have hl' : ((xs.length : Int) != ys.length) = false := by rw [bne_eq_false_iff_eq]; omega
    have HL := Lib.hid hl
    clear hl
    go_enter Tryz.func53, Tryz.ntmps53
    go_wp2_with (fail)
    go_loopw [5] (SameRel w xs ys) (fun i _ => xs.length - (intOf i).toNat)
    case atStart => exact ⟨0, Nat.zero_le _, rfl, rfl, Kp.refl _ _⟩
    case round =>
      obtain ⟨k, hk, rfl, ht, hx⟩ := hrel
      have HT := Lib.hid ht
      clear ht
      by_cases hlt : k < xs.length
      · have hlt2 : k < ys.length := by rw [← HL.out]; exact hlt
        obtain ⟨b1, o1, rfl, _, hc1⟩ := HA.out (by omega)
        obtain ⟨b2, o2, rfl, _, hc2⟩ := HB.out (by omega)
        have g1 := hx.cell (hc1 k hlt) (fun f => f)
        have g2 := hx.cell (hc2 k hlt2) (fun f => f)
        have k1 : (k : Int) < xs.length := by omega
        have k2 : (k : Int) < ys.length := by omega
        have hne := str_eq xs[k] ys[k]
        clear hc1 hc2
        by_cases he : xs[k] = ys[k]
        · have hne' : (xs[k].toList == ys[k].toList) = true := by rw [hne]; simp [he]
          have HE := Lib.hid he
          clear he hne
          go_wp2_with (fail)
          go_quiet (fail)
          go_wp2_with (fail)
          go_light
          exact ⟨⟨k + 1, by omega, by go_num, take_step HT.out hlt hlt2 HE.out, hx.drewN _⟩, by simp [intOf]; omega⟩
        · have hne' : (xs[k].toList == ys[k].toList) = false := by rw [hne]; simp [he]
          have HR : Hid (decide (xs = ys) = false) := by
            show _ = false
            rw [decide_eq_false_iff_not]; rintro rfl; exact he rfl
          clear he hne
          go_wp2_with (fail)
          go_quiet (fail)
          go_wp2_with (fail)
          go_ret
          go_light
          exact ⟨ret_bool HR.out.symm, hx.drewN _⟩
      · have HR : Hid (decide (xs = ys) = true) := by
          show _ = true
          have h1 := HT.out
          have h2 := HL.out
          rw [List.take_of_length_le (by omega), List.take_of_length_le (by omega)] at h1
          exact decide_eq_true h1
        go_wp2_with (fail)
        go_ret
        go_light
        exact ⟨ret_bool HR.out.symm, hx⟩
  · have hl' : ((xs.length : Int) != ys.length) = true := by rw [bne_iff_ne]; omega
    have HR : Hid (decide (xs = ys) = false) := by
      show _ = false
      rw [decide_eq_false_iff_not]; rintro rfl; exact hl rfl
    clear hl
    go_enter Tryz.func53, Tryz.ntmps53
    go_wp2_with (fail)
    go_ret
    go_light
    exact ⟨ret_bool HR.out.symm, Kp.refl _ _⟩

theorem withinR_map {ps qs : List ByteArray} {a b : List Bs} (h1 : ps.map (·.data.toList) = a) (h2 : qs.map (·.data.toList) = b) :
    withinR a b = ((decide (ps.length ≠ 0) && (decide (qs.length ≠ 0) && decide (qs.length ≤ ps.length))) && decide (ps.take qs.length = qs)) := by
  subst h1 h2
  unfold withinR
  simp only [List.length_map, ← List.map_take]
  congr 1
  simp only [map_inj]

end Go.Proofs.YtmgnndhhpnedkaaGreatDoor
