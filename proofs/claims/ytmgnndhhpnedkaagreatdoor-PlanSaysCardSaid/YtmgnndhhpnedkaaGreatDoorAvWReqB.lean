/- Walks over requests: Equal, Same, the reference's May and Same, great, rq. -/
import Derived.Test.YtmgnndhhpnedkaaGreatDoorAvWReq
import Derived.Test.YtmgnndhhpnedkaaGreatDoorAvWOpC
import Derived.Laws.StructEq
import Derived.Deep.QuietTactic
import Derived.BigQuiet
namespace Go.Proofs.YtmgnndhhpnedkaaGreatDoor
set_option maxRecDepth 100000
open Go.RowKit Av

/-- '!=' on ops. -/
theorem op_neq (x y : OpV) (w : World) : (binOp .neq 59 x.val y.val).run Tryz.prog w = .ok (.bool (!decide (x = y))) w := by
  have u3 := Tryz.underlying3
  have u9 := Tryz.underlying9
  have hS : Tryz.prog.underlying 59 = some (.struct (Tryz.prog.fieldsOf 59)) := by kernel_rfl
  have hp : Tryz.prog.stoodInHeld 59 = false := by kernel_rfl
  obtain ⟨k, p, d, v, f⟩ := x
  obtain ⟨k', p', d', v', f'⟩ := y
  unfold OpV.val
  rw [run_neq_struct, show (10000 : Nat) = 9999 + 1 from rfl, run_equalIn_agg w 9999 59 _ _ hS hp]
  simp only [Program.fieldsOf, Tryz.underlying59]
  have e1 := str_eq p p'
  have e2 := str_eq d d'
  go_simp
  by_cases h1 : k = k' <;> by_cases h2 : p = p' <;> by_cases h3 : d = d' <;> by_cases h4 : v = v' <;> by_cases h5 : f = f' <;> simp [h1, h2, h3, h4, h5]

theorem op_guard : Tryz.prog.eqGuardType Tryz.prog.depth 59 = false := by kernel_rfl
/-- Behind k rounds of a loop that holds two lists against each other. -/
def SameRelO (w : World) (xs ys : List OpV) (i : Value) (wr : World) : Prop :=
  ∃ k : Nat, k ≤ ys.length ∧ i = .int .i64 k ∧ xs.take k = ys.take k ∧ Ext w wr
theorem take_stepO {α : Type} {a b : List α} {k : Nat} (h : a.take k = b.take k) (ha : k < a.length) (hb : k < b.length) (e : a[k] = b[k]) : a.take (k + 1) = b.take (k + 1) := by
  rw [List.take_succ_eq_append_getElem ha, List.take_succ_eq_append_getElem hb, h, e]

set_option maxHeartbeats 1600000 in
theorem opsEqual_any (va vb : Value) (xs ys : List OpV) (w : World) (ha : OpsAt w va xs) (hb : OpsAt w vb ys) :
    Calls Tryz.prog 41 #[va, vb] w fun e w' => e = .returned (.bool (decide (xs = ys))) ∧ Ext w w' := by
  have hgd := op_guard
  obtain ⟨aa, ca, rfl, hca, hma, hoa⟩ := OpsAt.open ha
  obtain ⟨ab, cb, rfl, hcb, hmb, hob⟩ := OpsAt.open hb
  unfold maxLen at hma hmb
  have HA := Lib.hid hoa
  have HB := Lib.hid hob
  clear ha hb hoa hob
  by_cases hl : xs.length = ys.length
  · have hl' : ((xs.length : Int) == ys.length) = true := by rw [beq_iff_eq]; omega
    have HL := Lib.hid hl
    have hl2 : xs.length ≤ ys.length := by omega
    clear hl
    go_enter Tryz.func41, Tryz.ntmps41
    go_wp2_with (fail)
    go_loopw [13] (SameRelO w xs ys) (fun i _ => xs.length - (intOf i).toNat)
    case atStart => exact ⟨0, Nat.zero_le _, rfl, rfl, Kp.refl _ _⟩
    case round =>
      obtain ⟨k, hk, rfl, ht, hx⟩ := hrel
      have HT := Lib.hid ht
      clear ht
      by_cases hlt : k < xs.length
      · have hlt2 : k < ys.length := by omega
        obtain ⟨b1, o1, rfl, _, hc1⟩ := HA.out (by omega)
        obtain ⟨b2, o2, rfl, _, hc2⟩ := HB.out (by omega)
        obtain ⟨p0, p1, p2, p3, p4⟩ := hc1 k hlt
        obtain ⟨q0, q1, q2, q3, q4⟩ := hc2 k hlt2
        have a0 := hx.cell p0 (fun f => f)
        have a1 := hx.cell p1 (fun f => f)
        have a2 := hx.cell p2 (fun f => f)
        have a3 := hx.cell p3 (fun f => f)
        have a4 := hx.cell p4 (fun f => f)
        have b0 := hx.cell q0 (fun f => f)
        have b1 := hx.cell q1 (fun f => f)
        have b2 := hx.cell q2 (fun f => f)
        have b3 := hx.cell q3 (fun f => f)
        have b4 := hx.cell q4 (fun f => f)
        have k1 : (k : Int) < xs.length := by omega
        have k2 : (k : Int) < ys.length := by omega
        have hne := op_neq xs[k] ys[k]
        unfold OpV.val at hne
        clear hc1 hc2 p0 p1 p2 p3 p4 q0 q1 q2 q3 q4
        by_cases he : xs[k] = ys[k]
        · rw [decide_eq_true he] at hne
          have HE := Lib.hid he
          clear he
          go_wp2_with (fail)
          go_quiet (fail)
          go_wp2_with (fail)
          go_light
          exact ⟨⟨k + 1, by omega, by go_num, take_stepO HT.out hlt hlt2 HE.out, hx.drewN _⟩, by simp [intOf]; omega⟩
        · have HR : Hid (decide (xs = ys) = false) := by
            show _ = false
            rw [decide_eq_false_iff_not]; rintro rfl; exact he rfl
          rw [decide_eq_false he] at hne
          clear he
          go_wp2_with (fail)
          go_quiet (fail)
          go_wp2_with (fail)
          go_ret
          go_light
          exact ⟨ret_bool HR.out.symm, hx.drewN _⟩
      · have HR : Hid (decide (xs = ys) = true) := by
          show _ = true
          have h1 := HT.out
          have h2 := HL.out
          rw [List.take_of_length_le (by omega), List.take_of_length_le (by omega)] at h1
          exact decide_eq_true h1
        go_wp2_with (fail)
        go_ret
        go_light
        exact ⟨ret_bool HR.out.symm, hx⟩
  · have hl' : ((xs.length : Int) == ys.length) = false := by rw [beq_eq_false_iff_ne]; omega
    have HR : Hid (decide (xs = ys) = false) := by
      show _ = false
      rw [decide_eq_false_iff_not]; rintro rfl; exact hl rfl
    have hl'' : ¬ (xs.length : Int) = ys.length := by omega
    clear hl
    go_enter Tryz.func41, Tryz.ntmps41
    go_wp2_with (fail)
    go_ret
    go_light
    exact ⟨ret_bool HR.out.symm, Kp.refl _ _⟩

/-- Are two requests one? -/
def sameR (s n : Int) (xs : List OpV) (s' n' : Int) (ys : List OpV) : Bool := decide (s = s') && (decide (n = n') && decide (xs = ys))
/-- Two boxes, one behind the other. -/
theorem req_cells2 {w W : World} {s n s' n' : Int} {v v' : Value} {T : TypeId} (h : Ext ((w.alloc (.cells #[.int .i64 s, .int .i64 n, v] T)).alloc (.cells #[.int .i64 s', .int .i64 n', v'] T)) W) :
    (W.cell? ⟨w.heap.size, 0, none⟩ = some (.int .i64 s) ∧ W.cell? ⟨w.heap.size, 1, none⟩ = some (.int .i64 n) ∧ W.cell? ⟨w.heap.size, 2, none⟩ = some v) ∧
    (W.cell? ⟨w.heap.size + 1, 0, none⟩ = some (.int .i64 s') ∧ W.cell? ⟨w.heap.size + 1, 1, none⟩ = some (.int .i64 n') ∧ W.cell? ⟨w.heap.size + 1, 2, none⟩ = some v') := by
  refine ⟨⟨?_, ?_, ?_⟩, ⟨?_, ?_, ?_⟩⟩ <;> exact h.cell (by simp) (fun f => f)

set_option maxHeartbeats 800000 in
theorem opSame_any (s n s' n' : Int) (va vb : Value) (xs ys : List OpV) (w : World) (ha : OpsAt w va xs) (hb : OpsAt w vb ys) :
    Calls Tryz.prog 22 #[.agg #[.int .i64 s, .int .i64 n, va], .agg #[.int .i64 s', .int .i64 n', vb]] w fun e w' => e = .returned (.bool (sameR s n xs s' n' ys)) ∧ Ext w w' := by
  have hE : Ext w ((w.alloc (.cells #[.int .i64 s, .int .i64 n, va] 25)).alloc (.cells #[.int .i64 s', .int .i64 n', vb] 25)) := ((Kp.refl _ _).alloc _).alloc _
  have HC := Lib.hid (opsEqual_any va vb xs ys _ (ha.ext hE) (hb.ext hE))
  have HE := Lib.hid hE
  obtain ⟨aa, ca, rfl, _, _, _⟩ := OpsAt.open ha
  obtain ⟨ab, cb, rfl, _, _, _⟩ := OpsAt.open hb
  obtain ⟨b, hbb⟩ : ∃ b, decide (xs = ys) = b := ⟨_, rfl⟩
  have HF : Hid (sameR s n xs s' n' ys = (decide (s = s') && (decide (n = n') && b))) := by show _ = _; unfold sameR; rw [hbb]
  rw [hbb] at HC
  clear ha hb hE hbb
  by_cases h1 : s = s'
  · subst h1
    by_cases h2 : n = n'
    · subst h2
      go_enter Tryz.func22, Tryz.ntmps22
      go_wp2_with (fail)
      refine (HC.out).mono ?_
      rintro e w1 ⟨rfl, hx1⟩
      go_wp2_with (fail)
      go_ret
      go_light
      exact ⟨ret_bool (by rw [HF.out]; simp), HE.out.ext hx1⟩
    · have h2' : (n == n') = false := by rw [beq_eq_false_iff_ne]; exact h2
      have H2 := Lib.hid h2
      clear h2
      go_enter Tryz.func22, Tryz.ntmps22
      go_wp2_with (fail)
      go_ret
      go_light
      exact ⟨ret_bool (by rw [HF.out, decide_eq_false H2.out]; simp), HE.out⟩
  · have h1' : (s == s') = false := by rw [beq_eq_false_iff_ne]; exact h1
    have H1 := Lib.hid h1
    clear h1
    go_enter Tryz.func22, Tryz.ntmps22
    go_wp2_with (fail)
    go_ret
    go_light
    exact ⟨ret_bool (by rw [HF.out, decide_eq_false H1.out]; simp), HE.out⟩

end Go.Proofs.YtmgnndhhpnedkaaGreatDoor
