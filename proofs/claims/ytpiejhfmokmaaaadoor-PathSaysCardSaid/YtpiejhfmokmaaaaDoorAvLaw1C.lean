/- Walk of package aviarylaw1: PathUnder. -/
import Derived.Test.YtpiejhfmokmaaaaDoorAvLaw1B
namespace Go.Proofs.YtpiejhfmokmaaaaDoor
open Go.RowKit Av

/-- The loop goes up: so many names are left. -/
def UnderRel (w : World) (p : ByteArray) (n a o : Value) (wr : World) : Prop :=
  ∃ j k : Nat, 1 ≤ j ∧ j ≤ (partsL p.data.toList).length ∧ k + j = (partsL p.data.toList).length + 1 ∧ n = .int .i64 k ∧
    ((2 ≤ j ∧ o = .bool true ∧ a = .string ⟨(anc p.data.toList (j - 1)).toArray⟩) ∨ (j = 1 ∧ o = .bool false)) ∧ Ext w wr
theorem anc_next {p : Bs} (h : goodL p = true) {j : Nat} (h1 : 1 ≤ j) (h2 : j ≤ (partsL p).length) :
    (2 ≤ j ∧ (parentL (anc p j)).isSome = true ∧ optS (parentL (anc p j)) = ⟨(anc p (j - 1)).toArray⟩) ∨ (j = 1 ∧ (parentL (anc p j)).isSome = false) := by
  rw [anc_parent h h1 h2]
  by_cases hj : j < 2
  · right; exact ⟨by omega, by simp [hj]⟩
  · left; exact ⟨by omega, by simp [hj], by simp [hj, optS]⟩
theorem UnderRel.go {w wr : World} {p : ByteArray} (h : goodL p.data.toList = true) {j k : Nat} (h1 : 1 ≤ j) (h2 : j ≤ (partsL p.data.toList).length) (hk : k + j = (partsL p.data.toList).length + 1) (hx : Ext w wr)
    {s : ByteArray} {b : Bool} (hs : optS (parentL (anc p.data.toList j)) = s) (hb : (parentL (anc p.data.toList j)).isSome = b) : UnderRel w p (.int .i64 k) (.string s) (.bool b) wr := by
  refine ⟨j, k, h1, h2, hk, rfl, ?_, hx⟩
  rcases anc_next h h1 h2 with ⟨c1, c2, c3⟩ | ⟨c1, c2⟩
  · left; exact ⟨c1, by rw [← hb, c2], by rw [← hs, c3]⟩
  · right; exact ⟨c1, by rw [← hb, c2]⟩

set_option maxHeartbeats 1600000 in
theorem pathUnder_any (p q : ByteArray) (w : World) (hG : GT w) : Calls Tryd.prog 4 #[.string p, .string q] w (LawOK w) := by
  go_enter Tryd.func4, Tryd.ntmps4
  go_wp2_with (fail)
  refine (awake_any w hG).mono ?_
  rintro e w1 ⟨rfl, hx1⟩
  by_cases lp : p.size ≤ 400
  · by_cases lq : q.size ≤ 400
    · cases g1 : goodL p.data.toList with
      | false =>
        go_wp2_with (fail)
        refine (goodC p w1 (hG.ext hx1).gl (by omega) false g1).mono ?_
        rintro e w2 ⟨rfl, hx2⟩
        clear g1
        go_wp2_with (fail)
        go_ret
        go_light
        exact ⟨rfl, hx1.ext hx2⟩
      | true =>
        go_wp2_with (fail)
        refine (goodC p w1 (hG.ext hx1).gl (by omega) true g1).mono ?_
        rintro e w2 ⟨rfl, hx2⟩
        have G1 := Lib.hid g1
        clear g1
        have h2 := hx1.ext hx2
        cases g2 : goodL q.data.toList with
        | false =>
          go_wp2_with (fail)
          refine (goodC q w2 (hG.ext h2).gl (by omega) false g2).mono ?_
          rintro e w3 ⟨rfl, hx3⟩
          clear g2
          go_wp2_with (fail)
          go_ret
          go_light
          exact ⟨rfl, h2.ext hx3⟩
        | true =>
          go_wp2_with (fail)
          refine (goodC q w2 (hG.ext h2).gl (by omega) true g2).mono ?_
          rintro e w3 ⟨rfl, hx3⟩
          have G2 := Lib.hid g2
          clear g2
          have h3 := h2.ext hx3
          have hL : 1 ≤ (partsL p.data.toList).length := List.length_pos_iff.2 ((good_iff_parts _).1 G1.out)
          have hL8 := parts_len p.data.toList
          obtain ⟨s0, hs0⟩ : ∃ s, optS (parentL p.data.toList) = s := ⟨_, rfl⟩
          obtain ⟨b0, hb0⟩ : ∃ s, (parentL p.data.toList).isSome = s := ⟨_, rfl⟩
          have S0 := Lib.hid hs0
          clear hs0
          have B0 := Lib.hid hb0
          clear hb0
          go_wp2_with (fail)
          refine (parentC p w3 (hG.ext h3).gl (by omega) s0 b0 S0.out B0.out).mono ?_
          rintro e w4 ⟨rfl, hx4⟩
          have h4 := h3.ext hx4
          go_wp2_with (fail)
          go_loopw [5, 6, 7] (UnderRel w p) (fun n _ _ _ => 9 - (intOf n).toNat)
          case atStart =>
            refine UnderRel.go G1.out hL (Nat.le_refl _) (k := 1) (by omega) h4 ?_ ?_
            · rw [anc_all G1.out]; exact S0.out
            · rw [anc_all G1.out]; exact B0.out
          case round =>
            clear h2 h3 h4 hx1 hx2 hx3 hx4 S0 B0
            obtain ⟨j, k, hj1, hj2, hkj, rfl, hcase, hx⟩ := hrel
            rcases hcase with ⟨hj, rfl, rfl⟩ | ⟨rfl, rfl⟩
            · have hk8 : k ≤ 7 := by omega
              obtain ⟨A, hA⟩ : ∃ A : ByteArray, A = ⟨(anc p.data.toList (j - 1)).toArray⟩ := ⟨_, rfl⟩
              have hAl : A.data.toList = anc p.data.toList (j - 1) := by rw [hA]
              rw [← hA]
              have hAg : goodL A.data.toList = true := by rw [hAl]; exact (anc_good G1.out (by omega) (by omega)).1
              have hAs : A.size ≤ 200 := path_small A hAg
              have W1 : Hid (withinL p.data.toList A.data.toList = true) := by show _ = _; rw [hAl]; exact anc_within G1.out (by omega) (by omega)
              have W2 : Hid (withinL A.data.toList p.data.toList = false) := by show _ = _; rw [hAl]; exact anc_not G1.out (by omega) (by omega)
              have T1 : Hid (topL A.data.toList = (topS p).data.toList) := by show _ = _; rw [hAl, anc_top G1.out (by omega) (by omega)]; simp [topS]
              obtain ⟨s1, hs1⟩ : ∃ s, optS (parentL A.data.toList) = s := ⟨_, rfl⟩
              obtain ⟨b1, hb1⟩ : ∃ s, (parentL A.data.toList).isSome = s := ⟨_, rfl⟩
              have S1 := Lib.hid hs1
              have B1 := Lib.hid hb1
              rw [hAl] at hs1 hb1
              have S2 := Lib.hid hs1
              clear hs1
              have B2 := Lib.hid hb1
              clear hb1
              clear hA hAl hAg
              go_wp2_with (fail)
              refine (withinC p A wr (hG.ext hx).gl (by omega) (by omega) true W1.out).mono ?_
              rintro e w5 ⟨rfl, hx5⟩
              have h5 := hx.ext hx5
              go_wp2_with (fail)
              refine (withinC A p w5 (hG.ext h5).gl (by omega) (by omega) false W2.out).mono ?_
              rintro e w6 ⟨rfl, hx6⟩
              have h6 := h5.ext hx6
              go_wp2_with (fail)
              refine (topE A w6 (hG.ext h6).gl (by omega) (topS p) T1.out).mono ?_
              rintro e w7 ⟨rfl, hx7⟩
              have h7 := h6.ext hx7
              go_wp2_with (fail)
              refine (topC p w7 (hG.ext h7).gl (by omega)).mono ?_
              rintro e w8 ⟨rfl, hx8⟩
              have h8 := h7.ext hx8
              go_wp2_with (fail)
              refine (parentC A w8 (hG.ext h8).gl (by omega) s1 b1 S1.out B1.out).mono ?_
              rintro e w9 ⟨rfl, hx9⟩
              have h9 := h8.ext hx9
              go_wp2_with (fail)
              go_light
              exact ⟨UnderRel.go (k := k + 1) G1.out (by omega) (by omega) (by omega) h9 S2.out B2.out, by simp [intOf]; omega⟩
            · obtain rfl : k = (partsL p.data.toList).length := by omega
              go_wp2_with (fail)
              refine (partsC p wr (hG.ext hx).gl (by omega)).mono ?_
              rintro e w5 ⟨a5, c5, rfl, hx5⟩
              have h5 := hx.ext hx5
              have hb := within_both G1.out G2.out
              have X2 : ∀ wx, (Op.stringOp .add ⟨#[47]⟩ (topS p)).run Tryd.prog wx = .ok (.string ⟨(anc p.data.toList 1).toArray⟩) wx := fun wx => by
                have hts : (topS p).size ≤ 200 := by
                  have h1 := anc_one G1.out
                  have h2 := anc_good G1.out (j := 1) (by omega) (by omega)
                  have h3 := (good_len _ h2.1).2
                  rw [h1] at h3
                  simp only [List.length_cons] at h3
                  rw [Lib.size_eq]; simp [topS]; omega
                rw [run_string_add_sum (P := Tryd.prog) wx _ _ (by have : (⟨#[47]⟩ : ByteArray).size = 1 := rfl; omega), anc_one G1.out]
                rw [show (⟨#[47]⟩ : ByteArray) = ⟨[47].toArray⟩ from rfl]; unfold topS; rw [bytes_append]; rfl
              obtain ⟨A, hA⟩ : ∃ A : ByteArray, A = ⟨(anc p.data.toList 1).toArray⟩ := ⟨_, rfl⟩
              have hAl : A.data.toList = anc p.data.toList 1 := by rw [hA]
              rw [← hA] at X2
              have hAg : goodL A.data.toList = true := by rw [hAl]; exact (anc_good G1.out (by omega) (by omega)).1
              have hAs : A.size ≤ 200 := path_small A hAg
              have W1 : Hid (withinL p.data.toList A.data.toList = true) := by show _ = _; rw [hAl]; exact anc_within G1.out (by omega) (by omega)
              have hpq : decide (p.data.toList = q.data.toList) = (p.toList == q.toList) := by
                rw [str_eq]
                exact decide_eq_decide.2 ⟨bytes_eq, fun e => by rw [e]⟩
              rw [hpq] at hb
              obtain ⟨b1, hb1⟩ : ∃ b, withinL p.data.toList q.data.toList = b := ⟨_, rfl⟩
              obtain ⟨b2, hb2⟩ : ∃ b, withinL q.data.toList p.data.toList = b := ⟨_, rfl⟩
              rw [hb1, hb2] at hb
              have B1 := Lib.hid hb1
              clear hb1
              have B2 := Lib.hid hb2
              clear hb2
              clear hA hAl hAg hpq
              cases b1 with
              | false =>
                have hb' : (p.toList == q.toList) = false := by rw [← hb]; rfl
                clear hb
                go_wp2_with (fail)
                refine (withinC p q w5 (hG.ext h5).gl (by omega) (by omega) false B1.out).mono ?_
                rintro e w6 ⟨rfl, hx6⟩
                have h6 := h5.ext hx6
                go_wp2_with (fail)
                refine (topC p w6 (hG.ext h6).gl (by omega)).mono ?_
                rintro e w7 ⟨rfl, hx7⟩
                have h7 := h6.ext hx7
                go_wp2_with (fail)
                refine (withinC p A w7 (hG.ext h7).gl (by omega) (by omega) true W1.out).mono ?_
                rintro e w8 ⟨rfl, hx8⟩
                go_wp2_with (fail)
                go_ret
                go_light
                exact ⟨rfl, h7.ext hx8⟩
              | true =>
                have hb' : (p.toList == q.toList) = b2 := by rw [← hb]; simp
                clear hb
                go_wp2_with (fail)
                refine (withinC p q w5 (hG.ext h5).gl (by omega) (by omega) true B1.out).mono ?_
                rintro e w6 ⟨rfl, hx6⟩
                have h6 := h5.ext hx6
                go_wp2_with (fail)
                refine (withinC q p w6 (hG.ext h6).gl (by omega) (by omega) b2 B2.out).mono ?_
                rintro e w7 ⟨rfl, hx7⟩
                have h7 := h6.ext hx7
                go_wp2_with (fail)
                refine (topC p w7 (hG.ext h7).gl (by omega)).mono ?_
                rintro e w8 ⟨rfl, hx8⟩
                have h8 := h7.ext hx8
                go_wp2_with (fail)
                refine (withinC p A w8 (hG.ext h8).gl (by omega) (by omega) true W1.out).mono ?_
                rintro e w9 ⟨rfl, hx9⟩
                go_wp2_with (fail)
                go_ret
                go_light
                exact ⟨rfl, h8.ext hx9⟩
    · go_wp2_with (fail)
      go_ret
      go_light
      exact ⟨rfl, hx1⟩
  · go_wp2_with (fail)
    go_ret
    go_light
    exact ⟨rfl, hx1⟩
end Go.Proofs.YtpiejhfmokmaaaaDoor
