/- Walk of package aviarylaw1: PathSays. -/
import Derived.Test.YtpiejhfmokmaaaaDoorAvLaw1B
namespace Go.Proofs.YtpiejhfmokmaaaaDoor
open Go.RowKit Av

theorem rgoodC (p : ByteArray) (w : World) (hp : p.size ≤ 1000000) (b : Bool) (hb : goodL p.data.toList = b) : Calls Tryd.prog 15 #[.string p] w fun e w' => e = .returned (.bool b) ∧ Ext w w' := by subst hb; exact refGood_any p w (by unfold maxLen; omega)
theorem rparentC (p : ByteArray) (w : World) (hp : p.size ≤ 1000000) (s : ByteArray) (b : Bool) (hs : optS (parentL p.data.toList) = s) (hb : (parentL p.data.toList).isSome = b) : Calls Tryd.prog 11 #[.string p] w fun e w' => e = .returned (.tuple #[.string s, .bool b]) ∧ Ext w w' := by subst hb hs; exact refParent_any p w (by unfold maxLen; omega)
theorem rnumberC (p : ByteArray) (n : Int) (w : World) (hp : p.size ≤ 1000000) (s : ByteArray) (b : Bool) (hs : optS (numberL p.data.toList n) = s) (hb : (numberL p.data.toList n).isSome = b) :
    Calls Tryd.prog 13 #[.string p, .int .i64 n] w fun e w' => e = .returned (.tuple #[.string s, .bool b]) ∧ Ext w w' := by subst hs hb; exact refNumber_any p n w (by unfold maxLen; omega)
theorem rnameC (p : ByteArray) (w : World) (hp : p.size ≤ 1000000) : Calls Tryd.prog 20 #[.string p] w fun e w' => e = .returned (.string (lastS p)) ∧ Ext w w' := refName_any p w (by unfold maxLen; omega)
theorem rtopC (p : ByteArray) (w : World) (hp : p.size ≤ 1000000) : Calls Tryd.prog 22 #[.string p] w fun e w' => e = .returned (.string (topS p)) ∧ Ext w w' := refTop_any p w (by unfold maxLen; omega)
theorem rwithinC (p q : ByteArray) (w : World) (hp : p.size ≤ 1000000) (hq : q.size ≤ 1000000) (b : Bool) (hb : withinL p.data.toList q.data.toList = b) : Calls Tryd.prog 24 #[.string p, .string q] w fun e w' => e = .returned (.bool b) ∧ Ext w w' := by subst hb; exact refWithin_any p q w (by unfold maxLen; omega) (by unfold maxLen; omega)
theorem partsV (p : ByteArray) (w : World) (hG : GL w) (hp : p.size ≤ 1000000) : Calls Tryd.prog 17 #[.string p] w fun e w' => ∃ v ps, e = .returned v ∧ ps.map (·.data.toList) = partsL p.data.toList ∧ Strs w' v ps ∧ Ext w w' :=
  (Parts_any p w hG (by unfold maxLen; omega)).mono fun _ _ ⟨v, ps, h1, h2, h3, h4⟩ => ⟨v, ps, h1, h2, h3, h4⟩
theorem rpartsV (p : ByteArray) (w : World) (hp : p.size ≤ 1000000) : Calls Tryd.prog 18 #[.string p] w fun e w' => ∃ v ps, e = .returned v ∧ ps.map (·.data.toList) = partsL p.data.toList ∧ Strs w' v ps ∧ Ext w w' :=
  (refParts_any p w (by unfold maxLen; omega)).mono fun _ _ ⟨v, ps, h1, h2, h3, h4⟩ => ⟨v, ps, h1, h2, h3, h4⟩
theorem sameC (va vb : Value) (xs ys : List ByteArray) (w : World) (ha : Strs w va xs) (hb : Strs w vb ys) (h : xs.map (·.data.toList) = ys.map (·.data.toList)) :
    Calls Tryd.prog 16 #[va, vb] w fun e w' => e = .returned (.bool true) ∧ Ext w w' := by
  have := refSame_any va vb xs ys w ha hb
  rwa [decide_eq_true (map_inj.1 h)] at this

set_option maxHeartbeats 1600000 in
theorem pathSays_any (p q : ByteArray) (n : Int) (w : World) (hG : GT w) : Calls Tryd.prog 3 #[.string p, .string q, .int .i64 n] w (LawOK w) := by
  by_cases lp : p.size ≤ 400
  · by_cases lq : q.size ≤ 400
    · obtain ⟨s, hs⟩ : ∃ s, optS (parentL p.data.toList) = s := ⟨_, rfl⟩
      obtain ⟨b, hb⟩ : ∃ s, (parentL p.data.toList).isSome = s := ⟨_, rfl⟩
      obtain ⟨t, ht⟩ : ∃ s, optS (numberL p.data.toList n) = s := ⟨_, rfl⟩
      obtain ⟨g, hg⟩ : ∃ s, goodL p.data.toList = s := ⟨_, rfl⟩
      obtain ⟨i, hi⟩ : ∃ s, withinL p.data.toList q.data.toList = s := ⟨_, rfl⟩
      have S := Lib.hid hs
      clear hs
      have B := Lib.hid hb
      clear hb
      have T := Lib.hid ht
      clear ht
      have G := Lib.hid hg
      clear hg
      have I := Lib.hid hi
      clear hi
      cases hn : numberL p.data.toList n
      all_goals
        first
        | (have N1 : Hid (errI (numberL p.data.toList n) = 1) := (by show _ = _; rw [hn]; rfl)
           have N2 : Hid ((numberL p.data.toList n).isSome = false) := (by show _ = _; rw [hn]; rfl))
        | (have N1 : Hid (errI (numberL p.data.toList n) = 0) := (by show _ = _; rw [hn]; rfl)
           have N2 : Hid ((numberL p.data.toList n).isSome = true) := (by show _ = _; rw [hn]; rfl))
        clear hn
        go_enter Tryd.func3, Tryd.ntmps3
        go_wp2_with (fail)
        refine (awake_any w hG).mono ?_
        rintro e w1 ⟨rfl, hx1⟩
        go_wp2_with (fail)
        refine (parentC p w1 (hG.ext hx1).gl (by omega) s b S.out B.out).mono ?_
        rintro e w2 ⟨rfl, hx2⟩
        have h2 := hx1.ext hx2
        go_wp2_with (fail)
        refine (rparentC p w2 (by omega) s b S.out B.out).mono ?_
        rintro e w3 ⟨rfl, hx3⟩
        have h3 := h2.ext hx3
        go_wp2_with (fail)
        refine (numberC p n w3 (hG.ext h3) (by omega) t _ T.out N1.out).mono ?_
        rintro e w4 ⟨rfl, hx4⟩
        have h4 := h3.ext hx4
        go_wp2_with (fail)
        refine (rnumberC p n w4 (by omega) t _ T.out N2.out).mono ?_
        rintro e w5 ⟨rfl, hx5⟩
        have h5 := h4.ext hx5
        go_wp2_with (fail)
        refine (goodC p w5 (hG.ext h5).gl (by omega) g G.out).mono ?_
        rintro e w6 ⟨rfl, hx6⟩
        have h6 := h5.ext hx6
        go_wp2_with (fail)
        refine (rgoodC p w6 (by omega) g G.out).mono ?_
        rintro e w7 ⟨rfl, hx7⟩
        have h7 := h6.ext hx7
        go_wp2_with (fail)
        refine (partsV p w7 (hG.ext h7).gl (by omega)).mono ?_
        rintro e w8 ⟨v8, ps8, rfl, hp8, hs8, hx8⟩
        have h8 := h7.ext hx8
        have P8 := Lib.hid hp8
        clear hp8
        have S8 := Lib.hid hs8
        clear hs8
        go_wp2_with (fail)
        refine (rpartsV p w8 (by omega)).mono ?_
        rintro e w9 ⟨v9, ps9, rfl, hp9, hs9, hx9⟩
        have h9 := h8.ext hx9
        have P9 := Lib.hid hp9
        clear hp9
        have S9 := Lib.hid hs9
        clear hs9
        go_wp2_with (fail)
        refine (sameC v8 v9 ps8 ps9 w9 (S8.out.ext hx9) S9.out (P8.out.trans P9.out.symm)).mono ?_
        rintro e w10 ⟨rfl, hx10⟩
        have h10 := h9.ext hx10
        go_wp2_with (fail)
        refine (nameC p w10 (hG.ext h10).gl (by omega)).mono ?_
        rintro e w11 ⟨rfl, hx11⟩
        have h11 := h10.ext hx11
        go_wp2_with (fail)
        refine (rnameC p w11 (by omega)).mono ?_
        rintro e w12 ⟨rfl, hx12⟩
        have h12 := h11.ext hx12
        go_wp2_with (fail)
        refine (topC p w12 (hG.ext h12).gl (by omega)).mono ?_
        rintro e w13 ⟨rfl, hx13⟩
        have h13 := h12.ext hx13
        go_wp2_with (fail)
        refine (rtopC p w13 (by omega)).mono ?_
        rintro e w14 ⟨rfl, hx14⟩
        have h14 := h13.ext hx14
        go_wp2_with (fail)
        refine (withinC p q w14 (hG.ext h14).gl (by omega) (by omega) i I.out).mono ?_
        rintro e w15 ⟨rfl, hx15⟩
        have h15 := h14.ext hx15
        go_wp2_with (fail)
        refine (rwithinC p q w15 (by omega) (by omega) i I.out).mono ?_
        rintro e w16 ⟨rfl, hx16⟩
        go_wp2_with (fail)
        go_ret
        go_light
        exact ⟨rfl, h15.ext hx16⟩
    · go_enter Tryd.func3, Tryd.ntmps3
      go_wp2_with (fail)
      refine (awake_any w hG).mono ?_
      rintro e w1 ⟨rfl, hx1⟩
      go_wp2_with (fail)
      go_ret
      go_light
      exact ⟨rfl, hx1⟩
  · go_enter Tryd.func3, Tryd.ntmps3
    go_wp2_with (fail)
    refine (awake_any w hG).mono ?_
    rintro e w1 ⟨rfl, hx1⟩
    go_wp2_with (fail)
    go_ret
    go_light
    exact ⟨rfl, hx1⟩
end Go.Proofs.YtpiejhfmokmaaaaDoor
