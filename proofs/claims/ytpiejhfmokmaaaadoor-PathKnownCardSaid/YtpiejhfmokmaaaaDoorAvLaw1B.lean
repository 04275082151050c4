/- Walks of package aviarylaw1: PathDeeper, PathNumbers. -/
import Derived.Test.YtpiejhfmokmaaaaDoorAvLaw1A
namespace Go.Proofs.YtpiejhfmokmaaaaDoor
open Go.RowKit Av

theorem nameE (p : ByteArray) (w : World) (hG : GL w) (hp : p.size ≤ 1000000) (s : ByteArray) (hs : lastL p.data.toList = s.data.toList) : Calls Tryd.prog 19 #[.string p] w fun e w' => e = .returned (.string s) ∧ Ext w w' := by
  have := nameC p w hG hp
  rwa [show lastS p = s from bytes_eq (by simp [lastS, hs])] at this
theorem topE (p : ByteArray) (w : World) (hG : GL w) (hp : p.size ≤ 1000000) (s : ByteArray) (hs : topL p.data.toList = s.data.toList) : Calls Tryd.prog 21 #[.string p] w fun e w' => e = .returned (.string s) ∧ Ext w w' := by
  have := topC p w hG hp
  rwa [show topS p = s from bytes_eq (by simp [topS, hs])] at this
/-- A path's names, as a slice whose length is known. -/
theorem partsC (p : ByteArray) (w : World) (hG : GL w) (hp : p.size ≤ 1000000) : Calls Tryd.prog 17 #[.string p] w fun e w' => ∃ a c, e = .returned (.slice a (partsL p.data.toList).length c) ∧ Ext w w' := by
  refine (Parts_any p w hG (by unfold maxLen; omega)).mono ?_
  rintro e w' ⟨v, ps, rfl, hps, hst, hx⟩
  obtain ⟨a, c, rfl, _, _, _⟩ := Strs.open hst
  exact ⟨a, c, by rw [← hps, List.length_map], hx⟩
theorem optS_some (s : Bs) : optS (some s) = ⟨s.toArray⟩ := rfl

set_option maxHeartbeats 800000 in
theorem pathDeeper_any (p s : ByteArray) (w : World) (hG : GT w) : Calls Tryd.prog 6 #[.string p, .string s] w (LawOK w) := by
  go_enter Tryd.func6, Tryd.ntmps6
  go_wp2_with (fail)
  refine (awake_any w hG).mono ?_
  rintro e w1 ⟨rfl, hx1⟩
  by_cases lp : p.size ≤ 300
  · by_cases lq : s.size ≤ 100
    · cases g1 : goodL p.data.toList with
      | false =>
        go_wp2_with (fail)
        refine (goodC p w1 (hG.ext hx1).gl (by omega) false g1).mono ?_
        rintro e w2 ⟨rfl, hx2⟩
        clear g1
        go_wp2_with (fail)
        go_ret
        go_light
        exact ⟨rfl, hx1.ext hx2⟩
      | true =>
        go_wp2_with (fail)
        refine (goodC p w1 (hG.ext hx1).gl (by omega) true g1).mono ?_
        rintro e w2 ⟨rfl, hx2⟩
        have h2 := hx1.ext hx2
        obtain ⟨X, hX⟩ : ∃ X : ByteArray, X = ⟨(p.data.toList ++ [47]).toArray⟩ := ⟨_, rfl⟩
        obtain ⟨Q, hQ⟩ : ∃ Q : ByteArray, Q = ⟨(p.data.toList ++ 47 :: s.data.toList).toArray⟩ := ⟨_, rfl⟩
        have hql : Q.data.toList = p.data.toList ++ 47 :: s.data.toList := by rw [hQ]
        have c1 : ∀ wx, (Op.stringOp .add p ⟨#[47]⟩).run Tryd.prog wx = .ok (.string X) wx := fun wx => by
          rw [run_string_add_sum (P := Tryd.prog) wx _ _ (by have : (⟨#[47]⟩ : ByteArray).size = 1 := rfl; omega)]
          conv => lhs; rw [← bytes_self p]
          rw [show (⟨#[47]⟩ : ByteArray) = ⟨[47].toArray⟩ from rfl, bytes_append, hX]
        have hXs : X.size = p.size + 1 := by rw [Lib.size_eq, Lib.size_eq, hX]; simp
        have hQs : Q.size ≤ 500 := by rw [Lib.size_eq, hql]; rw [Lib.size_eq] at lp lq; simp; omega
        have c2 : ∀ wx, (Op.stringOp .add X s).run Tryd.prog wx = .ok (.string Q) wx := fun wx => by
          rw [run_string_add_sum (P := Tryd.prog) wx _ _ (by omega), hX, hQ]
          conv => lhs; rw [← bytes_self s]
          rw [bytes_append]; simp
        have G1 := Lib.hid g1
        clear g1
        have QL := Lib.hid hql
        clear hql
        clear hX hQ hXs
        cases g2 : goodL Q.data.toList with
        | false =>
          go_wp2_with (fail)
          refine (goodC Q w2 (hG.ext h2).gl (by omega) false g2).mono ?_
          rintro e w3 ⟨rfl, hx3⟩
          clear g2
          go_wp2_with (fail)
          go_ret
          go_light
          exact ⟨rfl, h2.ext hx3⟩
        | true =>
          go_wp2_with (fail)
          refine (goodC Q w2 (hG.ext h2).gl (by omega) true g2).mono ?_
          rintro e w3 ⟨rfl, hx3⟩
          have h3 := h2.ext hx3
          obtain ⟨l1, l2, l3, l4⟩ := deeper_law G1.out (by rw [← QL.out]; exact g2)
          rw [← QL.out] at l1 l2 l3 l4
          have L2 := Lib.hid l2
          have L3 := Lib.hid l3
          have L4 := Lib.hid l4
          have l5 := parts_len p.data.toList
          have l6 := parts_len Q.data.toList
          clear l2 l3 l4 g2
          obtain ⟨s1, hs1⟩ : ∃ s, optS (parentL Q.data.toList) = s := ⟨_, rfl⟩
          obtain ⟨b1, hb1⟩ : ∃ s, (parentL Q.data.toList).isSome = s := ⟨_, rfl⟩
          have S1 := Lib.hid hs1
          clear hs1
          have B1 := Lib.hid hb1
          clear hb1
          go_wp2_with (fail)
          refine (parentC Q w3 (hG.ext h3).gl (by omega) s1 b1 S1.out B1.out).mono ?_
          rintro e w4 ⟨rfl, hx4⟩
          have h4 := h3.ext hx4
          go_wp2_with (fail)
          refine (partsC p w4 (hG.ext h4).gl (by omega)).mono ?_
          rintro e w5 ⟨a5, c5, rfl, hx5⟩
          have h5 := h4.ext hx5
          go_wp2_with (fail)
          refine (partsC Q w5 (hG.ext h5).gl (by omega)).mono ?_
          rintro e w6 ⟨a6, c6, rfl, hx6⟩
          have h6 := h5.ext hx6
          obtain ⟨n, hn⟩ : ∃ n, (partsL p.data.toList).length = n := ⟨_, rfl⟩
          obtain ⟨m, hm⟩ : ∃ n, (partsL Q.data.toList).length = n := ⟨_, rfl⟩
          rw [hn] at l1 l5 L4 ⊢
          rw [hm] at l1 l6 L4 ⊢
          clear hn hm
          have k1 : ¬ m < n + 1 := by omega
          have k2 : (n : Int) + 1 ≤ m := by omega
          go_wp2_with (fail)
          refine (withinC Q p w6 (hG.ext h6).gl (by omega) (by omega) true L2.out).mono ?_
          rintro e w7 ⟨rfl, hx7⟩
          have h7 := h6.ext hx7
          go_wp2_with (fail)
          refine (withinC p Q w7 (hG.ext h7).gl (by omega) (by omega) false L3.out).mono ?_
          rintro e w8 ⟨rfl, hx8⟩
          have h8 := h7.ext hx8
          by_cases hmn : m = n + 1
          · obtain ⟨e1, e2⟩ := L4.out hmn
            have hb : b1 = true := by rw [← B1.out, e1]; rfl
            have hs : s1 = p := by rw [← S1.out, e1, optS_some, bytes_self]
            have E2 := Lib.hid e2
            clear e1 e2 B1 S1
            subst hmn
            subst hb hs
            go_wp2_with (fail)
            refine (nameE Q w8 (hG.ext h8).gl (by omega) s E2.out).mono ?_
            rintro e w9 ⟨rfl, hx9⟩
            go_wp2_with (fail)
            go_ret
            go_light
            exact ⟨rfl, h8.ext hx9⟩
          · have k3 : ¬ (m : Int) = (n : Int) + 1 := by omega
            clear hmn
            go_wp2_with (fail)
            go_ret
            go_light
            exact ⟨rfl, h8⟩
    · go_wp2_with (fail)
      go_ret
      go_light
      exact ⟨rfl, hx1⟩
  · go_wp2_with (fail)
    go_ret
    go_light
    exact ⟨rfl, hx1⟩

theorem less_eq : ∀ (x y : List UInt8), Op.bytesLess x y = decide (x < y)
  | x, [] => by cases x <;> simp [Op.bytesLess]
  | [], b :: y => by simp [Op.bytesLess]
  | a :: x, b :: y => by
    rw [Op.bytesLess, less_eq x y, Bool.eq_iff_iff]
    simp [List.cons_lt_cons_iff]

set_option maxHeartbeats 800000 in
theorem pathNumbers_any (p : ByteArray) (a b : Int) (w : World) (hG : GT w) : Calls Tryd.prog 5 #[.string p, .int .i64 a, .int .i64 b] w (LawOK w) := by
  by_cases lp : p.size ≤ 300
  · by_cases a0 : a < 0
    · go_enter Tryd.func5, Tryd.ntmps5
      go_wp2_with (fail)
      refine (awake_any w hG).mono ?_
      rintro e w1 ⟨rfl, hx1⟩
      go_wp2_with (fail)
      go_ret
      go_light
      exact ⟨rfl, hx1⟩
    · by_cases a1 : 2147483647 < a
      · go_enter Tryd.func5, Tryd.ntmps5
        go_wp2_with (fail)
        refine (awake_any w hG).mono ?_
        rintro e w1 ⟨rfl, hx1⟩
        go_wp2_with (fail)
        go_ret
        go_light
        exact ⟨rfl, hx1⟩
      · by_cases b0 : b < 0
        · go_enter Tryd.func5, Tryd.ntmps5
          go_wp2_with (fail)
          refine (awake_any w hG).mono ?_
          rintro e w1 ⟨rfl, hx1⟩
          go_wp2_with (fail)
          go_ret
          go_light
          exact ⟨rfl, hx1⟩
        · by_cases b1 : 2147483647 < b
          · go_enter Tryd.func5, Tryd.ntmps5
            go_wp2_with (fail)
            refine (awake_any w hG).mono ?_
            rintro e w1 ⟨rfl, hx1⟩
            go_wp2_with (fail)
            go_ret
            go_light
            exact ⟨rfl, hx1⟩
          · have hb := number_both (p := p.data.toList) (a := a) (b := b) (by omega) (by omega)
            cases na : numberL p.data.toList a with
            | none =>
              have nb : numberL p.data.toList b = none := by rw [na] at hb; exact Option.isSome_eq_false_iff.1 (by simpa using hb.symm) |> Option.isNone_iff_eq_none.1
              have NA := Lib.hid na
              clear na
              have NB := Lib.hid nb
              clear nb
              clear hb
              go_enter Tryd.func5, Tryd.ntmps5
              go_wp2_with (fail)
              refine (awake_any w hG).mono ?_
              rintro e w1 ⟨rfl, hx1⟩
              go_wp2_with (fail)
              refine (numberC p a w1 (hG.ext hx1) (by omega) ⟨#[]⟩ 1 (by rw [NA.out]; rfl) (by rw [NA.out]; rfl)).mono ?_
              rintro e w2 ⟨rfl, hx2⟩
              have h2 := hx1.ext hx2
              go_wp2_with (fail)
              refine (numberC p b w2 (hG.ext h2) (by omega) ⟨#[]⟩ 1 (by rw [NB.out]; rfl) (by rw [NB.out]; rfl)).mono ?_
              rintro e w3 ⟨rfl, hx3⟩
              go_wp2_with (fail)
              go_ret
              go_light
              exact ⟨rfl, h2.ext hx3⟩
            | some s =>
              obtain ⟨t, nb⟩ : ∃ t, numberL p.data.toList b = some t := Option.isSome_iff_exists.1 (by rw [← hb, na]; rfl)
              obtain ⟨l1, l2, l3, l4⟩ := numbers_law na nb
              obtain ⟨_, _, _, _, gs⟩ := number_some na
              obtain ⟨S, hS⟩ : ∃ S : ByteArray, S = ⟨s.toArray⟩ := ⟨_, rfl⟩
              obtain ⟨T, hT⟩ : ∃ S : ByteArray, S = ⟨t.toArray⟩ := ⟨_, rfl⟩
              have hSs : S.data.toList = s := by rw [hS]
              have k1 : Op.bytesLess S.toList T.toList = decide (a < b) := by
                rw [Lib.toList_data, Lib.toList_data, less_eq, hS, hT]
                exact decide_eq_decide.2 l1
              have k2 : (S.toList == T.toList) = (a == b) := by
                rw [str_eq, Bool.eq_iff_iff, decide_eq_true_eq, beq_iff_eq, ← l2, hS, hT]
                constructor
                · intro e; have := congrArg (fun x : ByteArray => x.data.toList) e; simpa using this
                · rintro rfl; rfl
              have k3 : ((S.size : Int) == (p.size : Int) + 10) = true := by
                rw [beq_iff_eq, Lib.size_eq, Lib.size_eq, hSs, l4]; omega
              have hsz : S.size ≤ 200 := by rw [Lib.size_eq, hSs]; exact (good_len _ gs).2
              obtain ⟨u, hu⟩ : ∃ u, optS (parentL p.data.toList) = u := ⟨_, rfl⟩
              obtain ⟨o, ho⟩ : ∃ o, (parentL p.data.toList).isSome = o := ⟨_, rfl⟩
              have U1 : Hid (optS (parentL S.data.toList) = u) := by show _ = _; rw [hSs, l3, hu]
              have O1 : Hid ((parentL S.data.toList).isSome = o) := by show _ = _; rw [hSs, l3, ho]
              have NA : Hid (optS (numberL p.data.toList a) = S ∧ errI (numberL p.data.toList a) = 0) := by show _ ∧ _; rw [na, hS]; exact ⟨rfl, rfl⟩
              have NB : Hid (optS (numberL p.data.toList b) = T ∧ errI (numberL p.data.toList b) = 0) := by show _ ∧ _; rw [nb, hT]; exact ⟨rfl, rfl⟩
              have U := Lib.hid hu
              clear hu
              have O := Lib.hid ho
              clear ho
              clear hb na nb l1 l2 l3 l4 gs hS hT hSs
              go_enter Tryd.func5, Tryd.ntmps5
              go_wp2_with (fail)
              refine (awake_any w hG).mono ?_
              rintro e w1 ⟨rfl, hx1⟩
              go_wp2_with (fail)
              refine (numberC p a w1 (hG.ext hx1) (by omega) S 0 NA.out.1 NA.out.2).mono ?_
              rintro e w2 ⟨rfl, hx2⟩
              have h2 := hx1.ext hx2
              go_wp2_with (fail)
              refine (numberC p b w2 (hG.ext h2) (by omega) T 0 NB.out.1 NB.out.2).mono ?_
              rintro e w3 ⟨rfl, hx3⟩
              have h3 := h2.ext hx3
              go_wp2_with (fail)
              refine (parentC S w3 (hG.ext h3).gl (by omega) u o U1.out O1.out).mono ?_
              rintro e w4 ⟨rfl, hx4⟩
              have h4 := h3.ext hx4
              go_wp2_with (fail)
              refine (parentC p w4 (hG.ext h4).gl (by omega) u o U.out O.out).mono ?_
              rintro e w5 ⟨rfl, hx5⟩
              go_wp2_with (fail)
              go_ret
              go_light
              exact ⟨rfl, h4.ext hx5⟩
  · go_enter Tryd.func5, Tryd.ntmps5
    go_wp2_with (fail)
    refine (awake_any w hG).mono ?_
    rintro e w1 ⟨rfl, hx1⟩
    go_wp2_with (fail)
    go_ret
    go_light
    exact ⟨rfl, hx1⟩
end Go.Proofs.YtpiejhfmokmaaaaDoor
