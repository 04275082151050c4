/- Walks of package aviarylaw1: awake, PathApart, PathDeeper. -/
import Derived.Test.YtpiejhfmokmaaaaDoorAvWRefE
namespace Go.Proofs.YtpiejhfmokmaaaaDoor
open Go.RowKit Av

/-- What a law's call comes to. -/
def LawOK (w : World) (e : Ending) (w' : World) : Prop := e = .returned (.bool true) ∧ Ext w w'

def topS (p : ByteArray) : ByteArray := ⟨(topL p.data.toList).toArray⟩
def lastS (p : ByteArray) : ByteArray := ⟨(lastL p.data.toList).toArray⟩
def numS (p : ByteArray) (n : Int) : ByteArray := optS (numberL p.data.toList n)
def upS (p : ByteArray) : ByteArray := optS (parentL p.data.toList)
theorem topC (p : ByteArray) (w : World) (hG : GL w) (hp : p.size ≤ 1000000) : Calls Tryd.prog 21 #[.string p] w fun e w' => e = .returned (.string (topS p)) ∧ Ext w w' := pathTop_any p w hG (by unfold maxLen; omega)
theorem nameC (p : ByteArray) (w : World) (hG : GL w) (hp : p.size ≤ 1000000) : Calls Tryd.prog 19 #[.string p] w fun e w' => e = .returned (.string (lastS p)) ∧ Ext w w' := pathName_any p w hG (by unfold maxLen; omega)
theorem goodC (p : ByteArray) (w : World) (hG : GL w) (hp : p.size ≤ 1000000) (b : Bool) (hb : goodL p.data.toList = b) : Calls Tryd.prog 14 #[.string p] w fun e w' => e = .returned (.bool b) ∧ Ext w w' := by subst hb; exact Good_any p w hG (by unfold maxLen; omega)
theorem withinC (p q : ByteArray) (w : World) (hG : GL w) (hp : p.size ≤ 1000000) (hq : q.size ≤ 1000000) (b : Bool) (hb : withinL p.data.toList q.data.toList = b) : Calls Tryd.prog 23 #[.string p, .string q] w fun e w' => e = .returned (.bool b) ∧ Ext w w' := by subst hb; exact pathWithin_any p q w hG (by unfold maxLen; omega) (by unfold maxLen; omega)
theorem parentC (p : ByteArray) (w : World) (hG : GL w) (hp : p.size ≤ 1000000) (s : ByteArray) (b : Bool) (hs : optS (parentL p.data.toList) = s) (hb : (parentL p.data.toList).isSome = b) : Calls Tryd.prog 10 #[.string p] w fun e w' => e = .returned (.tuple #[.string s, .bool b]) ∧ Ext w w' := by subst hb hs; exact Parent_any p w hG (by unfold maxLen; omega)
theorem numberC (p : ByteArray) (n : Int) (w : World) (hG : GT w) (hp : p.size ≤ 1000000) (s : ByteArray) (z : Int) (hs : optS (numberL p.data.toList n) = s) (hz : errI (numberL p.data.toList n) = z) :
    Calls Tryd.prog 12 #[.string p, .int .i64 n] w fun e w' => e = .returned (.tuple #[.string s, .int .i64 z]) ∧ Ext w w' := by subst hs hz; exact pathNumber_any p n w hG (by unfold maxLen; omega)

def cAB : ByteArray := ⟨#[47, 97, 47, 98]⟩
def cA : ByteArray := ⟨#[47, 97]⟩
theorem numberL_eq (p : Bs) (n : Int) (h : 0 ≤ n ∧ n ≤ 2147483647) : numberL p n = if goodL p && goodL (p ++ fw 10 n.toNat) then some (p ++ fw 10 n.toNat) else none := by
  unfold numberL
  rw [padL_fw (by omega)]
  simp [h.1, h.2]
theorem n7 : numberL cAB.data.toList 7 = some [47, 97, 47, 98, 48, 48, 48, 48, 48, 48, 48, 48, 48, 55] := by rw [numberL_eq _ _ (by omega)]; decide +kernel

set_option maxHeartbeats 800000 in
theorem awake_any (w : World) (hG : GT w) : Calls Tryd.prog 9 #[] w (LawOK w) := by
  have t1 : (⟨#[97]⟩ : ByteArray).toList = [97] := by decide +kernel
  have t2 : (⟨#[98]⟩ : ByteArray).toList = [98] := by decide +kernel
  have t3 : (⟨#[47, 97]⟩ : ByteArray).toList = [47, 97] := by decide +kernel
  have t4 : (⟨#[47, 97, 47, 98, 48, 48, 48, 48, 48, 48, 48, 48, 48, 55]⟩ : ByteArray).toList = [47, 97, 47, 98, 48, 48, 48, 48, 48, 48, 48, 48, 48, 55] := by decide +kernel
  go_enter Tryd.func9, Tryd.ntmps9
  go_wp2_with (fail)
  refine (numberC cAB 7 w hG (by decide) ⟨#[47, 97, 47, 98, 48, 48, 48, 48, 48, 48, 48, 48, 48, 55]⟩ 0 (by rw [n7]; rfl) (by rw [n7]; rfl)).mono ?_
  rintro e w1 ⟨rfl, hx1⟩
  go_wp2_with (fail)
  refine (parentC cAB w1 (hG.ext hx1).gl (by decide) ⟨#[47, 97]⟩ true (by decide +kernel) (by decide +kernel)).mono ?_
  rintro e w2 ⟨rfl, hx2⟩
  go_wp2_with (fail)
  refine (goodC cA w2 ((hG.ext hx1).ext hx2).gl (by decide) true (by decide +kernel)).mono ?_
  rintro e w3 ⟨rfl, hx3⟩
  have h3 := (hx1.ext hx2).ext hx3
  go_wp2_with (fail)
  refine (topC cAB w3 (hG.ext h3).gl (by decide)).mono ?_
  rw [show topS cAB = ⟨#[97]⟩ by decide +kernel]
  rintro e w4 ⟨rfl, hx4⟩
  have h4 := h3.ext hx4
  go_wp2_with (fail)
  refine (nameC cAB w4 (hG.ext h4).gl (by decide)).mono ?_
  rw [show lastS cAB = ⟨#[98]⟩ by decide +kernel]
  rintro e w5 ⟨rfl, hx5⟩
  have h5 := h4.ext hx5
  go_wp2_with (fail)
  refine (withinC cAB cA w5 (hG.ext h5).gl (by decide) (by decide) true (by decide +kernel)).mono ?_
  rintro e w6 ⟨rfl, hx6⟩
  go_wp2_with (fail)
  go_ret
  go_light
  exact ⟨rfl, h5.ext hx6⟩

theorem opt_ne {q : Bs} {o : Option Bs} {Q : ByteArray} (h : ∀ a, o = some a → a ≠ q) (hq : Q.data.toList = q) : o.isSome = true → optS o ≠ Q := by
  intro hs e
  cases o with
  | none => cases hs
  | some a => exact h a rfl (by rw [← hq, ← e]; simp [optS])

set_option maxHeartbeats 800000 in
theorem pathApart_any (p q : ByteArray) (w : World) (hG : GT w) : Calls Tryd.prog 7 #[.string p, .string q] w (LawOK w) := by
  go_enter Tryd.func7, Tryd.ntmps7
  go_wp2_with (fail)
  refine (awake_any w hG).mono ?_
  rintro e w1 ⟨rfl, hx1⟩
  by_cases lp : p.size ≤ 300
  · by_cases lq : q.size ≤ 300
    · cases g1 : goodL p.data.toList with
      | false =>
        go_wp2_with (fail)
        refine (goodC p w1 (hG.ext hx1).gl (by omega) false g1).mono ?_
        rintro e w2 ⟨rfl, hx2⟩
        clear g1
        go_wp2_with (fail)
        go_ret
        go_light
        exact ⟨rfl, hx1.ext hx2⟩
      | true =>
        go_wp2_with (fail)
        refine (goodC p w1 (hG.ext hx1).gl (by omega) true g1).mono ?_
        rintro e w2 ⟨rfl, hx2⟩
        have G1 := Lib.hid g1
        clear g1
        have h2 := hx1.ext hx2
        cases g2 : goodL q.data.toList with
        | false =>
          go_wp2_with (fail)
          refine (goodC q w2 (hG.ext h2).gl (by omega) false g2).mono ?_
          rintro e w3 ⟨rfl, hx3⟩
          clear g2
          go_wp2_with (fail)
          go_ret
          go_light
          exact ⟨rfl, h2.ext hx3⟩
        | true =>
          go_wp2_with (fail)
          refine (goodC q w2 (hG.ext h2).gl (by omega) true g2).mono ?_
          rintro e w3 ⟨rfl, hx3⟩
          have G2 := Lib.hid g2
          clear g2
          have h3 := h2.ext hx3
          go_wp2_with (fail)
          refine (topC p w3 (hG.ext h3).gl (by omega)).mono ?_
          rintro e w4 ⟨rfl, hx4⟩
          have h4 := h3.ext hx4
          go_wp2_with (fail)
          refine (topC q w4 (hG.ext h4).gl (by omega)).mono ?_
          rintro e w5 ⟨rfl, hx5⟩
          have h5 := h4.ext hx5
          have hse := str_eq (topS p) (topS q)
          by_cases ht : topS p = topS q
          · have hse' : ((topS p).toList == (topS q).toList) = true := by rw [hse]; simpa using ht
            clear hse ht
            go_wp2_with (fail)
            go_ret
            go_light
            exact ⟨rfl, h5⟩
          · have hse' : ((topS p).toList == (topS q).toList) = false := by rw [hse]; simpa using ht
            obtain ⟨l1, l2, l3, l4, l5⟩ := apart_tops G1.out G2.out (fun e => ht (by unfold topS; rw [e]))
            have n1 := opt_ne l3 (Q := q) rfl
            have n2 := opt_ne l4 (Q := p) rfl
            have n3 : (p.toList == q.toList) = false := by rw [str_eq]; simp; intro e; exact l5 (by rw [e])
            have L1 := Lib.hid l1
            have L2 := Lib.hid l2
            obtain ⟨s1, hs1⟩ : ∃ s, optS (parentL p.data.toList) = s := ⟨_, rfl⟩
            obtain ⟨s2, hs2⟩ : ∃ s, optS (parentL q.data.toList) = s := ⟨_, rfl⟩
            have m1 := str_eq s1 q
            have m2 := str_eq s2 p
            rw [hs1] at n1
            rw [hs2] at n2
            have S1 := Lib.hid hs1
            clear hs1
            have S2 := Lib.hid hs2
            clear hs2
            clear hse ht l1 l2 l3 l4 l5
            cases b1 : (parentL p.data.toList).isSome <;> cases b2 : (parentL q.data.toList).isSome
            all_goals
              rw [b1] at n1
              rw [b2] at n2
              simp only [Bool.false_eq_true, false_implies, forall_const] at n1 n2
              try rw [decide_eq_false n1] at m1
              try rw [decide_eq_false n2] at m2
              have B1 := Lib.hid b1
              have B2 := Lib.hid b2
              clear b1 b2 n1 n2
              go_wp2_with (fail)
              refine (parentC p w5 (hG.ext h5).gl (by omega) s1 _ S1.out B1.out).mono ?_
              rintro e w6 ⟨rfl, hx6⟩
              have h6 := h5.ext hx6
              go_wp2_with (fail)
              refine (parentC q w6 (hG.ext h6).gl (by omega) s2 _ S2.out B2.out).mono ?_
              rintro e w7 ⟨rfl, hx7⟩
              have h7 := h6.ext hx7
              go_wp2_with (fail)
              refine (withinC p q w7 (hG.ext h7).gl (by omega) (by omega) false L1.out).mono ?_
              rintro e w8 ⟨rfl, hx8⟩
              have h8 := h7.ext hx8
              go_wp2_with (fail)
              refine (withinC q p w8 (hG.ext h8).gl (by omega) (by omega) false L2.out).mono ?_
              rintro e w9 ⟨rfl, hx9⟩
              go_wp2_with (fail)
              go_ret
              go_light
              exact ⟨rfl, h8.ext hx9⟩
    · go_wp2_with (fail)
      go_ret
      go_light
      exact ⟨rfl, hx1⟩
  · go_wp2_with (fail)
    go_ret
    go_light
    exact ⟨rfl, hx1⟩
end Go.Proofs.YtpiejhfmokmaaaaDoor
