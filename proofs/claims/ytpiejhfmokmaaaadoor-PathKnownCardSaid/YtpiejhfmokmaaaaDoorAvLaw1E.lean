/- Walks of package path: Join; of package aviarylaw1: PathKnown. -/
import Derived.Test.YtpiejhfmokmaaaaDoorAvLaw1B
namespace Go.Proofs.YtpiejhfmokmaaaaDoor
open Go.RowKit Av

def joinL (l : List Bs) : Option Bs := if goodL (47 :: Lib.join l [47]) && decide ((partsL (47 :: Lib.join l [47])).length = l.length) then some (47 :: Lib.join l [47]) else none

set_option maxHeartbeats 800000 in
theorem pathJoin_any (v : Value) (xs : List ByteArray) (w : World) (hG : GL w) (hs : Strs w v xs) (hn : xs.length ≤ 1000) (hl : (Lib.join (xs.map (·.data.toList)) [47]).length ≤ 100000) :
    Calls Tryd.prog 25 #[v] w fun e w' => e = .returned (.tuple #[.string (optS (joinL (xs.map (·.data.toList)))), .int .i64 (errI (joinL (xs.map (·.data.toList))))]) ∧ Ext w w' := by
  have HC := Lib.hid (Join_any v xs w hs (by omega) (by omega))
  obtain ⟨a, c, rfl, hcc, hm, hop⟩ := Strs.open hs
  have HJ : Hid (∀ g k, goodL (47 :: Lib.join (xs.map (·.data.toList)) [47]) = g → decide ((partsL (47 :: Lib.join (xs.map (·.data.toList)) [47])).length = xs.length) = k → joinL (xs.map (·.data.toList)) = if g && k then some (47 :: Lib.join (xs.map (·.data.toList)) [47]) else none) := by
    show ∀ g k, _ → _ → _
    rintro g k rfl rfl
    unfold joinL
    rw [List.length_map]
  clear hs hop hcc hm
  obtain ⟨J, hJ⟩ : ∃ J, Lib.join (xs.map (·.data.toList)) [47] = J := ⟨_, rfl⟩
  rw [hJ] at HC HJ hl
  clear hJ
  obtain ⟨X, hX⟩ : ∃ X : ByteArray, X = ⟨J.toArray⟩ := ⟨_, rfl⟩
  obtain ⟨P, hP⟩ : ∃ X : ByteArray, X = ⟨(47 :: J).toArray⟩ := ⟨_, rfl⟩
  have hPl : P.data.toList = 47 :: J := by rw [hP]
  have hXs : X.size = J.length := by rw [Lib.size_eq, hX]
  have hPs : P.size ≤ 200000 := by rw [Lib.size_eq, hPl]; simp; omega
  have c1 : ∀ wx, (Op.stringOp .add ⟨#[47]⟩ X).run Tryd.prog wx = .ok (.string P) wx := fun wx => by
    rw [run_string_add_sum (P := Tryd.prog) wx _ _ (by have : (⟨#[47]⟩ : ByteArray).size = 1 := rfl; omega), hX, hP]
    rw [show (⟨#[47]⟩ : ByteArray) = ⟨[47].toArray⟩ from rfl, bytes_append]; rfl
  rw [← hX] at HC
  rw [← hPl] at HJ
  clear hXs hX hP hPl
  go_enter Tryd.func25, Tryd.ntmps25
  go_wp2_with (fail)
  refine (HC.out).mono ?_
  rintro e w1 ⟨rfl, hx1⟩
  cases g : goodL P.data.toList with
  | false =>
    go_wp2_with (fail)
    refine (goodC P w1 (hG.ext hx1) (by omega) false g).mono ?_
    rintro e w2 ⟨rfl, hx2⟩
    have HR := Lib.hid (HJ.out false _ g rfl)
    clear g
    go_wp2_with (fail)
    go_ret2
    go_light
    exact ⟨by rw [HR.out]; rfl, hx1.ext hx2⟩
  | true =>
    go_wp2_with (fail)
    refine (goodC P w1 (hG.ext hx1) (by omega) true g).mono ?_
    rintro e w2 ⟨rfl, hx2⟩
    have h2 := hx1.ext hx2
    have HR := Lib.hid (HJ.out true _ g rfl)
    clear g
    go_wp2_with (fail)
    refine (partsC P w2 (hG.ext h2) (by omega)).mono ?_
    rintro e w3 ⟨a3, c3, rfl, hx3⟩
    obtain ⟨m, hm⟩ : ∃ m, (partsL P.data.toList).length = m := ⟨_, rfl⟩
    rw [hm] at HR ⊢
    clear hm
    by_cases hmn : m = xs.length
    · subst hmn
      go_wp2_with (fail)
      go_ret2
      go_light
      exact ⟨by rw [HR.out]; simp [bytes_self, optS, errI, ByteArray.ext_iff], h2.ext hx3⟩
    · have k3 : ¬ (m : Int) = xs.length := by omega
      have HM := Lib.hid hmn
      clear hmn
      go_wp2_with (fail)
      go_ret2
      go_light
      exact ⟨by rw [HR.out, decide_eq_false HM.out]; rfl, h2.ext hx3⟩

/-- Join of names that are written out in the call. -/
theorem joinLit (w : World) (hG : GL w) (xs : List ByteArray) (s : ByteArray) (z : Int) (hn : xs.length ≤ 1000) (hl : (Lib.join (xs.map (·.data.toList)) [47]).length ≤ 100000) (hs : optS (joinL (xs.map (·.data.toList))) = s) (hz : errI (joinL (xs.map (·.data.toList))) = z) :
    Calls Tryd.prog 25 #[.slice (some ⟨w.heap.size, 0, none⟩) xs.length xs.length] (w.alloc (.cells (xs.map Value.string).toArray 9)) fun e w' => e = .returned (.tuple #[.string s, .int .i64 z]) ∧ Ext w w' := by
  subst hs hz
  refine (pathJoin_any _ xs _ (hG.ext ((Kp.refl _ w).alloc _)) (Strs.of_block (heap_alloc_new w _) (by unfold maxLen; omega) (Nat.le_refl _)) hn hl).mono ?_
  rintro e w' ⟨rfl, hx⟩
  exact ⟨rfl, ((Kp.refl _ w).alloc _).ext hx⟩
theorem joinNil (w : World) (hG : GL w) (s : ByteArray) (z : Int) (hs : optS (joinL []) = s) (hz : errI (joinL []) = z) :
    Calls Tryd.prog 25 #[.slice none 0 0] w fun e w' => e = .returned (.tuple #[.string s, .int .i64 z]) ∧ Ext w w' := by
  subst hs hz
  exact pathJoin_any _ [] w hG (Strs.nil w) (by decide) (by decide)
def bA : ByteArray := ⟨#[97]⟩
def bB : ByteArray := ⟨#[98]⟩
def bE : ByteArray := ⟨#[]⟩
def bAB : ByteArray := ⟨#[97, 47, 98]⟩

set_option maxHeartbeats 1600000 in
theorem pathKnown_any (w : World) (hG : GT w) : Calls Tryd.prog 8 #[] w (LawOK w) := by
  have t3 : (⟨#[47, 97, 47, 98]⟩ : ByteArray).toList = [47, 97, 47, 98] := by decide +kernel
  go_enter Tryd.func8, Tryd.ntmps8
  go_wp2_with (fail)
  refine (awake_any w hG).mono ?_
  rintro e w1 ⟨rfl, h1⟩
  go_wp2_with (fail)
  refine (joinNil w1 (hG.ext h1).gl ⟨#[]⟩ 1 (by decide +kernel) (by decide +kernel)).mono ?_
  rintro e w2 ⟨rfl, hx⟩
  replace h1 := h1.ext hx
  go_wp2_with (fail)
  refine (joinLit w2 (hG.ext h1).gl [bA, bE] ⟨#[]⟩ 1 (by decide) (by decide +kernel) (by decide +kernel) (by decide +kernel)).mono ?_
  rintro e w3 ⟨rfl, hx⟩
  replace h1 := h1.ext hx
  go_wp2_with (fail)
  refine (joinLit w3 (hG.ext h1).gl [bAB] ⟨#[]⟩ 1 (by decide) (by decide +kernel) (by decide +kernel) (by decide +kernel)).mono ?_
  rintro e w4 ⟨rfl, hx⟩
  replace h1 := h1.ext hx
  go_wp2_with (fail)
  refine (joinLit w4 (hG.ext h1).gl [bA, bB] ⟨#[47, 97, 47, 98]⟩ 0 (by decide) (by decide +kernel) (by decide +kernel) (by decide +kernel)).mono ?_
  rintro e w5 ⟨rfl, hx⟩
  replace h1 := h1.ext hx
  go_wp2_with (fail)
  refine (numberC cA (-1) w5 (hG.ext h1) (by decide) ⟨#[]⟩ 1 (by simp [numberL]; rfl) (by simp [numberL]; rfl)).mono ?_
  rintro e w6 ⟨rfl, hx⟩
  replace h1 := h1.ext hx
  go_wp2_with (fail)
  refine (parentC cA w6 (hG.ext h1).gl (by decide) ⟨#[]⟩ false (by decide +kernel) (by decide +kernel)).mono ?_
  rintro e w7 ⟨rfl, hx⟩
  replace h1 := h1.ext hx
  go_wp2_with (fail)
  refine (goodC _ w7 (hG.ext h1).gl (by decide) false (by decide +kernel)).mono ?_
  rintro e w8 ⟨rfl, hx⟩
  replace h1 := h1.ext hx
  go_wp2_with (fail)
  refine (goodC _ w8 (hG.ext h1).gl (by decide) false (by decide +kernel)).mono ?_
  rintro e w9 ⟨rfl, hx⟩
  replace h1 := h1.ext hx
  go_wp2_with (fail)
  refine (goodC _ w9 (hG.ext h1).gl (by decide) false (by decide +kernel)).mono ?_
  rintro e w10 ⟨rfl, hx⟩
  replace h1 := h1.ext hx
  go_wp2_with (fail)
  refine (goodC _ w10 (hG.ext h1).gl (by decide) false (by decide +kernel)).mono ?_
  rintro e w11 ⟨rfl, hx⟩
  replace h1 := h1.ext hx
  go_wp2_with (fail)
  refine (goodC _ w11 (hG.ext h1).gl (by decide) false (by decide +kernel)).mono ?_
  rintro e w12 ⟨rfl, hx⟩
  replace h1 := h1.ext hx
  go_wp2_with (fail)
  refine (goodC _ w12 (hG.ext h1).gl (by decide) false (by decide +kernel)).mono ?_
  rintro e w13 ⟨rfl, hx⟩
  replace h1 := h1.ext hx
  go_wp2_with (fail)
  refine (goodC _ w13 (hG.ext h1).gl (by decide) false (by decide +kernel)).mono ?_
  rintro e w14 ⟨rfl, hx⟩
  replace h1 := h1.ext hx
  go_wp2_with (fail)
  refine (goodC _ w14 (hG.ext h1).gl (by decide) false (by decide +kernel)).mono ?_
  rintro e w15 ⟨rfl, hx⟩
  replace h1 := h1.ext hx
  go_wp2_with (fail)
  refine (goodC _ w15 (hG.ext h1).gl (by decide) true (by decide +kernel)).mono ?_
  rintro e w16 ⟨rfl, hx⟩
  replace h1 := h1.ext hx
  go_wp2_with (fail)
  refine (goodC _ w16 (hG.ext h1).gl (by decide) false (by decide +kernel)).mono ?_
  rintro e w17 ⟨rfl, hx⟩
  replace h1 := h1.ext hx
  go_wp2_with (fail)
  refine (partsC ⟨#[120]⟩ w17 (hG.ext h1).gl (by decide)).mono ?_
  rw [show (partsL (⟨#[120]⟩ : ByteArray).data.toList).length = 0 by decide +kernel]
  rintro e w18 ⟨a, c, rfl, hx⟩
  replace h1 := h1.ext hx
  go_wp2_with (fail)
  refine (withinC _ _ w18 (hG.ext h1).gl (by decide) (by decide) false (by decide +kernel)).mono ?_
  rintro e w19 ⟨rfl, hx⟩
  replace h1 := h1.ext hx
  go_wp2_with (fail)
  refine (withinC _ _ w19 (hG.ext h1).gl (by decide) (by decide) true (by decide +kernel)).mono ?_
  rintro e w20 ⟨rfl, hx⟩
  go_wp2_with (fail)
  go_ret
  go_light
  exact ⟨rfl, h1.ext hx⟩
end Go.Proofs.YtpiejhfmokmaaaaDoor
