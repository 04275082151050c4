/- Walks of package aviarylaw13: WatchKids. -/
import Derived.Test.YtiplmahjmkmddaaDoorAvLaw13A
namespace Go.Proofs.YtiplmahjmkmddaaDoor
set_option maxRecDepth 100000
open Go.RowKit Av

def sP : ByteArray := ⟨#[47, 112]⟩
def sPC : ByteArray := ⟨#[47, 112, 47, 99]⟩
def sPCD : ByteArray := ⟨#[47, 112, 47, 99, 47, 100]⟩
theorem armK : armE 10 [] ⟨4, sP, 2⟩ = 0 ∧ armG 10 [] ⟨4, sP, 2⟩ = [⟨4, sP, 2⟩] := by decide +kernel
theorem fireK1 : fireT sPC 1 [⟨4, sP, 2⟩] = [⟨4, sP, 4⟩] ∧ fireG sPC 1 [⟨4, sP, 2⟩] = [] := by unfold fireT fireG; rw [sortW_ins (by decide +kernel)]; decide +kernel
theorem fireK2 : fireT sPC 2 [⟨4, sP, 2⟩] = [⟨4, sP, 4⟩] ∧ fireG sPC 2 [⟨4, sP, 2⟩] = [] := by unfold fireT fireG; rw [sortW_ins (by decide +kernel)]; decide +kernel
theorem fireK3 : fireT sPC 3 [⟨4, sP, 2⟩] = [] ∧ fireG sPC 3 [⟨4, sP, 2⟩] = [⟨4, sP, 2⟩] := by unfold fireT fireG; rw [sortW_ins (by decide +kernel)]; decide +kernel
theorem fireD1 : fireT sPCD 1 [⟨4, sP, 2⟩] = [] ∧ fireG sPCD 1 [⟨4, sP, 2⟩] = [⟨4, sP, 2⟩] := by unfold fireT fireG; rw [sortW_ins (by decide +kernel)]; decide +kernel
theorem fireD2 : fireT sPCD 2 [⟨4, sP, 2⟩] = [] ∧ fireG sPCD 2 [⟨4, sP, 2⟩] = [⟨4, sP, 2⟩] := by unfold fireT fireG; rw [sortW_ins (by decide +kernel)]; decide +kernel
theorem fireD3 : fireT sPCD 3 [⟨4, sP, 2⟩] = [] ∧ fireG sPCD 3 [⟨4, sP, 2⟩] = [⟨4, sP, 2⟩] := by unfold fireT fireG; rw [sortW_ins (by decide +kernel)]; decide +kernel
set_option maxHeartbeats 3200000 in
theorem watchKids_f (ch : Int) (w : World) (hG : GL w) (hch : (ch = 1 ∨ ch = 2) ∨ ch = 3) : Calls Tryd.prog 4 #[.int .i64 ch, .bool false] w fun e w' => e = .returned (.bool true) ∧ Ext w w' := by
  have hq := eqEv_run
  have hgd := eqEv_gd
  have HG := Lib.hid hG
  clear hG
  rcases hch with (rfl | rfl) | rfl
  all_goals
    go_enter Tryd.func4, Tryd.ntmps4
    go_wp2_with (fail)
    refine (awake_any w HG.out).mono ?_
    rintro e w0 ⟨rfl, hx0⟩
    have HX0 := Lib.hid hx0
    have HG0 := Lib.hid (HG.out.ext hx0)
    clear hx0 HG
    go_wp2_with (fail)
    refine (wsNew 10 w0 w0 (Kp.refl _ _) (by decide) (by decide)).mono ?_
    rintro e w1 ⟨rfl, h1⟩
    obtain ⟨b, hb⟩ : ∃ b, w0.heap.size = b := ⟨_, rfl⟩
    rw [hb] at h1 ⊢
    have hA := wsArm h1 HG0.out ⟨4, sP, 2⟩ (by decide) (by decide)
    rw [armK.1, armK.2] at hA
    clear h1 hb
    go_wp2_with (fail)
    refine hA.mono ?_
    rintro e w2 ⟨rfl, ro, h2, _, _⟩
    have hF := fun p ch (hp : p.size ≤ maxLen) => wsFire h2 HG0.out p ch hp (by decide)
    have HF := Lib.hid hF
    clear h2 hA hF
    go_wp2_with (fail)
    refine (HF.out sPC _ (by decide)).mono ?_
    rintro e w3 ⟨v, rfl, he3, h3, _⟩
    first
      | (rw [fireK1.1] at he3; rw [fireK1.2] at h3)
      | (rw [fireK2.1] at he3; rw [fireK2.2] at h3)
      | (rw [fireK3.1] at he3; rw [fireK3.2] at h3)
    have hL := wsLen h3
    have HX3 := Lib.hid (HX0.out.trans h3.2.2.2)
    obtain ⟨a, c, rfl, hop⟩ := he3.open
    clear HF h3 he3
    first
      | (have hop1 := hop Nat.zero_lt_one
         obtain ⟨g, off, rfl, _, hc⟩ := hop1
         obtain ⟨c0, c1, c2⟩ := hc 0 Nat.zero_lt_one
         simp only [Nat.zero_mul, Nat.add_zero] at c0 c1 c2
         clear hop hc)
      | clear hop
    go_wp2_with (fail)
    refine hL.mono ?_
    rintro e w5 ⟨rfl, rfl⟩
    go_wp2_with (fail)
    go_ret
    exact ⟨rfl, HX3.out⟩
set_option maxHeartbeats 3200000 in
theorem watchKids_t (ch : Int) (w : World) (hG : GL w) (hch : (ch = 1 ∨ ch = 2) ∨ ch = 3) : Calls Tryd.prog 4 #[.int .i64 ch, .bool true] w fun e w' => e = .returned (.bool true) ∧ Ext w w' := by
  have hq := eqEv_run
  have hgd := eqEv_gd
  have HG := Lib.hid hG
  clear hG
  rcases hch with (rfl | rfl) | rfl
  all_goals
    go_enter Tryd.func4, Tryd.ntmps4
    go_wp2_with (fail)
    refine (awake_any w HG.out).mono ?_
    rintro e w0 ⟨rfl, hx0⟩
    have HX0 := Lib.hid hx0
    have HG0 := Lib.hid (HG.out.ext hx0)
    clear hx0 HG
    go_wp2_with (fail)
    refine (wsNew 10 w0 w0 (Kp.refl _ _) (by decide) (by decide)).mono ?_
    rintro e w1 ⟨rfl, h1⟩
    obtain ⟨b, hb⟩ : ∃ b, w0.heap.size = b := ⟨_, rfl⟩
    rw [hb] at h1 ⊢
    have hA := wsArm h1 HG0.out ⟨4, sP, 2⟩ (by decide) (by decide)
    rw [armK.1, armK.2] at hA
    clear h1 hb
    go_wp2_with (fail)
    refine hA.mono ?_
    rintro e w2 ⟨rfl, ro, h2, _, _⟩
    have hF := fun p ch (hp : p.size ≤ maxLen) => wsFire h2 HG0.out p ch hp (by decide)
    have HF := Lib.hid hF
    clear h2 hA hF
    go_wp2_with (fail)
    refine (HF.out sPCD _ (by decide)).mono ?_
    rintro e w3 ⟨v, rfl, he3, h3, _⟩
    first
      | (rw [fireD1.1] at he3; rw [fireD1.2] at h3)
      | (rw [fireD2.1] at he3; rw [fireD2.2] at h3)
      | (rw [fireD3.1] at he3; rw [fireD3.2] at h3)
    have hL := wsLen h3
    have HX3 := Lib.hid (HX0.out.trans h3.2.2.2)
    obtain ⟨a, c, rfl, hop⟩ := he3.open
    clear HF h3 he3
    first
      | (have hop1 := hop Nat.zero_lt_one
         obtain ⟨g, off, rfl, _, hc⟩ := hop1
         obtain ⟨c0, c1, c2⟩ := hc 0 Nat.zero_lt_one
         simp only [Nat.zero_mul, Nat.add_zero] at c0 c1 c2
         clear hop hc)
      | clear hop
    go_wp2_with (fail)
    refine hL.mono ?_
    rintro e w5 ⟨rfl, rfl⟩
    go_wp2_with (fail)
    go_ret
    exact ⟨rfl, HX3.out⟩
set_option maxHeartbeats 800000 in
theorem watchKids_any (ch : Int) (deep : Bool) (w : World) (hG : GL w) : Calls Tryd.prog 4 #[.int .i64 ch, .bool deep] w fun e w' => e = .returned (.bool true) ∧ Ext w w' := by
  by_cases h1 : ch < 1
  · go_enter Tryd.func4, Tryd.ntmps4
    go_wp2_with (fail)
    refine (awake_any w hG).mono ?_
    rintro e w0 ⟨rfl, hx0⟩
    go_wp2_with (fail)
    go_ret
    exact ⟨rfl, hx0⟩
  · by_cases h2 : 3 < ch
    · go_enter Tryd.func4, Tryd.ntmps4
      go_wp2_with (fail)
      refine (awake_any w hG).mono ?_
      rintro e w0 ⟨rfl, hx0⟩
      go_wp2_with (fail)
      go_ret
      exact ⟨rfl, hx0⟩
    · cases deep
      · exact watchKids_f ch w hG (by omega)
      · exact watchKids_t ch w hG (by omega)
end Go.Proofs.YtiplmahjmkmddaaDoor
