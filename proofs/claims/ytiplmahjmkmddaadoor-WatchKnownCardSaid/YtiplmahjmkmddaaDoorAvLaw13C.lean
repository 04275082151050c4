/- Walks of package aviarylaw13: WatchKnown. -/
import Derived.Test.YtiplmahjmkmddaaDoorAvLaw13A
namespace Go.Proofs.YtiplmahjmkmddaaDoor
set_option maxRecDepth 100000
open Go.RowKit Av

def sa0 : ByteArray := ⟨#[97]⟩
def sAB1 : ByteArray := ⟨#[47, 97, 47, 98]⟩
def sB1 : ByteArray := ⟨#[47, 98]⟩
theorem wk0 : armE 2 [] ⟨0, sA1, 1⟩ = 1 ∧ armG 2 [] ⟨0, sA1, 1⟩ = [] := by decide +kernel
theorem wk1 : armE 2 [] ⟨1, sa0, 1⟩ = 1 ∧ armG 2 [] ⟨1, sa0, 1⟩ = [] := by decide +kernel
theorem wk2 : armE 2 [] ⟨1, sA1, 3⟩ = 1 ∧ armG 2 [] ⟨1, sA1, 3⟩ = [] := by decide +kernel
theorem wk3 : armE 2 [] ⟨2, sA1, 2⟩ = 0 ∧ armG 2 [] ⟨2, sA1, 2⟩ = [⟨2, sA1, 2⟩] := by decide +kernel
theorem wk4 : armE 2 [⟨2, sA1, 2⟩] ⟨2, sA1, 2⟩ = 0 ∧ armG 2 [⟨2, sA1, 2⟩] ⟨2, sA1, 2⟩ = [⟨2, sA1, 2⟩] := by decide +kernel
theorem wk5 : armE 2 [⟨2, sA1, 2⟩] ⟨1, sAB1, 1⟩ = 0 ∧ armG 2 [⟨2, sA1, 2⟩] ⟨1, sAB1, 1⟩ = [⟨2, sA1, 2⟩, ⟨1, sAB1, 1⟩] := by decide +kernel
theorem wk6 : armE 2 [⟨2, sA1, 2⟩, ⟨1, sAB1, 1⟩] ⟨3, sA1, 1⟩ = 9 ∧ armG 2 [⟨2, sA1, 2⟩, ⟨1, sAB1, 1⟩] ⟨3, sA1, 1⟩ = [⟨2, sA1, 2⟩, ⟨1, sAB1, 1⟩] := by decide +kernel
theorem wk7 : fireT sAB1 3 [⟨2, sA1, 2⟩, ⟨1, sAB1, 1⟩] = [⟨1, sAB1, 3⟩] ∧ fireG sAB1 3 [⟨2, sA1, 2⟩, ⟨1, sAB1, 1⟩] = [⟨2, sA1, 2⟩] := by unfold fireT fireG; rw [sortW_ins (by decide +kernel)]; decide +kernel
theorem wk8 : fireT sAB1 1 [⟨2, sA1, 2⟩] = [⟨2, sA1, 4⟩] ∧ fireG sAB1 1 [⟨2, sA1, 2⟩] = [] := by unfold fireT fireG; rw [sortW_ins (by decide +kernel)]; decide +kernel
theorem wk9 : armE 2 [] ⟨2, sA1, 2⟩ = 0 ∧ armG 2 [] ⟨2, sA1, 2⟩ = [⟨2, sA1, 2⟩] := by decide +kernel
theorem wk10 : fireT sA1 2 [⟨2, sA1, 2⟩] = [⟨2, sA1, 2⟩] ∧ fireG sA1 2 [⟨2, sA1, 2⟩] = [] := by unfold fireT fireG; rw [sortW_ins (by decide +kernel)]; decide +kernel
theorem wk11 : armE 2 [] ⟨7, sA1, 1⟩ = 0 ∧ armG 2 [] ⟨7, sA1, 1⟩ = [⟨7, sA1, 1⟩] := by decide +kernel
theorem wk12 : armE 2 [⟨7, sA1, 1⟩] ⟨7, sB1, 1⟩ = 0 ∧ armG 2 [⟨7, sA1, 1⟩] ⟨7, sB1, 1⟩ = [⟨7, sA1, 1⟩, ⟨7, sB1, 1⟩] := by decide +kernel
theorem wkD : dropW 7 [⟨7, sA1, 1⟩, ⟨7, sB1, 1⟩] = [] := by decide +kernel
set_option maxHeartbeats 6400000 in
theorem watchKnown_any (w : World) (hG : GL w) : Calls Tryd.prog 5 #[] w fun e w' => e = .returned (.bool true) ∧ Ext w w' := by
  have hq := eqEv_run
  have hgd := eqEv_gd
  have HG := Lib.hid hG
  clear hG
  go_enter Tryd.func5, Tryd.ntmps5
  go_wp2_with (fail)
  refine (awake_any w HG.out).mono ?_
  rintro e w0 ⟨rfl, hx0⟩
  have HX0 := Lib.hid hx0
  have HG0 := Lib.hid (HG.out.ext hx0)
  clear hx0 HG
  go_wp2_with (fail)
  refine (watNew_bad 0 w0 (.inl (by decide))).mono ?_
  rintro e w1 ⟨rfl, rfl⟩
  go_wp2_with (fail)
  refine (wsNew 2 w0 w0 (Kp.refl _ _) (by decide) (by decide)).mono ?_
  rintro e w1 ⟨rfl, h1⟩
  obtain ⟨b, hb⟩ : ∃ b, w0.heap.size = b := ⟨_, rfl⟩
  rw [hb] at h1 ⊢
  have HW := Lib.hid h1
  clear h1 hb
  have hA := wsArm HW.out HG0.out ⟨0, sA1, 1⟩ (by decide) (by decide)
  rw [wk0.1, wk0.2] at hA
  clear HW
  go_wp2_with (fail)
  refine hA.mono ?_
  rintro e v0 ⟨rfl, ro0, h2, ha, hk⟩
  have HW := Lib.hid h2
  clear h2 hA ha hk
  have hA := wsArm HW.out HG0.out ⟨1, sa0, 1⟩ (by decide) (by decide)
  rw [wk1.1, wk1.2] at hA
  clear HW
  go_wp2_with (fail)
  refine hA.mono ?_
  rintro e v1 ⟨rfl, ro1, h2, ha, hk⟩
  have HW := Lib.hid h2
  clear h2 hA ha hk
  have hA := wsArm HW.out HG0.out ⟨1, sA1, 3⟩ (by decide) (by decide)
  rw [wk2.1, wk2.2] at hA
  clear HW
  go_wp2_with (fail)
  refine hA.mono ?_
  rintro e v2 ⟨rfl, ro2, h2, ha, hk⟩
  have HW := Lib.hid h2
  clear h2 hA ha hk
  have hA := wsArm HW.out HG0.out ⟨2, sA1, 2⟩ (by decide) (by decide)
  rw [wk3.1, wk3.2] at hA
  clear HW
  go_wp2_with (fail)
  refine hA.mono ?_
  rintro e v3 ⟨rfl, ro3, h2, ha, hk⟩
  have HW := Lib.hid h2
  clear h2 hA ha hk
  have hA := wsArm HW.out HG0.out ⟨2, sA1, 2⟩ (by decide) (by decide)
  rw [wk4.1, wk4.2] at hA
  clear HW
  go_wp2_with (fail)
  refine hA.mono ?_
  rintro e v4 ⟨rfl, ro4, h2, ha, hk⟩
  have HW := Lib.hid h2
  clear h2 hA ha hk
  have hA := wsArm HW.out HG0.out ⟨1, sAB1, 1⟩ (by decide) (by decide)
  rw [wk5.1, wk5.2] at hA
  clear HW
  go_wp2_with (fail)
  refine hA.mono ?_
  rintro e v5 ⟨rfl, ro5, h2, ha, hk⟩
  have HW := Lib.hid h2
  clear h2 hA ha hk
  have hA := wsArm HW.out HG0.out ⟨3, sA1, 1⟩ (by decide) (by decide)
  rw [wk6.1, wk6.2] at hA
  clear HW
  go_wp2_with (fail)
  refine hA.mono ?_
  rintro e v6 ⟨rfl, ro6, h2, ha, hk⟩
  have HW := Lib.hid h2
  clear h2 hA ha hk
  have hF := wsFire HW.out HG0.out sAB1 3 (by decide) (by decide)
  rw [wk7.1, wk7.2] at hF
  clear HW
  go_wp2_with (fail)
  refine hF.mono ?_
  rintro e v7 ⟨ux, rfl, he, h2, hk⟩
  have HEx := Lib.hid he
  obtain ⟨ax, cx, ex, _⟩ := he.open
  subst ex
  have HW := Lib.hid h2
  clear h2 hF hk he
  have hF := wsFire HW.out HG0.out sAB1 1 (by decide) (by decide)
  rw [wk8.1, wk8.2] at hF
  clear HW
  go_wp2_with (fail)
  refine hF.mono ?_
  rintro e v8 ⟨uy, rfl, he, h2, hk⟩
  have HEx := Lib.hid (HEx.out.step hk (fun i hi => .inl hi))
  have HEy := Lib.hid he
  obtain ⟨ay, cy, ey, _⟩ := he.open
  subst ey
  have HW := Lib.hid h2
  clear h2 hF hk he
  have hA := wsArm HW.out HG0.out ⟨2, sA1, 2⟩ (by decide) (by decide)
  rw [wk9.1, wk9.2] at hA
  clear HW
  go_wp2_with (fail)
  refine hA.mono ?_
  rintro e v9 ⟨rfl, ro9, h2, ha, hk⟩
  have HEx := Lib.hid (HEx.out.step hk ha)
  have HEy := Lib.hid (HEy.out.step hk ha)
  have HW := Lib.hid h2
  clear h2 hA ha hk
  have hF := wsFire HW.out HG0.out sA1 2 (by decide) (by decide)
  rw [wk10.1, wk10.2] at hF
  clear HW
  go_wp2_with (fail)
  refine hF.mono ?_
  rintro e v10 ⟨uz, rfl, he, h2, hk⟩
  have HEx := Lib.hid (HEx.out.step hk (fun i hi => .inl hi))
  have HEy := Lib.hid (HEy.out.step hk (fun i hi => .inl hi))
  have HEz := Lib.hid he
  obtain ⟨az, cz, ez, _⟩ := he.open
  subst ez
  have HW := Lib.hid h2
  clear h2 hF hk he
  have hA := wsArm HW.out HG0.out ⟨7, sA1, 1⟩ (by decide) (by decide)
  rw [wk11.1, wk11.2] at hA
  clear HW
  go_wp2_with (fail)
  refine hA.mono ?_
  rintro e v11 ⟨rfl, ro11, h2, ha, hk⟩
  have HEx := Lib.hid (HEx.out.step hk ha)
  have HEy := Lib.hid (HEy.out.step hk ha)
  have HEz := Lib.hid (HEz.out.step hk ha)
  have HW := Lib.hid h2
  clear h2 hA ha hk
  have hA := wsArm HW.out HG0.out ⟨7, sB1, 1⟩ (by decide) (by decide)
  rw [wk12.1, wk12.2] at hA
  clear HW
  go_wp2_with (fail)
  refine hA.mono ?_
  rintro e v12 ⟨rfl, ro12, h2, ha, hk⟩
  have HEx := Lib.hid (HEx.out.step hk ha)
  have HEy := Lib.hid (HEy.out.step hk ha)
  have HEz := Lib.hid (HEz.out.step hk ha)
  have HW := Lib.hid h2
  clear h2 hA ha hk
  obtain ⟨ax', cx', ex, hopx⟩ := HEx.out.open
  simp only [Value.slice.injEq] at ex
  obtain ⟨rfl, _, rfl⟩ := ex
  obtain ⟨gx, fx, rfl, _, hcx⟩ := hopx (by decide)
  obtain ⟨x0, x1, x2⟩ := hcx 0 (by decide)
  simp only [Nat.zero_mul, Nat.add_zero] at x0 x1 x2
  clear hopx hcx
  obtain ⟨ay', cy', ey, hopy⟩ := HEy.out.open
  simp only [Value.slice.injEq] at ey
  obtain ⟨rfl, _, rfl⟩ := ey
  obtain ⟨gy, fy, rfl, _, hcy⟩ := hopy (by decide)
  obtain ⟨y0, y1, y2⟩ := hcy 0 (by decide)
  simp only [Nat.zero_mul, Nat.add_zero] at y0 y1 y2
  clear hopy hcy
  obtain ⟨az', cz', ez, hopz⟩ := HEz.out.open
  simp only [Value.slice.injEq] at ez
  obtain ⟨rfl, _, rfl⟩ := ez
  obtain ⟨gz, fz, rfl, _, hcz⟩ := hopz (by decide)
  obtain ⟨z0, z1, z2⟩ := hcz 0 (by decide)
  simp only [Nat.zero_mul, Nat.add_zero] at z0 z1 z2
  clear hopz hcz
  have hD := wsDrop HW.out 7 (by decide)
  rw [wkD] at hD
  go_wp2_with (fail)
  refine hD.mono ?_
  rintro e z1 ⟨rfl, h2, _⟩
  have hL := wsLen h2
  have hF := wsFire h2 HG0.out sA1 9 (by decide) (by decide)
  rw [(fire2 sA1 9).1, (fire2 sA1 9).2] at hF
  clear h2 hD HW
  go_wp2_with (fail)
  refine hL.mono ?_
  rintro e z2 ⟨rfl, rfl⟩
  go_wp2_with (fail)
  refine hF.mono ?_
  rintro e z3 ⟨ul, rfl, he, h3, _⟩
  obtain ⟨al, cl, rfl, _⟩ := he.open
  have HX := Lib.hid (HX0.out.trans h3.2.2.2)
  clear he h3 hF hL
  go_wp2_with (fail)
  go_ret
  exact ⟨rfl, HX.out⟩
end Go.Proofs.YtiplmahjmkmddaaDoor
