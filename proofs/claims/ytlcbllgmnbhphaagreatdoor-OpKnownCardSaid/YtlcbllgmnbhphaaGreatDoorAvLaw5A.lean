/- Walks of package aviarylaw5: awake, OpParts. -/
import Derived.Test.YtlcbllgmnbhphaaGreatDoorAvWGet
import Derived.Deep.DeepCutAuto
namespace Go.Proofs.YtlcbllgmnbhphaaGreatDoor
set_option maxRecDepth 100000
open Go.RowKit Av

/-- What a law's call comes to. -/
def LawOK (w : World) (e : Ending) (w' : World) : Prop := e = .returned (.bool true) ∧ Ext w w'
def oA : OpV := ⟨3, ⟨#[47, 97]⟩, ⟨#[120]⟩, -1, 0⟩
def oB : OpV := ⟨1, ⟨#[47, 97]⟩, ⟨#[]⟩, 0, 2⟩
theorem oB_bad : goodO oB = 1 := by
  have h1 : formedB oB = true := by decide +kernel
  have h2 : numberedB oB = false := by
    unfold numberedB
    rw [show decide (1 < (partsL oB.path.data.toList).length) = false by decide +kernel, show decide (oB.flags < 2) = false by decide]
    rfl
  unfold goodO
  rw [h1, h2]
  decide
theorem oA_good : goodO oA = 0 := by
  have h1 : formedB oA = true := by decide +kernel
  have h2 : numberedB oA = true := by
    unfold numberedB
    rw [show decide (oA.flags < 2) = true by decide]
    rfl
  unfold goodO
  rw [h1, h2]
  decide
theorem mayA : mayR 1 2 [oA] = 0 := by
  rw [mayR_all (by decide) (by decide) (by intro x hx; simp at hx; subst hx; exact oA_good)]
  decide
theorem encA : getR (putR 1 2 [oA]) = some (1, 2, [oA]) := by
  unfold putR
  rw [if_pos mayA]
  exact getR_enc mayA ⟨by decide, by decide⟩ ⟨by decide, by decide⟩ (by intro o ho; simp at ho; subst ho; exact ⟨⟨by decide, by decide⟩, ⟨by decide, by decide⟩, ⟨by decide, by decide⟩⟩)
theorem szA : OpsSz [oA] := by intro o ho; simp at ho; subst ho; exact ⟨by decide, by decide⟩
theorem opsA (w : World) : OpsAt (w.alloc (.cells #[.int .i64 3, .string ⟨#[47, 97]⟩, .string ⟨#[120]⟩, .int .i64 (-1), .int .i64 0] 24)) (.slice (some ⟨w.heap.size, 0, none⟩) 1 1) [oA] :=
  ⟨Sl.of_block (xs := oA.cells) (heap_alloc_new w _) rfl (by decide) (Nat.le_refl _), Shp.some⟩
theorem put_len (s n : Int) (xs : List OpV) : (putR s n xs).length ≤ 100000 := by
  unfold putR
  split
  · rename_i h
    obtain ⟨_, _, _, o4, o5, _⟩ := mayR_ok h
    have := encs_len xs o5
    unfold encR
    simp only [List.length_append, be8_len]
    omega
  · simp
theorem getA (v : Value) (w : World) (hG : GT w) (hb : BytesR w v (putR 1 2 [oA])) :
    Calls Tryz.prog 20 #[v] w fun e w' => ∃ v, e = .returned (.tuple #[.agg #[.int .i64 1, .int .i64 2, v], .int .i64 0]) ∧ OpsAt w' v [oA] ∧ Ext w w' := by
  have h := get_any v (putR 1 2 [oA]) w hG hb (by have := put_len 1 2 [oA]; omega)
  unfold getE at h
  rw [encA] at h
  exact h
set_option maxHeartbeats 1600000 in
theorem awake_any (w : World) (hG : GT w) : Calls Tryz.prog 6 #[] w (LawOK w) := by
  have hx0 : Ext w (w.alloc (.cells #[.int .i64 3, .string ⟨#[47, 97]⟩, .string ⟨#[120]⟩, .int .i64 (-1), .int .i64 0] 24)) := (Kp.refl _ _).alloc _
  obtain ⟨wA, hwA⟩ : ∃ wA, (w.alloc (.cells #[.int .i64 3, .string ⟨#[47, 97]⟩, .string ⟨#[120]⟩, .int .i64 (-1), .int .i64 0] 24)).alloc (.cells #[.int .i64 1, .int .i64 2, .slice (some ⟨w.heap.size, 0, none⟩) 1 1] 31) = wA := ⟨_, rfl⟩
  have hxA : Ext w wA := by rw [← hwA]; exact hx0.alloc _
  have hoA : OpsAt wA (.slice (some ⟨w.heap.size, 0, none⟩) 1 1) [oA] := by rw [← hwA]; exact (opsA w).ext ((Kp.refl _ _).alloc _)
  have hrA : Blk wA (w.heap.size + 1) #[.int .i64 1, .int .i64 2, .slice (some ⟨w.heap.size, 0, none⟩) 1 1] 31 := by
    rw [← hwA]
    have := heap_alloc_new (w.alloc (.cells #[.int .i64 3, .string ⟨#[47, 97]⟩, .string ⟨#[120]⟩, .int .i64 (-1), .int .i64 0] 24)) (.cells #[.int .i64 1, .int .i64 2, .slice (some ⟨w.heap.size, 0, none⟩) 1 1] 31)
    simpa [Blk] using this
  have HPUT := Lib.hid (put_any 1 2 _ [oA] wA (hG.ext hxA) hoA szA)
  have HGOOD := Lib.hid (fun W h => opGood_any oB W h (by decide) (by decide))
  rw [oB_bad] at HGOOD
  have HMAY := Lib.hid (fun v W h h2 => may_any 1 2 v [oA] W h h2 szA)
  rw [mayA] at HMAY
  have HSAME := Lib.hid (fun va vb W h h2 => opSame_any 1 2 1 2 va vb [oA] [oA] W h h2)
  rw [show sameR 1 2 [oA] 1 2 [oA] = true by decide +kernel] at HSAME
  have HWR := Lib.hid (fun v W h => writes_any 1 2 v [oA] W h)
  rw [show ([oA].any fun o => writesB o.kind) = true by decide +kernel] at HWR
  have HXA := Lib.hid hxA
  have HOA := Lib.hid hoA
  have HWA := Lib.hid hwA
  have r0 := hrA.cell 0 _ rfl
  have r1 := hrA.cell 1 _ rfl
  have r2 := hrA.cell 2 _ rfl
  have HRA := Lib.hid hrA
  clear hx0 hxA hoA hrA hwA
  go_enter Tryz.func6, Tryz.ntmps6
  go_upto_region 2 with (fail)
  rw [HWA.out]
  go_wp2_with (fail)
  refine HPUT.out.mono ?_
  rintro e w1 ⟨v1, rfl, hb1, hx1⟩
  have h1 := HXA.out.ext hx1
  have HG1 := Lib.hid (getA v1 w1 (hG.ext h1) hb1)
  have HO1 := Lib.hid (HOA.out.ext hx1)
  have HR1 := Lib.hid (HRA.out.kp hx1 (fun f => f))
  have H1 := Lib.hid h1
  clear hb1 hx1 h1 HRA HOA HXA HPUT r0 r1 r2
  go_wp2_with (fail)
  refine HG1.out.mono ?_
  rintro e w2 ⟨v2, rfl, ho2, hx2⟩
  obtain ⟨a2, l2, c2, hv2⟩ : ∃ a2 l2 c2, v2 = .slice a2 l2 c2 := by obtain ⟨a, c, e, _⟩ := Sl.open ho2.1; exact ⟨_, _, _, e⟩
  subst hv2
  obtain ⟨wB, hwB⟩ : ∃ wB, w2.alloc (.cells #[.int .i64 1, .int .i64 2, .slice a2 l2 c2] 31) = wB := ⟨_, rfl⟩
  have hxB : Ext w2 wB := by rw [← hwB]; exact (Kp.refl _ _).alloc _
  have HO2 := Lib.hid (ho2.ext hxB)
  have HO1' := Lib.hid ((HO1.out.ext hx2).ext hxB)
  have HQ : Blk wB w2.heap.size #[.int .i64 1, .int .i64 2, .slice a2 l2 c2] 31 := by rw [← hwB]; exact heap_alloc_new w2 _
  have HQ2 := Lib.hid HQ
  have HR2 := Lib.hid (Blk.kp (Blk.kp HR1.out hx2 (fun f => f)) hxB (fun f => f))
  have HH2 := Lib.hid ((H1.out.ext hx2).ext hxB)
  have HWB := Lib.hid hwB
  clear ho2 hx2 hxB HQ hwB HR1 HO1 HG1 H1
  go_upto_region 3 with (fail)
  rw [HWB.out]
  go_wp2_with (fail)
  refine (HGOOD.out wB (hG.ext HH2.out)).mono ?_
  rintro e w3 ⟨rfl, hx3⟩
  have HR3 := Lib.hid (Blk.kp HR2.out hx3 (fun f => f))
  have HQ3 := Lib.hid (Blk.kp HQ2.out hx3 (fun f => f))
  have HO3 := Lib.hid (HO2.out.ext hx3)
  have HP3 := Lib.hid (HO1'.out.ext hx3)
  have HH3 := Lib.hid (HH2.out.ext hx3)
  clear HR2 HQ2 HO2 HO1' HH2 HWB hx3
  have r0 := HR3.out.cell 0 _ rfl
  have r1 := HR3.out.cell 1 _ rfl
  have r2 := HR3.out.cell 2 _ rfl
  go_wp2_with (fail)
  refine (HMAY.out _ w3 (hG.ext HH3.out) HP3.out).mono ?_
  rintro e w4 ⟨rfl, hx4⟩
  clear r0 r1 r2
  have r0 := (Blk.kp HR3.out hx4 (fun f => f)).cell 0 _ rfl
  have r1 := (Blk.kp HR3.out hx4 (fun f => f)).cell 1 _ rfl
  have r2 := (Blk.kp HR3.out hx4 (fun f => f)).cell 2 _ rfl
  have q0 := (Blk.kp HQ3.out hx4 (fun f => f)).cell 0 _ rfl
  have q1 := (Blk.kp HQ3.out hx4 (fun f => f)).cell 1 _ rfl
  have q2 := (Blk.kp HQ3.out hx4 (fun f => f)).cell 2 _ rfl
  have HO4 := Lib.hid (HO3.out.ext hx4)
  have HP4 := Lib.hid (HP3.out.ext hx4)
  have HH4 := Lib.hid (HH3.out.ext hx4)
  have HX4 := Lib.hid hx4
  clear hx4
  go_wp2_with (fail)
  refine (HSAME.out _ _ w4 HO4.out HP4.out).mono ?_
  rintro e w5 ⟨rfl, hx5⟩
  clear r0 r1 r2 q0 q1 q2
  have r0 := (Blk.kp (Blk.kp HR3.out HX4.out (fun f => f)) hx5 (fun f => f)).cell 0 _ rfl
  have r1 := (Blk.kp (Blk.kp HR3.out HX4.out (fun f => f)) hx5 (fun f => f)).cell 1 _ rfl
  have r2 := (Blk.kp (Blk.kp HR3.out HX4.out (fun f => f)) hx5 (fun f => f)).cell 2 _ rfl
  have HP5 := Lib.hid (HP4.out.ext hx5)
  have HH5 := Lib.hid (HH4.out.ext hx5)
  clear hx5
  go_wp2_with (fail)
  refine (HWR.out _ w5 HP5.out).mono ?_
  rintro e w6 ⟨rfl, hx6⟩
  go_wp2_with (fail)
  go_ret
  go_light
  exact ⟨rfl, HH5.out.ext hx6⟩

/-- What makes a request one that may be. -/
def headB (s n : Int) (xs : List OpV) : Bool := decide (1 ≤ s) && (decide (1 ≤ n) && (decide (1 ≤ xs.length) && decide (xs.length ≤ 16)))
def partB (xs : List OpV) (o : OpV) : Bool := decide (goodO o = 0) && (decide (xs.length = 1) || decide (o.kind < 5))
theorem parts_may (s n : Int) (xs : List OpV) : (headB s n xs && xs.all (partB xs)) = decide (mayR s n xs = 0) := by
  rw [Bool.eq_iff_iff]
  simp only [headB, Bool.and_eq_true, decide_eq_true_eq, List.all_eq_true]
  constructor
  · rintro ⟨⟨h1, h2, h3, h4⟩, h5⟩
    have hg : ∀ o ∈ xs, goodO o = 0 := fun o ho => by have := h5 o ho; simp only [partB, Bool.and_eq_true, decide_eq_true_eq] at this; exact this.1
    rw [mayR_all (by omega) (by omega) hg]
    refine if_neg ?_
    rintro ⟨hl, ha⟩
    obtain ⟨o, ho, hr⟩ := List.any_eq_true.1 ha
    have := h5 o ho
    simp only [partB, Bool.and_eq_true, Bool.or_eq_true, decide_eq_true_eq] at this
    rw [readsB_ge this.1, decide_eq_true_eq] at hr
    omega
  · intro h
    obtain ⟨h1, h2, h3, h4, h5, h6⟩ := mayR_ok h
    refine ⟨⟨h1, h2, h3, h4⟩, fun o ho => ?_⟩
    simp only [partB, Bool.and_eq_true, Bool.or_eq_true, decide_eq_true_eq]
    refine ⟨h5 o ho, ?_⟩
    rcases h6 with h6 | h6
    · exact .inl h6
    · have := h6 o ho
      rw [readsB_ge (h5 o ho), decide_eq_false_iff_not] at this
      exact .inr (by omega)
theorem all_take {α : Type} (f : α → Bool) (l : List α) (k : Nat) (h : k < l.length) : (l.take (k + 1)).all f = ((l.take k).all f && f l[k]) := by
  rw [List.take_succ_eq_append_getElem h, List.all_append]
  simp
def PartsRel (w : World) (g : Bool) (f : OpV → Bool) (xs : List OpV) (v i : Value) (wr : World) : Prop :=
  ∃ k : Nat, k ≤ xs.length ∧ i = .int .i64 k ∧ v = .bool (g && (xs.take k).all f) ∧ Ext w wr
theorem put_pos {s n : Int} {xs : List OpV} (h : mayR s n xs = 0) : 0 < (putR s n xs).length := by
  unfold putR
  rw [if_pos h]
  unfold encR
  simp only [List.length_append, be8_len]
  omega
end Go.Proofs.YtlcbllgmnbhphaaGreatDoor
