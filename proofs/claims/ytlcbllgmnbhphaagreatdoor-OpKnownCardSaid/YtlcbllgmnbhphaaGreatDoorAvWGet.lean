/- Walks: op.Get. -/
import Derived.Test.YtlcbllgmnbhphaaGreatDoorAvDecLaw
import Derived.Test.YtlcbllgmnbhphaaGreatDoorAvWText
namespace Go.Proofs.YtlcbllgmnbhphaaGreatDoor
set_option maxRecDepth 100000
open Go.RowKit Av

theorem ops_facts : ElemOk Tryz.prog 29 24 5 := ⟨by kernel_rfl, by kernel_rfl⟩
abbrev reqT : TypeId := 31
abbrev opT : TypeId := 24
/-- What op.Get holds between two ops: its result, its reader, its request. -/
structure GetSt (w W : World) (base gr g rb : Nat) (s n : Int) (v : Value) (xs : List OpV) (t : Rd) : Prop where
  bgr : Blk W gr #[.int .i64 0, .int .i64 0, .slice none 0 0] reqT
  rd : RdAt W g t
  brb : Blk W rb #[.int .i64 s, .int .i64 n, v] reqT
  own : W.ownsRow base opT 5 v xs.length (xs.flatMap OpV.cells)
  ext : Ext w W
  h1 : w.heap.size ≤ gr
  h2 : gr < g
  h3 : g < rb
  h4 : rb < base
  h5 : base ≤ W.heap.size
theorem owns_lt {w : World} {base k n : Nat} {e : TypeId} {v : Value} {xs : List Value} (h : w.ownsRow base e k v n xs) : ∀ b, v.ownBlock = some b → b < w.heap.size ∧ base ≤ b := by
  obtain ⟨_, h2⟩ := h
  rcases h2 with ⟨rfl, _⟩ | ⟨g, cap, cur, rfl, hb, hg, _⟩
  · intro b hb; simp [Value.ownBlock] at hb
  · intro b hb'
    simp [Value.ownBlock] at hb'
    subst hb'
    exact ⟨(Array.getElem?_eq_some_iff.1 hg).1, hb⟩
section
variable {w W w' : World} {base gr g rb ob : Nat} {s n : Int} {v : Value} {xs : List OpV} {t t' : Rd} {c : Array Value}
theorem GetSt.step {S : Nat → Prop} (h : GetSt w W base gr g rb s n v xs t) (k : Kp S W w') (hr : RdAt w' g t') (hS : ∀ i, i < W.heap.size → S i → i = g ∨ (base ≤ i ∧ ∀ b, v.ownBlock = some b → b ≠ i)) : GetSt w w' base gr g rb s n v xs t' := by
  have a1 := h.h1; have a2 := h.h2; have a3 := h.h3; have a4 := h.h4; have a5 := h.h5
  refine ⟨h.bgr.kp k (fun q => ?_), hr, h.brb.kp k (fun q => ?_), ownsRow.kp h.own k (fun b hb q => ?_), h.ext.next k (fun i hi q => ?_), a1, a2, a3, a4, Nat.le_trans a5 k.size⟩
  · rcases hS _ h.bgr.lt q with e | ⟨e, _⟩ <;> omega
  · rcases hS _ h.brb.lt q with e | ⟨e, _⟩ <;> omega
  · have := owns_lt h.own b hb
    rcases hS _ this.1 q with e | ⟨_, e⟩
    · omega
    · exact e b hb rfl
  · have hsz := h.ext.size
    rcases hS i (by omega) q with e | ⟨e, _⟩ <;> omega
theorem GetSt.call (h : GetSt w W base gr g rb s n v xs t) (k : Kp (fun i => i = g) W w') (hr : RdAt w' g t') : GetSt w w' base gr g rb s n v xs t' := h.step k hr (fun _ _ e => .inl e)
theorem GetSt.exts (h : GetSt w W base gr g rb s n v xs t) (k : Ext W w') : GetSt w w' base gr g rb s n v xs t := h.step (S := fun _ => False) k (h.rd.ext k) (fun _ _ f => f.elim)
theorem GetSt.fin (h : GetSt w W base gr g rb s n v xs t) (u0 u1 u2 : Value) : Ext w (((W.setCell ⟨gr, 0, none⟩ u0).setCell ⟨gr, 1, none⟩ u1).setCell ⟨gr, 2, none⟩ u2) ∧ OpsAt (((W.setCell ⟨gr, 0, none⟩ u0).setCell ⟨gr, 1, none⟩ u1).setCell ⟨gr, 2, none⟩ u2) v xs := by
  have a1 := h.h1; have a2 := h.h2; have a3 := h.h3; have a4 := h.h4
  have k : Kp (fun i => i = gr) W (((W.setCell ⟨gr, 0, none⟩ u0).setCell ⟨gr, 1, none⟩ u1).setCell ⟨gr, 2, none⟩ u2) := Kp.set1 (Kp.set1 (Kp.set1 (Kp.refl (fun i => i = gr) W) gr 0 u0 rfl) gr 1 u1 rfl) gr 2 u2 rfl
  refine ⟨h.ext.next k (fun i hi (e : i = gr) => by omega), ?_⟩
  have ho : OpsAt W v xs := ⟨Sl.of_owns h.own, shp_owns h.own⟩
  exact ho.kp k (fun b hb _ (e : b = gr) => by have := (owns_lt h.own b hb).2; omega)
theorem GetSt.alloc (h : GetSt w W base gr g rb s n v xs t) (o : Obj) : GetSt w (W.alloc o) base gr g rb s n v xs t :=
  h.step (S := fun _ => False) ((Kp.refl _ W).alloc o) (h.rd.ext ((Kp.refl _ W).alloc o)) (fun _ _ f => f.elim)
/-- And the op that is being read. -/
structure OpSt (w W : World) (base gr g rb ob : Nat) (s n : Int) (v : Value) (xs : List OpV) (t : Rd) (c : Array Value) : Prop where
  st : GetSt w W base gr g rb s n v xs t
  bob : Blk W ob c opT
  h6 : base ≤ ob
  vob : ∀ b, v.ownBlock = some b → b < ob
theorem GetSt.op (h : GetSt w W base gr g rb s n v xs t) (c : Array Value) : OpSt w (W.alloc (.cells c opT)) base gr g rb W.heap.size s n v xs t c :=
  ⟨h.alloc _, heap_alloc_new W _, h.h5, fun b hb => (owns_lt h.own b hb).1⟩
theorem OpSt.call (h : OpSt w W base gr g rb ob s n v xs t c) (k : Kp (fun i => i = g) W w') (hr : RdAt w' g t') : OpSt w w' base gr g rb ob s n v xs t' c :=
  ⟨h.st.call k hr, h.bob.kp k (fun e => by have := h.h6; have := h.st.h3; have := h.st.h4; omega), h.h6, h.vob⟩
theorem OpSt.put (h : OpSt w W base gr g rb ob s n v xs t c) (i : Nat) (u : Value) : OpSt w (W.setCell ⟨ob, i, none⟩ u) base gr g rb ob s n v xs t (c.setIfInBounds i u) := by
  have a2 := h.st.h2; have a3 := h.st.h3; have a4 := h.st.h4; have a6 := h.h6
  have k : Kp (fun i => i = ob) W (W.setCell ⟨ob, i, none⟩ u) := Kp.set1 (Kp.refl (fun i => i = ob) W) ob i u rfl
  exact ⟨h.st.step k (h.st.rd.kp k (by omega) (fun i hi (e : i = ob) => by omega)) (fun i _ (e : i = ob) => .inr ⟨by omega, fun b hb => by have := h.vob b hb; omega⟩), h.bob.set i u, h.h6, h.vob⟩
/-- An op more. -/
theorem GetSt.more (h : GetSt w W base gr g rb s n v xs t) {v' : Value} (o : OpV) (k : Kp (fun i => v.ownBlock = some i) W w') (own : w'.ownsRow base opT 5 v' (xs.length + 1) (xs.flatMap OpV.cells ++ o.cells)) :
    GetSt w (w'.setCell ⟨rb, 2, none⟩ v') base gr g rb s n v' (xs ++ [o]) t := by
  have a1 := h.h1; have a2 := h.h2; have a3 := h.h3; have a4 := h.h4; have a5 := h.h5
  have k2 : Kp (fun i => i = rb) w' (w'.setCell ⟨rb, 2, none⟩ v') := Kp.set1 (Kp.refl (fun i => i = rb) w') rb 2 v' rfl
  have hge : ∀ i, v.ownBlock = some i → base ≤ i := fun i hi => (owns_lt h.own i hi).2
  have e1 : Ext w w' := h.ext.next k (fun i hi q => by have := hge i q; have := h.ext.size; omega)
  have own' : w'.ownsRow base opT 5 v' (xs ++ [o]).length ((xs ++ [o]).flatMap OpV.cells) := by
    rw [List.length_append, List.flatMap_append, List.flatMap_singleton]
    exact own
  refine ⟨(h.bgr.kp k (fun q => by have := hge _ q; omega)).kp k2 (by omega), ?_, ?_, ownsRow.kp own' k2 (fun b hb (q : b = rb) => by have := (owns_lt own' b hb).2; omega), e1.next k2 (fun i hi (q : i = rb) => by omega), a1, a2, a3, a4, Nat.le_trans (Nat.le_trans a5 k.size) k2.size⟩
  · exact (h.rd.kp k (fun q => by have := hge _ q; omega) (fun i hi q => by have := hge _ q; omega)).kp k2 (by omega) (fun i hi (e : i = rb) => by omega)
  · have hb : Blk w' rb _ _ := h.brb.kp k (fun q => by have := hge _ q; omega)
    exact hb.set 2 v'
end
/-- The loop of op.Get: k ops are read. -/
def OpGetRel (w : World) (base gr g rb : Nat) (s n : Int) (m : Nat) (t0 : Rd) (i : Value) (wr : World) : Prop :=
  ∃ k v, k ≤ m ∧ i = .int .i64 (k : Nat) ∧ GetSt w wr base gr g rb s n v (rdOs 20000 20000 k t0).1 (rdOs 20000 20000 k t0).2
def getE (b : Bs) : Int := match getR b with
  | some _ => 0
  | none => 3
set_option maxHeartbeats 1600000 in
theorem get_any (v : Value) (bs : Bs) (w : World) (hG : GT w) (hb : BytesR w v bs) (hl : bs.length ≤ 1000000000) :
    Calls Tryz.prog 20 #[v] w fun e w' => ∃ v, e = .returned (.tuple #[.agg #[.int .i64 ((getR bs).getD (0, 0, [])).1, .int .i64 ((getR bs).getD (0, 0, [])).2.1, v], .int .i64 (getE bs)]) ∧ OpsAt w' v ((getR bs).getD (0, 0, [])).2.2 ∧ Ext w w' := by
  have hE : Ext w (w.alloc (.cells #[.int .i64 0, .int .i64 0, .slice none 0 0] 31)) := (Kp.refl _ _).alloc _
  have HRD := Lib.hid (packRead_any v bs _ (hb.ext hE) hl)
  have HE := Lib.hid hE
  have hB0 : Blk (w.alloc (.cells #[.int .i64 0, .int .i64 0, .slice none 0 0] 31)) w.heap.size #[.int .i64 0, .int .i64 0, .slice none 0 0] 31 := heap_alloc_new w _
  have HB0 := Lib.hid hB0
  clear hb hE hB0
  obtain ⟨⟨s, t1⟩, e1⟩ : ∃ p, rdI (some bs) = p := ⟨_, rfl⟩
  obtain ⟨⟨n, t2⟩, e2⟩ : ∃ p, rdI t1 = p := ⟨_, rfl⟩
  obtain ⟨⟨mm, t3⟩, e3⟩ : ∃ p, rdC 16 t2 = p := ⟨_, rfl⟩
  obtain ⟨m, rfl, hm⟩ : ∃ m : Nat, mm = m ∧ m ≤ 16 := by
    cases t3 with
    | none => exact ⟨0, rdC_none' e3, by decide⟩
    | some l => have := rdC_some e3; exact ⟨mm.toNat, by omega, by omega⟩
  have HGA : Hid (getAll 20000 20000 bs = ((s, n, (rdOs 20000 20000 m t3).1), (rdOs 20000 20000 m t3).2)) := by
    show _ = _
    unfold getAll
    rw [e1]; simp only; rw [e2]; simp only; rw [e3]; simp only [Int.toNat_natCast]
  have HI1 : Hid (∀ g W, RdAt W g (some bs) → Calls Tryz.prog 40 #[.pointer (some ⟨g, 0, none⟩)] W fun e w' => e = .returned (.int .i64 s) ∧ RdAt w' g t1 ∧ Kp (fun i => i = g) W w') := by
    intro g W h; have := rdI64_any g (some bs) W h; rw [e1] at this; exact this
  have HI2 : Hid (∀ g W, RdAt W g t1 → Calls Tryz.prog 40 #[.pointer (some ⟨g, 0, none⟩)] W fun e w' => e = .returned (.int .i64 n) ∧ RdAt w' g t2 ∧ Kp (fun i => i = g) W w') := by
    intro g W h; have := rdI64_any g t1 W h; rw [e2] at this; exact this
  have HI3 : Hid (∀ g W, RdAt W g t2 → Calls Tryz.prog 41 #[.pointer (some ⟨g, 0, none⟩), .int .i64 16] W fun e w' => e = .returned (.int .i64 m) ∧ RdAt w' g t3 ∧ Kp (fun i => i = g) W w') := by
    intro g W h; have := rdCount_any g t2 16 W h; rw [e3] at this; exact this
  clear e1 e2 e3
  go_enter Tryz.func20, Tryz.ntmps20
  go_wp2_with (fail)
  refine HRD.out.mono ?_
  rintro e w1 ⟨g, rfl, hg, hr, hx⟩
  have hB1 : Blk w1 w.heap.size _ _ := HB0.out.kp hx (fun f => f)
  have hg1 := hr.lt
  simp at hg
  have HX1 := Lib.hid (HE.out.ext hx)
  clear hx
  go_wp2_with (fail)
  refine (HI1.out g w1 hr).mono ?_
  rintro e w2 ⟨rfl, hr2, hk2⟩
  have hst : GetSt w (w2.alloc (.cells #[.int .i64 s, .int .i64 0, .slice none 0 0] reqT)) (w2.heap.size + 1) w.heap.size g w2.heap.size s 0 (.slice none 0 0) [] t1 := by
    have hA : Ext w2 (w2.alloc (.cells #[.int .i64 s, .int .i64 0, .slice none 0 0] reqT)) := (Kp.refl _ w2).alloc _
    have hsz := hk2.size
    refine ⟨Blk.kp (Blk.kp hB1 hk2 (by omega)) hA (fun f => f), hr2.ext hA, heap_alloc_new w2 _, ⟨rfl, .inl ⟨rfl, rfl⟩⟩, (HX1.out.next hk2 (fun i hi (e : i = g) => by omega)).ext hA, Nat.le_refl _, by omega, by omega, by omega, by simp⟩
  have HST := Lib.hid hst
  clear hB1 hg1 hg hr hr2 hk2 hst
  obtain ⟨wA, hwA⟩ : ∃ wA, w2.alloc (.cells #[.int .i64 s, .int .i64 0, .slice none 0 0] reqT) = wA := ⟨_, rfl⟩
  rw [hwA] at HST
  have HWA := Lib.hid hwA
  clear hwA
  go_wp2_with (fail)
  rw [HWA.out]
  refine (HI2.out g wA HST.out.rd).mono ?_
  rintro e w3 ⟨rfl, hr3, hk3⟩
  have hst := HST.out.call hk3 hr3
  have f1 := hst.brb.free 1
  have c1 := hst.brb.cell 1 _ rfl
  have hst2 : GetSt w (w3.setCell ⟨w2.heap.size, 1, none⟩ (.int .i64 n)) (w2.heap.size + 1) w.heap.size g w2.heap.size s n (.slice none 0 0) [] t2 := by
    have k2 : Kp (fun i => i = w2.heap.size) w3 (w3.setCell ⟨w2.heap.size, 1, none⟩ (.int .i64 n)) := Kp.set1 (Kp.refl (fun i => i = w2.heap.size) w3) _ 1 _ rfl
    have a1 := hst.h1; have a2 := hst.h2; have a3 := hst.h3; have a4 := hst.h4; have a5 := hst.h5
    refine ⟨hst.bgr.kp k2 (by omega), hst.rd.kp k2 (by omega) (fun i hi (e : i = _) => by omega), hst.brb.set 1 _, ⟨rfl, .inl ⟨rfl, rfl⟩⟩, hst.ext.next k2 (fun i hi (e : i = _) => by omega), a1, a2, a3, a4, Nat.le_trans a5 k2.size⟩
  have HS2 := Lib.hid hst2
  clear HST HWA hst hst2 hr3 hk3
  generalize w2.heap.size = rb at *
  obtain ⟨wB, hwB⟩ : ∃ wB, w3.setCell ⟨rb, 1, none⟩ (.int .i64 n) = wB := ⟨_, rfl⟩
  rw [hwB] at HS2
  have HWB := Lib.hid hwB
  clear hwB
  go_wp2_with (fail)
  rw [HWB.out]
  refine (HI3.out g wB HS2.out.rd).mono ?_
  rintro e w4 ⟨rfl, hr4, hk4⟩
  have HS3 := Lib.hid (HS2.out.call hk4 hr4)
  clear HWB HS2 hr4 hk4 HI1 HI2 HI3 HRD HE HB0 HX1 f1 c1
  go_wp2_with (fail)
  go_loopw [17] (OpGetRel w (rb + 1) w.heap.size g rb s n m t3) (fun i _ => m - (intOf i).toNat)
  case atStart => exact ⟨0, _, Nat.zero_le _, rfl, HS3.out⟩
  case round =>
    clear HS3
    obtain ⟨k, v, hk, rfl, hst⟩ := hrel
    by_cases hlt : k < m
    · have k1 : (k : Int) < m := by omega
      obtain ⟨⟨xs, t⟩, ex⟩ : ∃ p, rdOs 20000 20000 k t3 = p := ⟨_, rfl⟩
      rw [ex] at hst
      simp only at hst
      have HN : Hid (rdOs 20000 20000 (k + 1) t3 = (xs ++ [(rdO 20000 20000 t).1], (rdO 20000 20000 t).2)) := by show _ = _; simp only [rdOs, ex]
      have HL : Hid (xs.length ≤ 16) := by show _ ≤ _; have := rdOs_len 20000 20000 t3 k; rw [ex] at this; simp only at this; omega
      obtain ⟨⟨kk, s1⟩, q1⟩ : ∃ p, rdI t = p := ⟨_, rfl⟩
      obtain ⟨⟨pp, s2⟩, q2⟩ : ∃ p, rdT 20000 s1 = p := ⟨_, rfl⟩
      obtain ⟨⟨dd, s3⟩, q3⟩ : ∃ p, rdT 20000 s2 = p := ⟨_, rfl⟩
      obtain ⟨⟨vv, s4⟩, q4⟩ : ∃ p, rdI s3 = p := ⟨_, rfl⟩
      obtain ⟨⟨ff, s5⟩, q5⟩ : ∃ p, rdI s4 = p := ⟨_, rfl⟩
      have HRO : Hid (rdO 20000 20000 t = (⟨kk, mkS pp, mkS dd, vv, ff⟩, s5)) := by
        show _ = _
        unfold rdO
        simp only [q1, q2, q3, q4, q5]
      have HC1 := Lib.hid (rdI64_any g t wr hst.rd)
      rw [q1] at HC1
      have HC2 := Lib.hid (fun W h => rdText_any g s1 20000 W h)
      rw [q2] at HC2
      have HC3 := Lib.hid (fun W h => rdText_any g s2 20000 W h)
      rw [q3] at HC3
      have HC4 := Lib.hid (fun W h => rdI64_any g s3 W h)
      rw [q4] at HC4
      have HC5 := Lib.hid (fun W h => rdI64_any g s4 W h)
      rw [q5] at HC5
      clear q1 q2 q3 q4 q5 ex
      go_wp2_with (fail)
      refine HC1.out.mono ?_
      rintro e u1 ⟨rfl, hr1, hk1⟩
      have ho1 := (hst.call hk1 hr1).op #[.int .i64 kk, .string ⟨#[]⟩, .string ⟨#[]⟩, .int .i64 0, .int .i64 0]
      clear hst hr1 hk1
      obtain ⟨ob, hob⟩ : ∃ ob, u1.heap.size = ob := ⟨_, rfl⟩
      rw [hob] at ho1
      have HO1 := Lib.hid ho1
      clear ho1
      go_wp2_with (fail)
      refine (HC2.out _ HO1.out.st.rd).mono ?_
      rintro e u2 ⟨rfl, hr2, hk2⟩
      have ho2 := HO1.out.call hk2 hr2
      have c1 := ho2.bob.cell 1 _ rfl
      have f1 := ho2.bob.free 1
      have HO2 := Lib.hid (ho2.put 1 (.string (mkS pp)))
      clear HO1 ho2 hr2 hk2
      go_wp2_with (fail)
      refine (HC3.out _ HO2.out.st.rd).mono ?_
      rintro e u3 ⟨rfl, hr3, hk3⟩
      have ho3 := HO2.out.call hk3 hr3
      have c2 := ho3.bob.cell 2 _ rfl
      have f2 := ho3.bob.free 2
      have HO3 := Lib.hid (ho3.put 2 (.string (mkS dd)))
      clear HO2 ho3 hr3 hk3 c1 f1
      go_wp2_with (fail)
      refine (HC4.out _ HO3.out.st.rd).mono ?_
      rintro e u4 ⟨rfl, hr4, hk4⟩
      have ho4 := HO3.out.call hk4 hr4
      have c3 := ho4.bob.cell 3 _ rfl
      have f3 := ho4.bob.free 3
      have HO4 := Lib.hid (ho4.put 3 (.int .i64 vv))
      clear HO3 ho4 hr4 hk4 c2 f2
      go_wp2_with (fail)
      refine (HC5.out _ HO4.out.st.rd).mono ?_
      rintro e u5 ⟨rfl, hr5, hk5⟩
      have ho5 := HO4.out.call hk5 hr5
      have c4 := ho5.bob.cell 4 _ rfl
      have f4 := ho5.bob.free 4
      have ho6 := ho5.put 4 (.int .i64 ff)
      obtain ⟨W, hW⟩ : ∃ W, u5.setCell ⟨ob, 4, none⟩ (.int .i64 ff) = W := ⟨_, rfl⟩
      rw [hW] at ho6
      have o0 := ho6.bob.cell 0 _ rfl
      have o1 := ho6.bob.cell 1 _ rfl
      have o2 := ho6.bob.cell 2 _ rfl
      have o3 := ho6.bob.cell 3 _ rfl
      have o4 := ho6.bob.cell 4 _ rfl
      have r2 := ho6.st.brb.cell 2 _ rfl
      have HO6 := Lib.hid ho6.st
      have HW := Lib.hid hW
      clear HO4 ho5 hr5 hk5 c3 f3 ho6 hW HC1 HC2 HC3 HC4 HC5 hob
      have hone := op_one [(⟨kk, mkS pp, mkS dd, vv, ff⟩ : OpV)]
      obtain ⟨a3, l3, c3', hv3⟩ : ∃ a3 l3 c3, v = .slice a3 l3 c3 := by obtain ⟨a3, c3, e, _⟩ := Sl.open (Sl.of_owns HO6.out.own); exact ⟨_, _, _, e⟩
      subst hv3
      go_upto_region 11 with (fail)
      rw [HW.out]
      go_wp2_with (at_builtin; refine wpList_appK 29 24 5 (by decide) ops_facts rfl _ _ rfl (rb + 1) _ _ _ rfl (HO6.out.alloc _).own _ 1 ([(⟨kk, mkS pp, mkS dd, vv, ff⟩ : OpV)].flatMap OpV.cells) rfl (Sl.of_block (heap_alloc_new W _) rfl (by decide) (Nat.le_refl _)) Shp.some hone ?c1 ?c2 ?_)
      case c1 => have := HL.out; omega
      case c2 => exact (HO6.out.alloc _).h5
      intro v' w' h1 k2
      obtain ⟨a4, l4, c4', hv4⟩ : ∃ a4 l4 c4, v' = .slice a4 l4 c4 := by obtain ⟨a4, c4, e, _⟩ := Sl.open (Sl.of_owns h1); exact ⟨_, _, _, e⟩
      subst hv4
      have hst' := (HO6.out.alloc (.cells #[.int .i64 kk, .string (mkS pp), .string (mkS dd), .int .i64 vv, .int .i64 ff] opT)).more ⟨kk, mkS pp, mkS dd, vv, ff⟩ k2 (by simpa using h1)
      have hbr : Blk w' rb #[.int .i64 s, .int .i64 n, .slice a3 l3 c3'] reqT := Blk.kp (HO6.out.alloc (.cells #[.int .i64 kk, .string (mkS pp), .string (mkS dd), .int .i64 vv, .int .i64 ff] opT)).brb k2 (fun q => by have := (owns_lt HO6.out.own _ q).2; omega)
      have b2 := hbr.cell 2 _ rfl
      have fb2 := hbr.free 2
      have HST' := Lib.hid hst'
      clear hst' hbr h1 k2 o0 o1 o2 o3 o4 r2 c4 f4 hone
      go_wp2_with (fail)
      go_light
      refine ⟨⟨k + 1, .slice a4 l4 c4', by omega, by go_num, by rw [HN.out, HRO.out]; exact HST'.out⟩, by simp [intOf]; omega⟩
    · obtain rfl : k = m := by omega
      obtain ⟨a3, l3, c3, hv3⟩ : ∃ a3 l3 c3, v = .slice a3 l3 c3 := by obtain ⟨a3, c3, e, _⟩ := Sl.open (Sl.of_owns hst.own); exact ⟨_, _, _, e⟩
      subst hv3
      obtain ⟨⟨xs, t⟩, ex⟩ : ∃ p, rdOs 20000 20000 k t3 = p := ⟨_, rfl⟩
      have hsz : OpsSz xs := by have := rdOs_sz t3 k; rw [ex] at this; exact this
      rw [ex] at hst HGA
      simp only at hst HGA
      have HSZ := Lib.hid hsz
      clear ex hsz
      have g0 := hst.bgr.cell 0 _ rfl
      have g1 := hst.bgr.cell 1 _ rfl
      have g2 := hst.bgr.cell 2 _ rfl
      have p0 := hst.bgr.free 0
      have p1 := hst.bgr.free 1
      have p2 := hst.bgr.free 2
      have r0 := hst.brb.cell 0 _ rfl
      have r1 := hst.brb.cell 1 _ rfl
      have r2 := hst.brb.cell 2 _ rfl
      have HST := Lib.hid hst
      clear hst
      by_cases ht : t = some []
      · subst ht
        have HEND := Lib.hid (rdEnd_any g _ wr HST.out.rd)
        rw [show decide ((some [] : Rd) = some []) = true by decide] at HEND
        have hop : OpsAt wr (.slice a3 l3 c3) xs := ⟨Sl.of_owns HST.out.own, shp_owns HST.out.own⟩
        have HM := Lib.hid (may_any s n (.slice a3 l3 c3) xs wr (hG.ext HST.out.ext) hop HSZ.out)
        have HOP := Lib.hid hop
        clear hop
        by_cases hz : mayR s n xs = 0
        · rw [hz] at HM
          have HR : Hid (getR bs = some (s, n, xs)) := by
            show _ = _
            unfold getR
            rw [HGA.out]
            exact if_pos ⟨rfl, hz⟩
          clear hz
          go_wp2_with (fail)
          refine HEND.out.mono ?_
          rintro e w' ⟨rfl, rfl⟩
          go_wp2_with (fail)
          refine HM.out.mono ?_
          rintro e wM ⟨rfl, hxM⟩
          have hst := HST.out.exts hxM
          have g0 := hst.bgr.cell 0 _ rfl
          have g1 := hst.bgr.cell 1 _ rfl
          have g2 := hst.bgr.cell 2 _ rfl
          have p0 := hst.bgr.free 0
          have p1 := hst.bgr.free 1
          have p2 := hst.bgr.free 2
          have r0 := hst.brb.cell 0 _ rfl
          have r1 := hst.brb.cell 1 _ rfl
          have r2 := hst.brb.cell 2 _ rfl
          have HF := Lib.hid (hst.fin (.int .i64 s) (.int .i64 n) (.slice a3 l3 c3))
          clear HST hst hxM HM HOP HSZ
          go_wp2_with (fail)
          go_light
          refine bodyPost_ret (v := .tuple #[.agg #[.int .i64 s, .int .i64 n, .slice a3 l3 c3], .int .i64 0]) (by simp [results, Tryz.results20, go_sem, g0, g1, g2]) rfl ⟨.slice a3 l3 c3, ?_, ?_, HF.out.1⟩
          · unfold getE; rw [HR.out]; rfl
          · rw [HR.out]; exact HF.out.2
        · have HR : Hid (getR bs = none) := by
            show _ = _
            unfold getR
            rw [HGA.out]
            exact if_neg (fun q => hz q.2)
          go_wp2_with (fail)
          refine HEND.out.mono ?_
          rintro e w' ⟨rfl, rfl⟩
          go_wp2_with (fail)
          refine HM.out.mono ?_
          rintro e wM ⟨rfl, hxM⟩
          have hst := HST.out.exts hxM
          have g0 := hst.bgr.cell 0 _ rfl
          have g1 := hst.bgr.cell 1 _ rfl
          have g2 := hst.bgr.cell 2 _ rfl
          have p0 := hst.bgr.free 0
          have p1 := hst.bgr.free 1
          have p2 := hst.bgr.free 2
          have HF := Lib.hid (hst.fin (.int .i64 0) (.int .i64 0) (.slice none 0 0))
          clear HST hst hxM HM HOP HSZ
          go_wp2_with (fail)
          go_light
          refine bodyPost_ret (v := .tuple #[.agg #[.int .i64 0, .int .i64 0, .slice none 0 0], .int .i64 3]) (by simp [results, Tryz.results20, go_sem, g0, g1, g2]) rfl ⟨.slice none 0 0, ?_, ?_, HF.out.1⟩
          · unfold getE; rw [HR.out]; rfl
          · rw [HR.out]; exact OpsAt.nil _
      · have HEND := Lib.hid (rdEnd_any g _ wr HST.out.rd)
        rw [show decide (t = some []) = false by simpa using ht] at HEND
        have HR : Hid (getR bs = none) := by
          show _ = _
          unfold getR
          rw [HGA.out]
          exact if_neg (fun q => ht q.1)
        clear ht
        go_wp2_with (fail)
        refine HEND.out.mono ?_
        rintro e w' ⟨rfl, rfl⟩
        have HF := Lib.hid (HST.out.fin (.int .i64 0) (.int .i64 0) (.slice none 0 0))
        clear HST HSZ
        go_wp2_with (fail)
        go_light
        refine bodyPost_ret (v := .tuple #[.agg #[.int .i64 0, .int .i64 0, .slice none 0 0], .int .i64 3]) (by simp [results, Tryz.results20, go_sem, g0, g1, g2]) rfl ⟨.slice none 0 0, ?_, ?_, HF.out.1⟩
        · unfold getE; rw [HR.out]; rfl
        · rw [HR.out]; exact OpsAt.nil _
end Go.Proofs.YtlcbllgmnbhphaaGreatDoor
