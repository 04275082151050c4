/- Walks: the reference's Get. -/
import Derived.Test.YtlcbllgmnbhphaaDoorAvWGet
import Derived.Test.YtlcbllgmnbhphaaDoorAvWPutR
import Derived.Test.YtlcbllgmnbhphaaDoorAvWRefRd
namespace Go.Proofs.YtlcbllgmnbhphaaDoor
set_option maxRecDepth 100000
open Go.RowKit Av

abbrev rqT : TypeId := 31
/-- What the reference's Get holds between two ops: its result, its reader, its request. -/
structure GetStR (bs : Bs) (w W : World) (base gr g rb : Nat) (s n : Int) (v : Value) (xs : List OpV) (t : Rd) : Prop where
  bgr : Blk W gr #[.int .i64 0, .int .i64 0, .slice none 0 0] rqT
  rd : RRAt W g bs t
  brb : Blk W rb #[.int .i64 s, .int .i64 n, v] rqT
  own : W.ownsRow base opT 5 v xs.length (xs.flatMap OpV.cells)
  ext : Ext w W
  h1 : w.heap.size ≤ gr
  h2 : gr < g
  h3 : g < rb
  h4 : rb < base
  h5 : base ≤ W.heap.size
section
variable {bs : Bs} {w W w' : World} {base gr g rb ob : Nat} {s n : Int} {v : Value} {xs : List OpV} {t t' : Rd} {c : Array Value}
theorem GetStR.step {S : Nat → Prop} (h : GetStR bs w W base gr g rb s n v xs t) (k : Kp S W w') (hr : RRAt w' g bs t') (hS : ∀ i, i < W.heap.size → S i → i = g ∨ (base ≤ i ∧ ∀ b, v.ownBlock = some b → b ≠ i)) : GetStR bs w w' base gr g rb s n v xs t' := by
  have a1 := h.h1; have a2 := h.h2; have a3 := h.h3; have a4 := h.h4; have a5 := h.h5
  refine ⟨h.bgr.kp k (fun q => ?_), hr, h.brb.kp k (fun q => ?_), ownsRow.kp h.own k (fun b hb q => ?_), h.ext.next k (fun i hi q => ?_), a1, a2, a3, a4, Nat.le_trans a5 k.size⟩
  · rcases hS _ h.bgr.lt q with e | ⟨e, _⟩ <;> omega
  · rcases hS _ h.brb.lt q with e | ⟨e, _⟩ <;> omega
  · have := owns_lt h.own b hb
    rcases hS _ this.1 q with e | ⟨_, e⟩
    · omega
    · exact e b hb rfl
  · have hsz := h.ext.size
    rcases hS i (by omega) q with e | ⟨e, _⟩ <;> omega
theorem GetStR.call (h : GetStR bs w W base gr g rb s n v xs t) (k : Kp (fun i => i = g) W w') (hr : RRAt w' g bs t') : GetStR bs w w' base gr g rb s n v xs t' := h.step k hr (fun _ _ e => .inl e)
theorem GetStR.exts (h : GetStR bs w W base gr g rb s n v xs t) (k : Ext W w') : GetStR bs w w' base gr g rb s n v xs t := h.step (S := fun _ => False) k (h.rd.ext k) (fun _ _ f => f.elim)
theorem GetStR.fin (h : GetStR bs w W base gr g rb s n v xs t) (u0 u1 u2 : Value) : Ext w (((W.setCell ⟨gr, 0, none⟩ u0).setCell ⟨gr, 1, none⟩ u1).setCell ⟨gr, 2, none⟩ u2) ∧ OpsAt (((W.setCell ⟨gr, 0, none⟩ u0).setCell ⟨gr, 1, none⟩ u1).setCell ⟨gr, 2, none⟩ u2) v xs := by
  have a1 := h.h1; have a2 := h.h2; have a3 := h.h3; have a4 := h.h4
  have k : Kp (fun i => i = gr) W (((W.setCell ⟨gr, 0, none⟩ u0).setCell ⟨gr, 1, none⟩ u1).setCell ⟨gr, 2, none⟩ u2) := Kp.set1 (Kp.set1 (Kp.set1 (Kp.refl (fun i => i = gr) W) gr 0 u0 rfl) gr 1 u1 rfl) gr 2 u2 rfl
  refine ⟨h.ext.next k (fun i hi (e : i = gr) => by omega), ?_⟩
  have ho : OpsAt W v xs := ⟨Sl.of_owns h.own, shp_owns h.own⟩
  exact ho.kp k (fun b hb _ (e : b = gr) => by have := (owns_lt h.own b hb).2; omega)
theorem GetStR.alloc (h : GetStR bs w W base gr g rb s n v xs t) (o : Obj) : GetStR bs w (W.alloc o) base gr g rb s n v xs t :=
  h.step (S := fun _ => False) ((Kp.refl _ W).alloc o) (h.rd.ext ((Kp.refl _ W).alloc o)) (fun _ _ f => f.elim)
/-- And the op that is being read. -/
structure OpStR (bs : Bs) (w W : World) (base gr g rb ob : Nat) (s n : Int) (v : Value) (xs : List OpV) (t : Rd) (c : Array Value) : Prop where
  st : GetStR bs w W base gr g rb s n v xs t
  bob : Blk W ob c opT
  h6 : base ≤ ob
  vob : ∀ b, v.ownBlock = some b → b < ob
theorem GetStR.op (h : GetStR bs w W base gr g rb s n v xs t) (c : Array Value) : OpStR bs w (W.alloc (.cells c opT)) base gr g rb W.heap.size s n v xs t c :=
  ⟨h.alloc _, heap_alloc_new W _, h.h5, fun b hb => (owns_lt h.own b hb).1⟩
theorem OpStR.call (h : OpStR bs w W base gr g rb ob s n v xs t c) (k : Kp (fun i => i = g) W w') (hr : RRAt w' g bs t') : OpStR bs w w' base gr g rb ob s n v xs t' c :=
  ⟨h.st.call k hr, h.bob.kp k (fun e => by have := h.h6; have := h.st.h3; have := h.st.h4; omega), h.h6, h.vob⟩
theorem OpStR.put (h : OpStR bs w W base gr g rb ob s n v xs t c) (i : Nat) (u : Value) : OpStR bs w (W.setCell ⟨ob, i, none⟩ u) base gr g rb ob s n v xs t (c.setIfInBounds i u) := by
  have a2 := h.st.h2; have a3 := h.st.h3; have a4 := h.st.h4; have a6 := h.h6
  have k : Kp (fun i => i = ob) W (W.setCell ⟨ob, i, none⟩ u) := Kp.set1 (Kp.refl (fun i => i = ob) W) ob i u rfl
  exact ⟨h.st.step k (h.st.rd.kp k (by omega) (fun i hi (e : i = ob) => by omega)) (fun i _ (e : i = ob) => .inr ⟨by omega, fun b hb => by have := h.vob b hb; omega⟩), h.bob.set i u, h.h6, h.vob⟩
/-- An op more. -/
theorem GetStR.more (h : GetStR bs w W base gr g rb s n v xs t) {v' : Value} (o : OpV) (k : Kp (fun i => v.ownBlock = some i) W w') (own : w'.ownsRow base opT 5 v' (xs.length + 1) (xs.flatMap OpV.cells ++ o.cells)) :
    GetStR bs w (w'.setCell ⟨rb, 2, none⟩ v') base gr g rb s n v' (xs ++ [o]) t := by
  have a1 := h.h1; have a2 := h.h2; have a3 := h.h3; have a4 := h.h4; have a5 := h.h5
  have k2 : Kp (fun i => i = rb) w' (w'.setCell ⟨rb, 2, none⟩ v') := Kp.set1 (Kp.refl (fun i => i = rb) w') rb 2 v' rfl
  have hge : ∀ i, v.ownBlock = some i → base ≤ i := fun i hi => (owns_lt h.own i hi).2
  have e1 : Ext w w' := h.ext.next k (fun i hi q => by have := hge i q; have := h.ext.size; omega)
  have own' : w'.ownsRow base opT 5 v' (xs ++ [o]).length ((xs ++ [o]).flatMap OpV.cells) := by
    rw [List.length_append, List.flatMap_append, List.flatMap_singleton]
    exact own
  refine ⟨(h.bgr.kp k (fun q => by have := hge _ q; omega)).kp k2 (by omega), ?_, ?_, ownsRow.kp own' k2 (fun b hb (q : b = rb) => by have := (owns_lt own' b hb).2; omega), e1.next k2 (fun i hi (q : i = rb) => by omega), a1, a2, a3, a4, Nat.le_trans (Nat.le_trans a5 k.size) k2.size⟩
  · exact (h.rd.kp k (fun q => by have := hge _ q; omega) (fun i hi q => by have := hge _ q; omega)).kp k2 (by omega) (fun i hi (e : i = rb) => by omega)
  · have hb : Blk w' rb _ _ := h.brb.kp k (fun q => by have := hge _ q; omega)
    exact hb.set 2 v'
end
/-- The loop of the reference's Get: k ops are read. -/
def OpGetRelR (bs : Bs) (w : World) (base gr g rb : Nat) (s n : Int) (m : Nat) (t0 : Rd) (i : Value) (wr : World) : Prop :=
  ∃ k v, k ≤ m ∧ i = .int .i64 (k : Nat) ∧ GetStR bs w wr base gr g rb s n v (rdOs 200 1000 k t0).1 (rdOs 200 1000 k t0).2
theorem rdOs_gone (m1 m2 : Int) {s : Rd} {k : Nat} (h : (rdOs m1 m2 k s).2 = none) : ∀ j, (rdOs m1 m2 (k + j) s).2 = none
  | 0 => h
  | j + 1 => by
    have := rdOs_gone m1 m2 h j
    show (rdO m1 m2 (rdOs m1 m2 (k + j) s).2).2 = none
    rw [this]
    simp only [rdO, rdI_none, rdT_none]
theorem rdOs_szR (s : Rd) : ∀ k, OpsSz (rdOs 200 1000 k s).1
  | 0 => fun o ho => by cases ho
  | k + 1 => by
    intro o ho
    simp only [rdOs] at ho
    rcases List.mem_append.1 ho with ho | ho
    · exact rdOs_szR s k o ho
    · simp only [List.mem_singleton] at ho
      subst ho
      have h1 := rdT_le (most := 200) (rdI (rdOs 200 1000 k s).2).2 (by decide)
      have h2 := rdT_le (most := 1000) (rdT 200 (rdI (rdOs 200 1000 k s).2).2).2 (by decide)
      unfold rdO maxLen
      simp only [mkS_size]
      omega

set_option maxHeartbeats 1600000 in
theorem refGet_any (v : Value) (bs : Bs) (w : World) (hb : BytesR w v bs) (hl : bs.length ≤ 1000000000) :
    Calls Tryd.prog 9 #[v] w fun e w' => ∃ v, e = .returned (.tuple #[.agg #[.int .i64 ((getR bs).getD (0, 0, [])).1, .int .i64 ((getR bs).getD (0, 0, [])).2.1, v], .bool (getR bs).isSome]) ∧ OpsAt w' v ((getR bs).getD (0, 0, [])).2.2 ∧ Ext w w' := by
  obtain ⟨va, vc, rfl, hvc, _⟩ := BytesR.open hb
  obtain ⟨wA, hwA⟩ : ∃ wA, (w.alloc (.cells #[.int .i64 0, .int .i64 0, .slice none 0 0] rqT)).alloc (.cells #[.slice va bs.length vc, .int .i64 0, .bool false] 52) = wA := ⟨_, rfl⟩
  have hE : Ext w wA := by rw [← hwA]; exact ((Kp.refl _ _).alloc _).alloc _
  have hB0 : Blk wA w.heap.size #[.int .i64 0, .int .i64 0, .slice none 0 0] rqT := by
    rw [← hwA]; exact Blk.kp (heap_alloc_new w _) ((Kp.refl (fun _ => False) _).alloc _) (fun f => f)
  have hR0 : RRAt wA (w.heap.size + 1) bs (some bs) := by
    have hn : Blk wA (w.heap.size + 1) #[.slice va bs.length vc, .int .i64 0, .bool false] 52 := by
      rw [← hwA]
      have := heap_alloc_new (w.alloc (.cells #[.int .i64 0, .int .i64 0, .slice none 0 0] rqT)) (.cells #[.slice va bs.length vc, .int .i64 0, .bool false] 52)
      simpa [Blk] using this
    refine ⟨_, 0, Nat.zero_le _, hl, hn, hb.ext hE, fun hne b hbb => ?_, fun l hl => by simpa using hl.symm⟩
    obtain ⟨va', vc', e, _, _, hop⟩ := BytesR.open hb
    obtain ⟨b', off, e2, hlt, _⟩ := hop (List.length_pos_iff.2 hne)
    simp only [Value.slice.injEq, true_and] at e
    obtain ⟨rfl, rfl⟩ := e
    subst e2
    simp [Value.ownBlock] at hbb
    omega
  have HVB := Lib.hid (fun W (hx : Ext w W) => hb.ext hx)
  obtain ⟨⟨s, t1⟩, e1⟩ : ∃ p, rdI (some bs) = p := ⟨_, rfl⟩
  obtain ⟨⟨n, t2⟩, e2⟩ : ∃ p, rdI t1 = p := ⟨_, rfl⟩
  obtain ⟨⟨mm, t3⟩, e3⟩ : ∃ p, rdC 16 t2 = p := ⟨_, rfl⟩
  obtain ⟨m, rfl, hm⟩ : ∃ m : Nat, mm = m ∧ m ≤ 16 := by
    cases t3 with
    | none => exact ⟨0, rdC_none' e3, by decide⟩
    | some l => have := rdC_some e3; exact ⟨mm.toNat, by omega, by omega⟩
  have HGA : Hid (getAll 200 1000 bs = ((s, n, (rdOs 200 1000 m t3).1), (rdOs 200 1000 m t3).2)) := by
    show _ = _
    unfold getAll
    rw [e1]; simp only; rw [e2]; simp only; rw [e3]; simp only [Int.toNat_natCast]
  have HI1 := Lib.hid (rrI64_any (w.heap.size + 1) bs (some bs) wA hR0)
  rw [e1] at HI1
  have HI2 : Hid (∀ g W, RRAt W g bs t1 → Calls Tryd.prog 23 #[.pointer (some ⟨g, 0, none⟩)] W fun e w' => e = .returned (.int .i64 n) ∧ RRAt w' g bs t2 ∧ Kp (fun i => i = g) W w') := by
    intro g W h; have := rrI64_any g bs t1 W h; rw [e2] at this; exact this
  have HI3 : Hid (∀ g W, RRAt W g bs t2 → Calls Tryd.prog 24 #[.pointer (some ⟨g, 0, none⟩), .int .i64 16] W fun e w' => e = .returned (.int .i64 m) ∧ RRAt w' g bs t3 ∧ Kp (fun i => i = g) W w') := by
    intro g W h; have := rrCount_any g bs t2 16 W (by decide) h; rw [e3] at this; exact this
  have HE := Lib.hid hE
  have HB0 := Lib.hid hB0
  have HWA := Lib.hid hwA
  have hszA : wA.heap.size = w.heap.size + 2 := by rw [← hwA]; simp
  have HSZA := Lib.hid hszA
  clear e1 e2 e3 hb hE hB0 hR0 hwA hszA
  go_enter Tryd.func9, Tryd.ntmps9
  go_upto_region 2 with (fail)
  rw [HWA.out]
  go_wp2_with (fail)
  refine HI1.out.mono ?_
  rintro e w2 ⟨rfl, hr2, hk2⟩
  have HK2 := Lib.hid hk2
  have HR2 := Lib.hid hr2
  clear hk2 hr2 HI1 HWA
  go_wp2_with (fail)
  refine (HI2.out _ w2 HR2.out).mono ?_
  rintro e w3 ⟨rfl, hr3, hk3⟩
  have hst : GetStR bs w (w3.alloc (.cells #[.int .i64 s, .int .i64 n, .slice none 0 0] rqT)) (w3.heap.size + 1) w.heap.size (w.heap.size + 1) w3.heap.size s n (.slice none 0 0) [] t2 := by
    have hA : Ext w3 (w3.alloc (.cells #[.int .i64 s, .int .i64 n, .slice none 0 0] rqT)) := (Kp.refl _ w3).alloc _
    have hk := HK2.out.trans hk3
    have hsz := hk.size
    rw [HSZA.out] at hsz
    refine ⟨(Blk.kp (HB0.out.kp hk (by omega)) hA (fun f => f)), hr3.ext hA, heap_alloc_new w3 _, ⟨rfl, .inl ⟨rfl, rfl⟩⟩, (HE.out.next hk (fun i hi (e : i = w.heap.size + 1) => by omega)).ext hA, Nat.le_refl _, by omega, by omega, by omega, by simp⟩
  have HST := Lib.hid hst
  clear hr3 hk3 hst HK2 HR2 HE HB0 HI2
  generalize w.heap.size + 1 = g at *
  obtain ⟨wB, hwB⟩ : ∃ wB, w3.alloc (.cells #[.int .i64 s, .int .i64 n, .slice none 0 0] rqT) = wB := ⟨_, rfl⟩
  rw [hwB] at HST
  have HWB := Lib.hid hwB
  clear hwB
  go_upto_region 3 with (fail)
  generalize w3.heap.size = rb at *
  rw [HWB.out]
  go_wp2_with (fail)
  refine (HI3.out g wB HST.out.rd).mono ?_
  rintro e w4 ⟨rfl, hr4, hk4⟩
  have HS3 := Lib.hid (HST.out.call hk4 hr4)
  clear HWB HST hr4 hk4 HI3 HSZA
  go_wp2_with (fail)
  go_loopw [7] (OpGetRelR bs w (rb + 1) w.heap.size g rb s n m t3) (fun i _ => m - (intOf i).toNat)
  case atStart => exact ⟨0, _, Nat.zero_le _, rfl, HS3.out⟩
  case round =>
    clear HS3
    obtain ⟨k, v, hk, rfl, hst⟩ := hrel
    obtain ⟨⟨xs, t⟩, ex⟩ : ∃ p, rdOs 200 1000 k t3 = p := ⟨_, rfl⟩
    rw [ex] at hst
    simp only at hst
    by_cases hlt : k < m ∧ t ≠ none
    · obtain ⟨hlt, htn⟩ := hlt
      obtain ⟨l, rfl⟩ : ∃ l, t = some l := by
        cases t with
        | none => exact absurd rfl htn
        | some l => exact ⟨l, rfl⟩
      obtain ⟨t, ht⟩ : ∃ t, t = some l := ⟨_, rfl⟩
      have k1 : (k : Int) < m := by omega
      have HN : Hid (rdOs 200 1000 (k + 1) t3 = (xs ++ [(rdO 200 1000 (some l)).1], (rdO 200 1000 (some l)).2)) := by show _ = _; simp only [rdOs, ex]
      have HL : Hid (xs.length ≤ 16) := by show _ ≤ _; have := rdOs_len 200 1000 t3 k; rw [ex] at this; simp only at this; omega
      clear htn ht
      obtain ⟨⟨kk, s1⟩, q1⟩ : ∃ p, rdI (some l) = p := ⟨_, rfl⟩
      obtain ⟨⟨pp, s2⟩, q2⟩ : ∃ p, rdT 200 s1 = p := ⟨_, rfl⟩
      obtain ⟨⟨dd, s3⟩, q3⟩ : ∃ p, rdT 1000 s2 = p := ⟨_, rfl⟩
      obtain ⟨⟨vv, s4⟩, q4⟩ : ∃ p, rdI s3 = p := ⟨_, rfl⟩
      obtain ⟨⟨ff, s5⟩, q5⟩ : ∃ p, rdI s4 = p := ⟨_, rfl⟩
      have HRO : Hid (rdO 200 1000 (some l) = (⟨kk, mkS pp, mkS dd, vv, ff⟩, s5)) := by
        show _ = _
        unfold rdO
        simp only [q1, q2, q3, q4, q5]
      have HC1 := Lib.hid (rrI64_any g bs (some l) wr hst.rd)
      rw [q1] at HC1
      have HC2 := Lib.hid (fun W h => rrText_any g bs s1 200 W (by decide) h)
      rw [q2] at HC2
      have HC3 := Lib.hid (fun W h => rrText_any g bs s2 1000 W (by decide) h)
      rw [q3] at HC3
      have HC4 := Lib.hid (fun W h => rrI64_any g bs s3 W h)
      rw [q4] at HC4
      have HC5 := Lib.hid (fun W h => rrI64_any g bs s4 W h)
      rw [q5] at HC5
      clear q1 q2 q3 q4 q5 ex
      obtain ⟨k0, a0, c0, hop0, _⟩ := hst.rd.open
      have hop1 : RRO wr g bs k0 false a0 c0 := hop0
      obtain ⟨⟨d0, d1, d2⟩, _, _⟩ := hop1.cells (Kp.refl _ wr)
      clear hop0 hop1
      go_wp2_with (fail)
      refine HC1.out.mono ?_
      rintro e u1 ⟨rfl, hr1, hk1⟩
      have ho1 := (hst.call hk1 hr1).op #[.int .i64 kk, .string ⟨#[]⟩, .string ⟨#[]⟩, .int .i64 0, .int .i64 0]
      clear hst hr1 hk1
      obtain ⟨ob, hob⟩ : ∃ ob, u1.heap.size = ob := ⟨_, rfl⟩
      rw [hob] at ho1
      have HO1 := Lib.hid ho1
      clear ho1
      go_wp2_with (fail)
      refine (HC2.out _ HO1.out.st.rd).mono ?_
      rintro e u2 ⟨rfl, hr2, hk2⟩
      have ho2 := HO1.out.call hk2 hr2
      have c1 := ho2.bob.cell 1 _ rfl
      have f1 := ho2.bob.free 1
      have HO2 := Lib.hid (ho2.put 1 (.string (mkS pp)))
      clear HO1 ho2 hr2 hk2
      go_wp2_with (fail)
      refine (HC3.out _ HO2.out.st.rd).mono ?_
      rintro e u3 ⟨rfl, hr3, hk3⟩
      have ho3 := HO2.out.call hk3 hr3
      have c2 := ho3.bob.cell 2 _ rfl
      have f2 := ho3.bob.free 2
      have HO3 := Lib.hid (ho3.put 2 (.string (mkS dd)))
      clear HO2 ho3 hr3 hk3 c1 f1
      go_wp2_with (fail)
      refine (HC4.out _ HO3.out.st.rd).mono ?_
      rintro e u4 ⟨rfl, hr4, hk4⟩
      have ho4 := HO3.out.call hk4 hr4
      have c3 := ho4.bob.cell 3 _ rfl
      have f3 := ho4.bob.free 3
      have HO4 := Lib.hid (ho4.put 3 (.int .i64 vv))
      clear HO3 ho4 hr4 hk4 c2 f2
      go_wp2_with (fail)
      refine (HC5.out _ HO4.out.st.rd).mono ?_
      rintro e u5 ⟨rfl, hr5, hk5⟩
      have ho5 := HO4.out.call hk5 hr5
      have c4 := ho5.bob.cell 4 _ rfl
      have f4 := ho5.bob.free 4
      have ho6 := ho5.put 4 (.int .i64 ff)
      obtain ⟨W, hW⟩ : ∃ W, u5.setCell ⟨ob, 4, none⟩ (.int .i64 ff) = W := ⟨_, rfl⟩
      rw [hW] at ho6
      have o0 := ho6.bob.cell 0 _ rfl
      have o1 := ho6.bob.cell 1 _ rfl
      have o2 := ho6.bob.cell 2 _ rfl
      have o3 := ho6.bob.cell 3 _ rfl
      have o4 := ho6.bob.cell 4 _ rfl
      have r2 := ho6.st.brb.cell 2 _ rfl
      have HO6 := Lib.hid ho6.st
      have HW := Lib.hid hW
      clear HO4 ho5 hr5 hk5 c3 f3 ho6 hW HC1 HC2 HC3 HC4 HC5 hob
      have hone := op_one [(⟨kk, mkS pp, mkS dd, vv, ff⟩ : OpV)]
      obtain ⟨a3, l3, c3', hv3⟩ : ∃ a3 l3 c3, v = .slice a3 l3 c3 := by obtain ⟨a3, c3, e, _⟩ := Sl.open (Sl.of_owns HO6.out.own); exact ⟨_, _, _, e⟩
      subst hv3
      go_upto_region 12 with (fail)
      rw [HW.out]
      go_wp2_with (at_builtin; refine wpList_appK 22 43 5 (by decide) ops_facts rfl _ _ rfl (rb + 1) _ _ _ rfl (HO6.out.alloc _).own _ 1 ([(⟨kk, mkS pp, mkS dd, vv, ff⟩ : OpV)].flatMap OpV.cells) rfl (Sl.of_block (heap_alloc_new W _) rfl (by decide) (Nat.le_refl _)) Shp.some hone ?c1 ?c2 ?_)
      case c1 => have := HL.out; omega
      case c2 => exact (HO6.out.alloc _).h5
      intro v' w' h1 k2
      obtain ⟨a4, l4, c4', hv4⟩ : ∃ a4 l4 c4, v' = .slice a4 l4 c4 := by obtain ⟨a4, c4, e, _⟩ := Sl.open (Sl.of_owns h1); exact ⟨_, _, _, e⟩
      subst hv4
      have hst' := (HO6.out.alloc (.cells #[.int .i64 kk, .string (mkS pp), .string (mkS dd), .int .i64 vv, .int .i64 ff] opT)).more ⟨kk, mkS pp, mkS dd, vv, ff⟩ k2 (by simpa using h1)
      have hbr : Blk w' rb #[.int .i64 s, .int .i64 n, .slice a3 l3 c3'] rqT := Blk.kp (HO6.out.alloc (.cells #[.int .i64 kk, .string (mkS pp), .string (mkS dd), .int .i64 vv, .int .i64 ff] opT)).brb k2 (fun q => by have := (owns_lt HO6.out.own _ q).2; omega)
      have b2 := hbr.cell 2 _ rfl
      have fb2 := hbr.free 2
      have HST' := Lib.hid hst'
      clear hst' hbr h1 k2 o0 o1 o2 o3 o4 r2 c4 f4 hone
      go_wp2_with (fail)
      go_light
      refine ⟨⟨k + 1, .slice a4 l4 c4', by omega, by go_num, by rw [HN.out, HRO.out]; exact HST'.out⟩, by simp [intOf]; omega⟩
    · have HF2 : Hid (t ≠ some [] → getR bs = none) := by
        show _ → _
        intro ht
        rw [getR_ref, HGA.out]
        refine if_neg (fun q => ?_)
        have q1 : (rdOs 200 1000 m t3).2 = some [] := q.1
        by_cases hkm : k = m
        · subst hkm
          rw [ex] at q1
          exact ht q1
        · have htn : t = none := by
            cases t with
            | none => rfl
            | some l => exact absurd ⟨by omega, by simp⟩ hlt
          have := rdOs_gone 200 1000 (s := t3) (k := k) (by rw [ex]; exact htn) (m - k)
          rw [show k + (m - k) = m by omega, q1] at this
          cases this
      have HF1 : Hid (t = some [] → getAll 200 1000 bs = ((s, n, xs), some [])) := by
        show _ → _
        rintro rfl
        have hkm : k = m := by
          by_cases hkm : k = m
          · exact hkm
          · exact absurd ⟨by omega, by simp⟩ hlt
        subst hkm
        rw [HGA.out, ex]
      have HSZ : Hid (OpsSz xs) := by have := rdOs_szR t3 k; rw [ex] at this; exact this
      obtain ⟨a3, l3, c3, hv3⟩ : ∃ a3 l3 c3, v = .slice a3 l3 c3 := by obtain ⟨a3, c3, e, _⟩ := Sl.open (Sl.of_owns hst.own); exact ⟨_, _, _, e⟩
      subst hv3
      obtain ⟨k0, a0, c0, hop0, _⟩ := hst.rd.open
      obtain ⟨⟨d0, d1, d2⟩, _, _⟩ := hop0.cells (Kp.refl _ wr)
      have HST := Lib.hid hst
      have HEND := Lib.hid (fun W (hx : Ext wr W) => rrEnd_any g bs t W (HST.out.rd.ext hx))
      have HCE := Lib.hid (fun W (hx : Ext wr W) => And.intro ((HST.out.brb.kp hx (fun f => f)).cell 0 _ rfl) (And.intro ((HST.out.brb.kp hx (fun f => f)).cell 1 _ rfl) ((HST.out.brb.kp hx (fun f => f)).cell 2 _ rfl)))
      have HGC := Lib.hid (fun W (hx : Ext wr W) => And.intro (And.intro ((HST.out.bgr.kp hx (fun f => f)).cell 0 _ rfl) (And.intro ((HST.out.bgr.kp hx (fun f => f)).cell 1 _ rfl) ((HST.out.bgr.kp hx (fun f => f)).cell 2 _ rfl))) (And.intro ((HST.out.bgr.kp hx (fun f => f)).free 0) (And.intro ((HST.out.bgr.kp hx (fun f => f)).free 1) ((HST.out.bgr.kp hx (fun f => f)).free 2))))
      have hop : OpsAt wr (.slice a3 l3 c3) xs := ⟨Sl.of_owns HST.out.own, shp_owns HST.out.own⟩
      have HOP := Lib.hid hop
      have HPUT := Lib.hid (fun W (hx : Ext wr W) => refPut_any s n (.slice a3 l3 c3) xs W (HOP.out.ext hx) HSZ.out)
      have HMAY := Lib.hid (fun W (hx : Ext wr W) => refMay_any s n (.slice a3 l3 c3) xs W (HOP.out.ext hx) HSZ.out)
      clear hst hop0 hop HGA
      by_cases ht : t = some []
      · subst ht
        rw [show decide ((some [] : Rd) = some []) = true by decide] at HEND
        have hlt2 : ¬ k < m := fun h => hlt ⟨h, by simp⟩
        have hga := HF1.out rfl
        have hgr := getR_ref bs
        rw [hga] at hgr
        simp only [true_and] at hgr
        have HCV : Hid (∀ (v : Value) (W : World), BytesR W v (putR s n xs) → (convert 25 9 v).run Tryd.prog W = .ok (.string (mkS (putR s n xs))) W) := fun v W hb => conv_bytes hb
        have HCB : Hid (∀ (W : World), Ext wr W → (convert 25 9 (.slice va bs.length vc)).run Tryd.prog W = .ok (.string (mkS bs)) W) := fun W hx => conv_bytes (HVB.out W (HST.out.ext.trans hx))
        have hse := str_eq (mkS (putR s n xs)) (mkS bs)
        have hmk : (mkS (putR s n xs) = mkS bs) ↔ putR s n xs = bs := ⟨fun e => by have := congrArg (fun x : ByteArray => x.data.toList) e; exact this, fun e => by rw [e]⟩
        have hpg : mayR s n xs = 0 → putR s n xs = bs := fun h => by
          have e := putR_get (b := bs) (by rw [hga]) (by rw [hga]; exact h)
          rw [hga] at e
          exact e
        clear HF1 HF2 HSZ hga hlt
        by_cases he : putR s n xs = bs
        · rw [show decide (mkS (putR s n xs) = mkS bs) = true by simpa using hmk.2 he] at hse
          obtain ⟨S1, hS1⟩ : ∃ S, mkS (putR s n xs) = S := ⟨_, rfl⟩
          obtain ⟨S2, hS2⟩ : ∃ S, mkS bs = S := ⟨_, rfl⟩
          rw [hS1] at HCV hse
          rw [hS2] at HCB hse
          obtain ⟨B1, hB1⟩ : ∃ B, putR s n xs = B := ⟨_, rfl⟩
          rw [hB1] at HCV HPUT
          have HSE := Lib.hid hse
          by_cases hz : mayR s n xs = 0
          · have HR : Hid (getR bs = some (s, n, xs)) := by show _ = _; rw [hgr]; exact if_pos hz
            rw [hz] at HMAY
            clear hse hmk hpg he hS1 hS2 hB1 hgr hz
            go_upto_region 13 with (fail)
            refine' wp_region_dag0 [(52, .val _), (53, .val _), (54, .val _), (55, .val _), (56, .val _), (57, ⟨fun _ => True, fun v w => BytesR w v B1⟩), (58, .val _), (59, .val _), (60, .val _), (61, .val _), (62, .val _), (63, .val _), (64, .val _), (65, .val _), (66, .val _), (67, .val _)] ⟨fun _ _ _ _ _ => trivial, ⟨fun _ _ _ _ _ => trivial, ⟨fun _ _ _ _ _ => trivial, ⟨fun _ _ _ _ _ => trivial, ⟨fun _ _ _ _ _ => trivial, ⟨fun _ _ _ hr hv => hv.ext hr, ⟨fun _ _ _ _ _ => trivial, ⟨fun _ _ _ _ _ => trivial, ⟨fun _ _ _ _ _ => trivial, ⟨fun _ _ _ _ _ => trivial, ⟨fun _ _ _ _ _ => trivial, ⟨fun _ _ _ _ _ => trivial, ⟨fun _ _ _ _ _ => trivial, ⟨fun _ _ _ _ _ => trivial, ⟨fun _ _ _ _ _ => trivial, ⟨fun _ _ _ _ _ => trivial, trivial⟩⟩⟩⟩⟩⟩⟩⟩⟩⟩⟩⟩⟩⟩⟩⟩ (by kernel_rfl) (by kernel_rfl) (by kernel_rfl) (WpD.out ?_)
            rotate_left 15
            repeat (first
              | (refine wpD_skipv ?_ ?_ ?_
                 focus rfl
                 focus rfl
                 simp only [Act.put, List.setIfInBounds_toArray, List.set_cons_succ, List.set_cons_zero])
              | (refine' wpD_val (c := _) ?_ (fun w => Kp.refl _ w) ?_ (fun wq hwq hfq => ?_) ?_
                 rotate_left
                 focus rfl
                 focus rfl
                 focus (have cs := HCE.out wq hwq; obtain ⟨r0, r1, r2⟩ := cs; have hse := HSE.out; have hcb := HCB.out wq hwq; (first | have hcv := HCV.out v57 wq (hfq 57 rfl) | skip); go_simp; first | done | rfl)
                 simp only [Act.put, List.setIfInBounds_toArray, List.set_cons_succ, List.set_cons_zero])
              | (refine' wpD_con (c := _) ?_ ?_ (fun wq hwq hfq => ?_) ?_
                 rotate_left
                 focus rfl
                 focus rfl
                 focus (have cs := HCE.out wq hwq; obtain ⟨r0, r1, r2⟩ := cs; have hse := HSE.out; have hcb := HCB.out wq hwq; (first | have hcv := HCV.out v57 wq (hfq 57 rfl) | skip); go_simp; (try (rw [dUpon_enter])); (first | ((with_reducible refine (HEND.out _ hwq).mono ?_); rintro e w' ⟨rfl, hx⟩; exact DEnd.con hx) | ((with_reducible refine (HMAY.out _ hwq).mono ?_); rintro e w' ⟨rfl, hx⟩; exact DEnd.con hx)))
                 simp only [Act.put, List.setIfInBounds_toArray, List.set_cons_succ, List.set_cons_zero])
              | (refine wpD_made (A := fun _ => True) (V := fun v w => BytesR w v B1) 57 ?_ ?_ ?_ ?_ (fun wq hwq hfq => ?_) (fun v57 h57 => ?_)
                 focus rfl
                 focus rfl
                 focus (exact ⟨undef, trivial⟩)
                 focus rfl
                 focus (have cs := HCE.out wq hwq; obtain ⟨r0, r1, r2⟩ := cs; have hse := HSE.out; have hcb := HCB.out wq hwq; (first | have hcv := HCV.out v57 wq (hfq 57 rfl) | skip); go_simp; (try (rw [dUpon_enter])); (with_reducible refine (HPUT.out _ hwq).mono ?_); rintro e w' ⟨v, rfl, hb, hx⟩; exact DEnd.made trivial hb hx)
                 clear h57
                 simp only [Act.put, List.setIfInBounds_toArray, List.set_cons_succ, List.set_cons_zero])
              | fail)
            refine wpD_nil ?_
            intro w9 hx9 _
            obtain ⟨⟨g0, g1, g2⟩, p0, p1, p2⟩ := HGC.out w9 hx9
            obtain ⟨r0, r1, r2⟩ := HCE.out w9 hx9
            have HF := Lib.hid ((HST.out.exts hx9).fin (.int .i64 s) (.int .i64 n) (.slice a3 l3 c3))
            clear HST hx9
            go_wp2_with (fail)
            go_light
            refine bodyPost_ret (v := .tuple #[.agg #[.int .i64 s, .int .i64 n, .slice a3 l3 c3], .bool true]) (by simp [results, Tryd.results9, go_sem, g0, g1, g2]) rfl ⟨.slice a3 l3 c3, ?_, ?_, HF.out.1⟩
            · rw [HR.out]; rfl
            · rw [HR.out]; exact HF.out.2
          · have HR : Hid (getR bs = none) := by show _ = _; rw [hgr]; exact if_neg hz
            obtain ⟨z, hzz⟩ : ∃ z, mayR s n xs = z := ⟨_, rfl⟩
            rw [hzz] at hz HMAY
            have hz2 : (z == 0) = false := by simpa using hz
            have hz3 : (z != 0) = true := by simpa using hz
            clear hse hmk hpg he hS1 hS2 hB1 hgr hz hzz
            go_upto_region 13 with (fail)
            refine' wp_region_dag0 [(52, .val _), (53, .val _), (54, .val _), (55, .val _), (56, .val _), (57, ⟨fun _ => True, fun v w => BytesR w v B1⟩), (58, .val _), (59, .val _), (60, .val _), (61, .val _), (62, .val _), (63, .val _), (64, .val _), (65, .val _), (66, .val _), (67, .val _)] ⟨fun _ _ _ _ _ => trivial, ⟨fun _ _ _ _ _ => trivial, ⟨fun _ _ _ _ _ => trivial, ⟨fun _ _ _ _ _ => trivial, ⟨fun _ _ _ _ _ => trivial, ⟨fun _ _ _ hr hv => hv.ext hr, ⟨fun _ _ _ _ _ => trivial, ⟨fun _ _ _ _ _ => trivial, ⟨fun _ _ _ _ _ => trivial, ⟨fun _ _ _ _ _ => trivial, ⟨fun _ _ _ _ _ => trivial, ⟨fun _ _ _ _ _ => trivial, ⟨fun _ _ _ _ _ => trivial, ⟨fun _ _ _ _ _ => trivial, ⟨fun _ _ _ _ _ => trivial, ⟨fun _ _ _ _ _ => trivial, trivial⟩⟩⟩⟩⟩⟩⟩⟩⟩⟩⟩⟩⟩⟩⟩⟩ (by kernel_rfl) (by kernel_rfl) (by kernel_rfl) (WpD.out ?_)
            rotate_left 15
            repeat (first
              | (refine wpD_skipv ?_ ?_ ?_
                 focus rfl
                 focus rfl
                 simp only [Act.put, List.setIfInBounds_toArray, List.set_cons_succ, List.set_cons_zero])
              | (refine' wpD_val (c := _) ?_ (fun w => Kp.refl _ w) ?_ (fun wq hwq hfq => ?_) ?_
                 rotate_left
                 focus rfl
                 focus rfl
                 focus (have cs := HCE.out wq hwq; obtain ⟨r0, r1, r2⟩ := cs; have hse := HSE.out; have hcb := HCB.out wq hwq; (first | have hcv := HCV.out v57 wq (hfq 57 rfl) | skip); go_simp; first | done | rfl)
                 simp only [Act.put, List.setIfInBounds_toArray, List.set_cons_succ, List.set_cons_zero])
              | (refine' wpD_con (c := _) ?_ ?_ (fun wq hwq hfq => ?_) ?_
                 rotate_left
                 focus rfl
                 focus rfl
                 focus (have cs := HCE.out wq hwq; obtain ⟨r0, r1, r2⟩ := cs; have hse := HSE.out; have hcb := HCB.out wq hwq; (first | have hcv := HCV.out v57 wq (hfq 57 rfl) | skip); go_simp; (try (rw [dUpon_enter])); (first | ((with_reducible refine (HEND.out _ hwq).mono ?_); rintro e w' ⟨rfl, hx⟩; exact DEnd.con hx) | ((with_reducible refine (HMAY.out _ hwq).mono ?_); rintro e w' ⟨rfl, hx⟩; exact DEnd.con hx)))
                 simp only [Act.put, List.setIfInBounds_toArray, List.set_cons_succ, List.set_cons_zero])
              | (refine wpD_made (A := fun _ => True) (V := fun v w => BytesR w v B1) 57 ?_ ?_ ?_ ?_ (fun wq hwq hfq => ?_) (fun v57 h57 => ?_)
                 focus rfl
                 focus rfl
                 focus (exact ⟨undef, trivial⟩)
                 focus rfl
                 focus (have cs := HCE.out wq hwq; obtain ⟨r0, r1, r2⟩ := cs; have hse := HSE.out; have hcb := HCB.out wq hwq; (first | have hcv := HCV.out v57 wq (hfq 57 rfl) | skip); go_simp; (try (rw [dUpon_enter])); (with_reducible refine (HPUT.out _ hwq).mono ?_); rintro e w' ⟨v, rfl, hb, hx⟩; exact DEnd.made trivial hb hx)
                 clear h57
                 simp only [Act.put, List.setIfInBounds_toArray, List.set_cons_succ, List.set_cons_zero])
              | fail)
            refine wpD_nil ?_
            intro w9 hx9 _
            obtain ⟨⟨g0, g1, g2⟩, p0, p1, p2⟩ := HGC.out w9 hx9
            have HF := Lib.hid ((HST.out.exts hx9).fin (.int .i64 0) (.int .i64 0) (.slice none 0 0))
            clear HST hx9
            go_wp2_with (fail)
            go_light
            refine bodyPost_ret (v := .tuple #[.agg #[.int .i64 0, .int .i64 0, .slice none 0 0], .bool false]) (by simp [results, Tryd.results9, go_sem, g0, g1, g2]) rfl ⟨.slice none 0 0, ?_, ?_, HF.out.1⟩
            · rw [HR.out]; rfl
            · rw [HR.out]; exact OpsAt.nil _
        · rw [show decide (mkS (putR s n xs) = mkS bs) = false by simpa using fun e => he (hmk.1 e)] at hse
          have HR : Hid (getR bs = none) := by show _ = _; rw [hgr]; exact if_neg (fun h => he (hpg h))
          obtain ⟨S1, hS1⟩ : ∃ S, mkS (putR s n xs) = S := ⟨_, rfl⟩
          obtain ⟨S2, hS2⟩ : ∃ S, mkS bs = S := ⟨_, rfl⟩
          rw [hS1] at HCV hse
          rw [hS2] at HCB hse
          obtain ⟨B1, hB1⟩ : ∃ B, putR s n xs = B := ⟨_, rfl⟩
          rw [hB1] at HCV HPUT
          have HSE := Lib.hid hse
          clear hse hmk hpg he hS1 hS2 hB1 hgr
          go_upto_region 13 with (fail)
          refine' wp_region_dag0 [(52, .val _), (53, .val _), (54, .val _), (55, .val _), (56, .val _), (57, ⟨fun _ => True, fun v w => BytesR w v B1⟩), (58, .val _), (59, .val _), (60, .val _), (61, .val _), (62, .val _), (63, .val _), (64, .val _), (65, .val _), (66, .val _), (67, .val _)] ⟨fun _ _ _ _ _ => trivial, ⟨fun _ _ _ _ _ => trivial, ⟨fun _ _ _ _ _ => trivial, ⟨fun _ _ _ _ _ => trivial, ⟨fun _ _ _ _ _ => trivial, ⟨fun _ _ _ hr hv => hv.ext hr, ⟨fun _ _ _ _ _ => trivial, ⟨fun _ _ _ _ _ => trivial, ⟨fun _ _ _ _ _ => trivial, ⟨fun _ _ _ _ _ => trivial, ⟨fun _ _ _ _ _ => trivial, ⟨fun _ _ _ _ _ => trivial, ⟨fun _ _ _ _ _ => trivial, ⟨fun _ _ _ _ _ => trivial, ⟨fun _ _ _ _ _ => trivial, ⟨fun _ _ _ _ _ => trivial, trivial⟩⟩⟩⟩⟩⟩⟩⟩⟩⟩⟩⟩⟩⟩⟩⟩ (by kernel_rfl) (by kernel_rfl) (by kernel_rfl) (WpD.out ?_)
          rotate_left 15
          repeat (first
            | (refine wpD_skipv ?_ ?_ ?_
               focus rfl
               focus rfl
               simp only [Act.put, List.setIfInBounds_toArray, List.set_cons_succ, List.set_cons_zero])
            | (refine' wpD_val (c := _) ?_ (fun w => Kp.refl _ w) ?_ (fun wq hwq hfq => ?_) ?_
               rotate_left
               focus rfl
               focus rfl
               focus (have cs := HCE.out wq hwq; obtain ⟨r0, r1, r2⟩ := cs; have hse := HSE.out; have hcb := HCB.out wq hwq; (first | have hcv := HCV.out v57 wq (hfq 57 rfl) | skip); go_simp; first | done | rfl)
               simp only [Act.put, List.setIfInBounds_toArray, List.set_cons_succ, List.set_cons_zero])
            | (refine' wpD_con (c := _) ?_ ?_ (fun wq hwq hfq => ?_) ?_
               rotate_left
               focus rfl
               focus rfl
               focus (have cs := HCE.out wq hwq; obtain ⟨r0, r1, r2⟩ := cs; have hse := HSE.out; have hcb := HCB.out wq hwq; (first | have hcv := HCV.out v57 wq (hfq 57 rfl) | skip); go_simp; (try (rw [dUpon_enter])); (first | ((with_reducible refine (HEND.out _ hwq).mono ?_); rintro e w' ⟨rfl, hx⟩; exact DEnd.con hx) | ((with_reducible refine (HMAY.out _ hwq).mono ?_); rintro e w' ⟨rfl, hx⟩; exact DEnd.con hx)))
               simp only [Act.put, List.setIfInBounds_toArray, List.set_cons_succ, List.set_cons_zero])
            | (refine wpD_made (A := fun _ => True) (V := fun v w => BytesR w v B1) 57 ?_ ?_ ?_ ?_ (fun wq hwq hfq => ?_) (fun v57 h57 => ?_)
               focus rfl
               focus rfl
               focus (exact ⟨undef, trivial⟩)
               focus rfl
               focus (have cs := HCE.out wq hwq; obtain ⟨r0, r1, r2⟩ := cs; have hse := HSE.out; have hcb := HCB.out wq hwq; (first | have hcv := HCV.out v57 wq (hfq 57 rfl) | skip); go_simp; (try (rw [dUpon_enter])); (with_reducible refine (HPUT.out _ hwq).mono ?_); rintro e w' ⟨v, rfl, hb, hx⟩; exact DEnd.made trivial hb hx)
               clear h57
               simp only [Act.put, List.setIfInBounds_toArray, List.set_cons_succ, List.set_cons_zero])
            | fail)
          refine wpD_nil ?_
          intro w9 hx9 _
          obtain ⟨⟨g0, g1, g2⟩, p0, p1, p2⟩ := HGC.out w9 hx9
          have HF := Lib.hid ((HST.out.exts hx9).fin (.int .i64 0) (.int .i64 0) (.slice none 0 0))
          clear HST hx9
          go_wp2_with (fail)
          go_light
          refine bodyPost_ret (v := .tuple #[.agg #[.int .i64 0, .int .i64 0, .slice none 0 0], .bool false]) (by simp [results, Tryd.results9, go_sem, g0, g1, g2]) rfl ⟨.slice none 0 0, ?_, ?_, HF.out.1⟩
          · rw [HR.out]; rfl
          · rw [HR.out]; exact OpsAt.nil _
      · rw [show decide (t = some []) = false by simpa using ht] at HEND
        have HR := Lib.hid (HF2.out ht)
        have hb : (k < m ∧ t.isNone = true) ∨ ¬ k < m := by
          by_cases h : k < m
          · refine .inl ⟨h, ?_⟩
            cases t with
            | none => rfl
            | some l => exact absurd ⟨h, by simp⟩ hlt
          · exact .inr h
        clear ht HF1 HF2 HPUT HMAY HSZ HOP hlt
        rcases hb with ⟨hlt, hb⟩ | hlt
        focus rw [hb] at d2
        all_goals
          try clear hb
          go_upto_region 13 with (fail)
          refine' wp_region_dag0 [(52, .val _), (53, .val _), (54, .val _), (55, .val _), (56, .val _), (57, .val _), (58, .val _), (59, .val _), (60, .val _), (61, .val _), (62, .val _), (63, .val _), (64, .val _), (65, .val _), (66, .val _), (67, .val _)] ⟨fun _ _ _ _ _ => trivial, ⟨fun _ _ _ _ _ => trivial, ⟨fun _ _ _ _ _ => trivial, ⟨fun _ _ _ _ _ => trivial, ⟨fun _ _ _ _ _ => trivial, ⟨fun _ _ _ _ _ => trivial, ⟨fun _ _ _ _ _ => trivial, ⟨fun _ _ _ _ _ => trivial, ⟨fun _ _ _ _ _ => trivial, ⟨fun _ _ _ _ _ => trivial, ⟨fun _ _ _ _ _ => trivial, ⟨fun _ _ _ _ _ => trivial, ⟨fun _ _ _ _ _ => trivial, ⟨fun _ _ _ _ _ => trivial, ⟨fun _ _ _ _ _ => trivial, ⟨fun _ _ _ _ _ => trivial, trivial⟩⟩⟩⟩⟩⟩⟩⟩⟩⟩⟩⟩⟩⟩⟩⟩ (by kernel_rfl) (by kernel_rfl) (by kernel_rfl) (WpD.out ?_)
          rotate_left 16
          repeat (first
            | (refine wpD_skipv ?_ ?_ ?_
               focus rfl
               focus rfl
               simp only [Act.put, List.setIfInBounds_toArray, List.set_cons_succ, List.set_cons_zero])
            | (refine' wpD_val (c := _) ?_ (fun w => Kp.refl _ w) ?_ (fun wq hwq hfq => ?_) ?_
               rotate_left
               focus rfl
               focus rfl
               focus (have cs := HCE.out wq hwq; obtain ⟨r0, r1, r2⟩ := cs; go_simp; first | done | rfl)
               simp only [Act.put, List.setIfInBounds_toArray, List.set_cons_succ, List.set_cons_zero])
            | (refine' wpD_con (c := _) ?_ ?_ (fun wq hwq hfq => ?_) ?_
               rotate_left
               focus rfl
               focus rfl
               focus (have cs := HCE.out wq hwq; obtain ⟨r0, r1, r2⟩ := cs; go_simp; (try (rw [dUpon_enter])); ((with_reducible refine (HEND.out _ hwq).mono ?_); rintro e w' ⟨rfl, hx⟩; exact DEnd.con hx))
               simp only [Act.put, List.setIfInBounds_toArray, List.set_cons_succ, List.set_cons_zero])
            | fail)
          refine wpD_nil ?_
          intro w9 hx9 _
          obtain ⟨⟨g0, g1, g2⟩, p0, p1, p2⟩ := HGC.out w9 hx9
          have HF := Lib.hid ((HST.out.exts hx9).fin (.int .i64 0) (.int .i64 0) (.slice none 0 0))
          clear HST hx9
          go_wp2_with (fail)
          go_light
          refine bodyPost_ret (v := .tuple #[.agg #[.int .i64 0, .int .i64 0, .slice none 0 0], .bool false]) (by simp [results, Tryd.results9, go_sem, g0, g1, g2]) rfl ⟨.slice none 0 0, ?_, ?_, HF.out.1⟩
          · rw [HR.out]; rfl
          · rw [HR.out]; exact OpsAt.nil _
end Go.Proofs.YtlcbllgmnbhphaaDoor
