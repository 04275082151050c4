/- Texts put together: AvSesG, AvSesH, AvSesI, AvGrow. -/
import Derived.Test.YtnlefnhdhigecaaGreatDoorAvG27
import Derived.Test.YtnlefnhdhigecaaGreatDoorAvHDag
import Derived.Sort.Grow

/- Walks: sessions: Touch, Open, slices.Delete, Close. -/
namespace Go.Proofs.YtnlefnhdhigecaaGreatDoor
set_option maxRecDepth 100000
open Go.RowKit Av

theorem scell_one (xs : List SeV) : ∀ y ∈ xs.flatMap scell, y.oneCell' = true := by
  intro y hy
  obtain ⟨e, _, he⟩ := List.mem_flatMap.1 hy
  simp [scell] at he
  rcases he with rfl | rfl | rfl <;> rfl
/-- What a call on sessions leaves. -/
def SesPost (w : World) (b : Nat) (ro : Option Nat) (s' : SsV) (r : Value) (e : Ending) (w' : World) : Prop :=
  e = .returned r ∧ (∃ ro', SesR w' b ro' s' ∧ ∀ i, ro' = some i → ro = some i ∨ w.heap.size ≤ i) ∧ Kp (fun i => i = b ∨ ro = some i) w w'
theorem SesPost.no {w w' : World} {b : Nat} {ro : Option Nat} {s : SsV} {r : Value} (h : SesR w b ro s) (hx : Ext w w') : SesPost w b ro s r (.returned r) w' := ⟨rfl, ⟨ro, h.ext hx, fun _ hi => .inl hi⟩, hx.kp⟩
theorem idxF_some {l : List SeV} {id : Int} {k : Nat} (h : findS l id = some k) : idxF l id = k := by unfold idxF; rw [h]
theorem idxF_none {l : List SeV} {id : Int} (h : findS l id = none) : idxF l id = -1 := by unfold idxF; rw [h]
set_option maxHeartbeats 3200000 in
theorem sesTouch_any (N b : Nat) (ro : Option Nat) (s : SsV) (id : Int) (w : World) (h : SesR w b ro s) (hok : SsOk N s) (hN : N ≤ 1000000000) :
    Calls Tryz.prog 81 #[.pointer (some ⟨b, 0, none⟩), .int .i64 id] w fun e w' => SesPost w b ro (touchS s id).1 (.int .i64 (touchS s id).2) e w' := by
  have HF := Lib.hid (sesFind_any b ro s id w h (by have := hok.len; omega))
  have HH := Lib.hid h
  cases hf : findS s.l id with
  | none =>
    rw [idxF_none hf] at HF
    have HE : Hid (touchS s id = (s, 11)) := by show _ = _; unfold touchS; rw [hf]
    clear h hf
    go_enter Tryz.func81, Tryz.ntmps81
    go_wp2_with (fail)
    refine HF.out.mono ?_
    rintro e w1 ⟨rfl, hx1⟩
    have HX1 := Lib.hid hx1
    clear hx1
    go_wp2_with (fail)
    go_ret
    rw [HE.out]
    exact SesPost.no HH.out HX1.out
  | some k =>
    rw [idxF_some hf] at HF
    obtain ⟨hk, hid⟩ := findS_lt hf
    have hsp := hok.span _ (List.getElem_mem hk)
    have hnow := hok.now
    obtain ⟨x, hx⟩ : ∃ x, s.l[k] = x := ⟨_, rfl⟩
    rw [hx] at hsp
    have HE : Hid (touchS s id = (⟨s.room, s.now, s.next, s.l.set k ⟨x.id, x.span, s.now + x.span⟩⟩, 0)) := by
      show _ = _
      unfold touchS setTill
      rw [hf]
      simp only [List.getElem?_eq_getElem hk, hx]
    obtain ⟨a, c, hb, hown, hro, hrb, had⟩ := h.open
    obtain ⟨ad, rfl⟩ : ∃ ad, a = some ad := by
      cases a with
      | some ad => exact ⟨ad, rfl⟩
      | none =>
        obtain ⟨_, h2 | ⟨g, c, cur, hv, _⟩⟩ := hown
        · omega
        · simp at hv
    obtain ⟨r, rfl, hrow, _, hnc, hcm, _⟩ := RowB.of_owns hown
    have hr0 := had _ rfl
    simp only at hr0
    subst hr0
    have hcell := rowK_cell scell 3 (fun _ => rfl) s.l k hk
    rw [hx] at hcell
    have HROW := Lib.hid hrow
    have HB := Lib.hid hb
    have HRB := Lib.hid hrb
    have HCE := Lib.hid hcell
    have HS : Hid ((s.l.set k ⟨x.id, x.span, s.now + x.span⟩).flatMap scell = (((s.l.flatMap scell).set (k * 3) (.int .i64 x.id)).set (k * 3 + 1) (.int .i64 x.span)).set (k * 3 + 2) (.int .i64 (s.now + x.span))) := (flat_set3 scell _ _ _ _ rfl (fun _ => rfl) s.l k).symm
    have HS2 : Hid (((s.l.flatMap scell).set (k * 3) (.int .i64 x.id)).set (k * 3 + 1) (.int .i64 x.span) = s.l.flatMap scell) := by
      show _ = _
      have h0 : (s.l.flatMap scell)[k * 3]? = some (.int .i64 x.id) := hcell 0 (by decide)
      have h1 : (s.l.flatMap scell)[k * 3 + 1]? = some (.int .i64 x.span) := hcell 1 (by decide)
      rw [set_same1 h0, set_same1 h1]
    have hI1 : (0 : Int) ≤ (k : Int) := by omega
    have hI2 : (k : Int) < (s.l.length : Int) := by omega
    have hI3 : ¬ (k : Int) < 0 := by omega
    have hW1 : wrap64 (s.now + x.span) = s.now + x.span := by unfold wrap64; omega
    have hV1 : IntKind.i64.wrap (s.now + x.span) = s.now + x.span := IntWalk.i64_in _ (by omega)
    have HLEN : Hid ((s.l.set k ⟨x.id, x.span, s.now + x.span⟩).length = s.l.length) := List.length_set
    have HNC : Hid (s.l.length ≤ c ∧ c ≤ maxLen) := ⟨hnc, hcm⟩
    clear h hf hb hown hrow hcell hx hid hsp hnow hnc hcm
    go_enter Tryz.func81, Tryz.ntmps81
    go_wp2_with (fail)
    refine HF.out.mono ?_
    rintro e w1 ⟨rfl, hx1⟩
    have HX1 := Lib.hid hx1
    have HB1 := Lib.hid (HB.out.kp hx1 (fun f => f))
    have HR1 := Lib.hid (HROW.out.kp hx1 (fun f => f))
    clear hx1
    go_upto_region 4 with (fail)
    refine' wp_region_dagK 20 [] ((11, .val _) :: (12, .val _) :: (13, .val _) :: (14, .val _) :: (15, .val _) :: (16, .val _) :: (17, .val _) :: (18, .val _) :: (19, .val _) :: (20, .val _) :: (21, .val _) :: (22, .val _) :: (23, .val _) :: (24, .val _) :: (25, .val _) :: (26, .val _) :: (27, .val _) :: (28, .val _) :: (29, .val _) :: (30, .val _) :: []) (by exact ⟨fun _ _ _ _ _ => trivial, ⟨fun _ _ _ _ _ => trivial, ⟨fun _ _ _ _ _ => trivial, ⟨fun _ _ _ _ _ => trivial, ⟨fun _ _ _ _ _ => trivial, ⟨fun _ _ _ _ _ => trivial, ⟨fun _ _ _ _ _ => trivial, ⟨fun _ _ _ _ _ => trivial, ⟨fun _ _ _ _ _ => trivial, ⟨fun _ _ _ _ _ => trivial, ⟨fun _ _ _ _ _ => trivial, ⟨fun _ _ _ _ _ => trivial, ⟨fun _ _ _ _ _ => trivial, ⟨fun _ _ _ _ _ => trivial, ⟨fun _ _ _ _ _ => trivial, ⟨fun _ _ _ _ _ => trivial, ⟨fun _ _ _ _ _ => trivial, ⟨fun _ _ _ _ _ => trivial, ⟨fun _ _ _ _ _ => trivial, ⟨fun _ _ _ _ _ => trivial, trivial⟩⟩⟩⟩⟩⟩⟩⟩⟩⟩⟩⟩⟩⟩⟩⟩⟩⟩⟩⟩) (by kernel_rfl) (by kernel_rfl) (by kernel_rfl) ?_
    rotate_left 20
    simp only [List.take_succ_cons, List.take_zero]
    repeat (first
      | (refine wpD_skipv ?_ ?_ ?_
         focus rfl
         focus rfl
         simp only [Act.put, List.setIfInBounds_toArray, List.set_cons_succ, List.set_cons_zero])
      | (refine' wpD_val (c := _) ?_ (fun w => Kp.refl _ w) ?_ (fun wq hwq hfq => ?_) ?_
         rotate_left
         focus rfl
         focus rfl
         focus ((have hext : Ext w1 wq := hwq.mono (fun i hi e => by omega); have hbq := HB1.out.kp hext (fun f => f); have c1 := hbq.cell 1 _ rfl; have c3 := hbq.cell 3 _ rfl; have e1 := (HR1.out.kp hext (fun f => f)).cell (HCE.out 1 (by decide))); go_simp; first | done | rfl)
         simp only [Act.put, List.setIfInBounds_toArray, List.set_cons_succ, List.set_cons_zero])
      | (refine' wpD_con (c := _) ?_ ?_ (fun wq hwq hfq => ?_) ?_
         rotate_left
         focus rfl
         focus rfl
         focus ((have hext : Ext w1 wq := hwq.mono (fun i hi e => by omega); have hbq := HB1.out.kp hext (fun f => f); have c1 := hbq.cell 1 _ rfl; have c3 := hbq.cell 3 _ rfl; have e1 := (HR1.out.kp hext (fun f => f)).cell (HCE.out 1 (by decide))); go_simp; (try (rw [dUpon_enter])); fail)
         simp only [Act.put, List.setIfInBounds_toArray, List.set_cons_succ, List.set_cons_zero])
      | fail)
    refine wpD_nil ?_
    intro w2 hr2 hend
    clear hend
    have hx2 : Ext w1 w2 := hr2.mono (fun i hi e => by omega)
    clear hr2
    have HR2 := Lib.hid (HR1.out.kp hx2 (fun f => f))
    have HB2 := Lib.hid (HB1.out.kp hx2 (fun f => f))
    have f2 := HR2.out.free (k * 3 + 2)
    have e2 := HR2.out.cell (HCE.out 2 (by decide))
    have HX2 := Lib.hid (HX1.out.trans hx2)
    clear hx2
    go_wp2_with (fail)
    go_ret
    rw [HE.out]
    have hk2 : Kp (fun i => i = r) w2 (w2.setCell ⟨r, k * 3 + 2, none⟩ (.int .i64 (s.now + x.span))) := Kp.set1 (S := fun i => i = r) (Kp.refl _ _) r _ _ rfl
    refine ⟨rfl, ⟨some r, SesR.mk (v := .slice (some ⟨r, 0, none⟩) s.l.length c) (HB2.out.kp hk2 (fun (e : b = r) => HRB.out r rfl e.symm)) ?_ rfl HRB.out, fun i hi => .inl hi⟩, (Ext.kp HX2.out).next hk2 (fun i _ (e : i = r) => .inr (by rw [e]))⟩
    have hrow := HR2.out.set (k * 3 + 2) (.int .i64 (s.now + x.span))
    have h3 : RowB (w2.setCell ⟨r, k * 3 + 2, none⟩ (.int .i64 (s.now + x.span))) r seT 3 c ((s.l.set k ⟨x.id, x.span, s.now + x.span⟩).flatMap scell) := by
      rw [HS.out, HS2.out]; exact hrow
    have h4 := h3.owns (m := s.l.length) (base := 0) (by rw [flat_len scell 3 (fun _ => rfl), HLEN.out]; exact Nat.le_refl _) HNC.out.1 HNC.out.2 (Nat.zero_le _)
    rw [flat_take scell 3 (fun _ => rfl), List.take_of_length_le (by rw [HLEN.out]; exact Nat.le_refl _)] at h4
    show World.ownsRow _ 0 seT 3 _ (s.l.set k ⟨x.id, x.span, s.now + x.span⟩).length _
    rw [HLEN.out]
    exact h4
set_option maxHeartbeats 3200000 in
theorem sesOpen_any (N b : Nat) (ro : Option Nat) (s : SsV) (span : Int) (w : World) (h : SesR w b ro s) (hok : SsOk N s) (hN : N ≤ 1000000000) :
    Calls Tryz.prog 78 #[.pointer (some ⟨b, 0, none⟩), .int .i64 span] w fun e w' => SesPost w b ro (openS s span).1 (.tuple #[.int .i64 (openS s span).2.1, .int .i64 (openS s span).2.2]) e w' := by
  have HH := Lib.hid h
  by_cases h1 : span < 1
  · have HE : Hid (openS s span = (s, 0, 1)) := by show _ = _; unfold openS; rw [if_pos (.inl h1)]
    clear h
    go_enter Tryz.func78, Tryz.ntmps78
    go_wp2_with (fail)
    go_ret2
    rw [HE.out]
    exact SesPost.no HH.out (Kp.refl _ _)
  · by_cases h2 : 10000 < span
    · have HE : Hid (openS s span = (s, 0, 1)) := by show _ = _; unfold openS; rw [if_pos (.inr h2)]
      clear h
      go_enter Tryz.func78, Tryz.ntmps78
      go_wp2_with (fail)
      go_ret2
      rw [HE.out]
      exact SesPost.no HH.out (Kp.refl _ _)
    · obtain ⟨a, c, hb, hown, hro, hrb, had⟩ := h.open
      have HB := Lib.hid hb
      by_cases h3 : s.room ≤ (s.l.length : Int)
      · have HE : Hid (openS s span = (s, 0, 9)) := by show _ = _; unfold openS; rw [if_neg (by omega), if_pos h3]
        clear h hb hown hro hrb had
        go_enter Tryz.func78, Tryz.ntmps78
        go_upto_region 3 with (fail)
        refine' wp_region_dag0 ((15, .val _) :: (16, .val _) :: (17, .val _) :: (18, .val _) :: (19, .val _) :: (20, .val _) :: (21, .val _) :: (22, .val _) :: (23, .val _) :: (24, .val _) :: (14, .val _) :: []) (by exact ⟨fun _ _ _ _ _ => trivial, ⟨fun _ _ _ _ _ => trivial, ⟨fun _ _ _ _ _ => trivial, ⟨fun _ _ _ _ _ => trivial, ⟨fun _ _ _ _ _ => trivial, ⟨fun _ _ _ _ _ => trivial, ⟨fun _ _ _ _ _ => trivial, ⟨fun _ _ _ _ _ => trivial, ⟨fun _ _ _ _ _ => trivial, ⟨fun _ _ _ _ _ => trivial, ⟨fun _ _ _ _ _ => trivial, trivial⟩⟩⟩⟩⟩⟩⟩⟩⟩⟩⟩) (by kernel_rfl) (by kernel_rfl) (by kernel_rfl) ?_
        rotate_left 11
        repeat (first
          | (refine wpD_skipv ?_ ?_ ?_
             focus rfl
             focus rfl
             simp only [Act.put, List.setIfInBounds_toArray, List.set_cons_succ, List.set_cons_zero])
          | (refine' wpD_val (c := _) ?_ (fun w => Kp.refl _ w) ?_ (fun wq hwq hfq => ?_) ?_
             rotate_left
             focus rfl
             focus rfl
             focus ((have hbq := HB.out.kp hwq (fun f => f); have c0 := hbq.cell 0 _ rfl; have c3 := hbq.cell 3 _ rfl); go_simp; first | done | rfl)
             simp only [Act.put, List.setIfInBounds_toArray, List.set_cons_succ, List.set_cons_zero])
          | (refine' wpD_con (c := _) ?_ ?_ (fun wq hwq hfq => ?_) ?_
             rotate_left
             focus rfl
             focus rfl
             focus ((have hbq := HB.out.kp hwq (fun f => f); have c0 := hbq.cell 0 _ rfl; have c3 := hbq.cell 3 _ rfl); go_simp; (try (rw [dUpon_enter])); fail)
             simp only [Act.put, List.setIfInBounds_toArray, List.set_cons_succ, List.set_cons_zero])
          | fail)
        refine wpD_nil ?_
        intro w2 hx2 hend
        clear hend
        have HX2 := Lib.hid hx2
        clear hx2
        go_wp2_with (fail)
        go_ret2
        rw [HE.out]
        exact SesPost.no HH.out HX2.out
      · have HE : Hid (openS s span = (⟨s.room, s.now, s.next + 1, s.l ++ [⟨s.next, span, s.now + span⟩]⟩, s.next, 0)) := by show _ = _; unfold openS; rw [if_neg (by omega), if_neg h3]
        have hnow := hok.now
        have hnext := hok.next
        have hlen := hok.len
        have hW1 : wrap64 (s.now + span) = s.now + span := by unfold wrap64; omega
        have hV1 : IntKind.i64.wrap (s.now + span) = s.now + span := IntWalk.i64_in _ (by omega)
        have hW2 : wrap64 (s.next + 1) = s.next + 1 := by unfold wrap64; omega
        have HOWN := Lib.hid hown
        have HRO := Lib.hid hro
        have HRB := Lib.hid hrb
        have HLT := Lib.hid h.lt
        clear h hb hown hro hrb had hnow hnext hok
        go_enter Tryz.func78, Tryz.ntmps78
        go_upto_region 3 with (fail)
        refine' wp_region_dag0 ((15, .val _) :: (16, .val _) :: (17, .val _) :: (18, .val _) :: (19, .val _) :: (20, .val _) :: (21, .val _) :: (22, .val _) :: (23, .val _) :: (24, .val _) :: (14, .val _) :: []) (by exact ⟨fun _ _ _ _ _ => trivial, ⟨fun _ _ _ _ _ => trivial, ⟨fun _ _ _ _ _ => trivial, ⟨fun _ _ _ _ _ => trivial, ⟨fun _ _ _ _ _ => trivial, ⟨fun _ _ _ _ _ => trivial, ⟨fun _ _ _ _ _ => trivial, ⟨fun _ _ _ _ _ => trivial, ⟨fun _ _ _ _ _ => trivial, ⟨fun _ _ _ _ _ => trivial, ⟨fun _ _ _ _ _ => trivial, trivial⟩⟩⟩⟩⟩⟩⟩⟩⟩⟩⟩) (by kernel_rfl) (by kernel_rfl) (by kernel_rfl) ?_
        rotate_left 11
        repeat (first
          | (refine wpD_skipv ?_ ?_ ?_
             focus rfl
             focus rfl
             simp only [Act.put, List.setIfInBounds_toArray, List.set_cons_succ, List.set_cons_zero])
          | (refine' wpD_val (c := _) ?_ (fun w => Kp.refl _ w) ?_ (fun wq hwq hfq => ?_) ?_
             rotate_left
             focus rfl
             focus rfl
             focus ((have hbq := HB.out.kp hwq (fun f => f); have c0 := hbq.cell 0 _ rfl; have c3 := hbq.cell 3 _ rfl); go_simp; first | done | rfl)
             simp only [Act.put, List.setIfInBounds_toArray, List.set_cons_succ, List.set_cons_zero])
          | (refine' wpD_con (c := _) ?_ ?_ (fun wq hwq hfq => ?_) ?_
             rotate_left
             focus rfl
             focus rfl
             focus ((have hbq := HB.out.kp hwq (fun f => f); have c0 := hbq.cell 0 _ rfl; have c3 := hbq.cell 3 _ rfl); go_simp; (try (rw [dUpon_enter])); fail)
             simp only [Act.put, List.setIfInBounds_toArray, List.set_cons_succ, List.set_cons_zero])
          | fail)
        refine wpD_nil ?_
        intro w2 hx2 hend
        clear hend
        have HX2 := Lib.hid hx2
        have hb2 := HB.out.kp hx2 (fun f => f)
        have c2 := hb2.cell 2 _ rfl
        have f2 := hb2.free 2
        have HB2 := Lib.hid hb2
        have HO2 := Lib.hid (ownsRow.ext HOWN.out hx2)
        clear hx2 hb2
        go_upto_region 7 with (fail)
        obtain ⟨W4, hW4⟩ : ∃ W4, w2.setCell ⟨b, 2, none⟩ (.int .i64 (s.next + 1)) = W4 := ⟨_, rfl⟩
        rw [hW4]
        have hk4 : Kp (fun i => i = b) w2 W4 := by rw [← hW4]; exact Kp.set1 (S := fun i => i = b) (Kp.refl _ _) b 2 _ rfl
        have hbb4 : Blk W4 b #[.int .i64 s.room, .int .i64 s.now, .int .i64 (s.next + 1), .slice a s.l.length c] ssT := by rw [← hW4]; exact HB2.out.set 2 _
        have hro : (Value.slice a s.l.length c).ownBlock = ro := HRO.out
        have hown4 : W4.ownsRow 0 seT 3 (.slice a s.l.length c) s.l.length (s.l.flatMap scell) := ownsRow.kp HO2.out hk4 (fun i hi e => HRB.out i (by rw [← hro]; exact hi) e)
        have hnb : ¬ (W4.heap.size ≤ b ∨ (Value.slice a s.l.length c).ownBlock = some b) := fun f => by
          rcases f with f | f
          · have := hbb4.lt; omega
          · rw [hro] at f; exact HRB.out b f rfl
        have HNB := Lib.hid hnb
        have HO4 := Lib.hid hown4
        have HBB4 := Lib.hid hbb4
        have HX4 : Hid (Kp (fun i => i = b ∨ ro = some i) w W4) := (Ext.kp HX2.out).next hk4 (fun i _ e => .inl e)
        clear hown4 hnb hro hW4 hk4 hbb4 c2 f2
        refine' wp_region_dagQ W4.heap.size seT 3 (.slice a s.l.length c) s.l.length (s.l.flatMap scell) 18 [(51, [50], [])] ((36, .val _) :: (37, .val _) :: (38, .val _) :: (39, .val _) :: (40, .val _) :: (41, .val _) :: (42, .val _) :: (43, .val _) :: (44, .val _) :: (45, .val _) :: (46, .val _) :: (47, .val _) :: (48, .val _) :: (49, .val _) :: (50, ⟨fun _ => True, fun v w => BoxL W4.heap.size seT 1 [.int .i64 s.next, .int .i64 span, .int .i64 (s.now + span)] v w⟩) :: (51, ⟨fun v => ∃ a l c, v = .slice a l c, fun v w => w.ownsRow 0 seT 3 v (s.l.length + 1) (s.l.flatMap scell ++ [.int .i64 s.next, .int .i64 span, .int .i64 (s.now + span)]) ∧ ∀ i, v.ownBlock = some i → (Value.slice a s.l.length c).ownBlock = some i ∨ W4.heap.size ≤ i⟩) :: (52, .val _) :: (53, .val _) :: []) (by exact ⟨fun _ _ _ _ _ => trivial, ⟨fun _ _ _ _ _ => trivial, ⟨fun _ _ _ _ _ => trivial, ⟨fun _ _ _ _ _ => trivial, ⟨fun _ _ _ _ _ => trivial, ⟨fun _ _ _ _ _ => trivial, ⟨fun _ _ _ _ _ => trivial, ⟨fun _ _ _ _ _ => trivial, ⟨fun _ _ _ _ _ => trivial, ⟨fun _ _ _ _ _ => trivial, ⟨fun _ _ _ _ _ => trivial, ⟨fun _ _ _ _ _ => trivial, ⟨fun _ _ _ _ _ => trivial, ⟨fun _ _ _ _ _ => trivial, ⟨fun _ _ _ hr hv => hv.ext hr, ⟨fun _ _ _ hr hv => ⟨ownsRow.ext hv.1 hr, hv.2⟩, ⟨fun _ _ _ _ _ => trivial, ⟨fun _ _ _ _ _ => trivial, trivial⟩⟩⟩⟩⟩⟩⟩⟩⟩⟩⟩⟩⟩⟩⟩⟩⟩⟩) (by kernel_rfl) (by kernel_rfl) (by kernel_rfl) ?_
        rotate_left 16
        simp only [List.take_succ_cons, List.take_zero]
        repeat (first
          | (refine wpD_skipv ?_ ?_ ?_
             focus rfl
             focus rfl
             simp only [Act.put, List.setIfInBounds_toArray, List.set_cons_succ, List.set_cons_zero])
          | (refine' wpD_val (c := _) ?_ (fun w => Rr.refl w) ?_ (fun wq hwq hfq => ?_) ?_
             rotate_left
             focus rfl
             focus rfl
             focus (have hbq := HBB4.out.kp hwq.1 HNB.out; have d3 := hbq.cell 3 _ rfl; have d1 := hbq.cell 1 _ rfl; go_simp; first | done | rfl)
             simp only [Act.put, List.setIfInBounds_toArray, List.set_cons_succ, List.set_cons_zero])
          | (refine' wpD_con (c := _) ?_ ?_ (fun wq hwq hfq => ?_) ?_
             rotate_left
             focus rfl
             focus rfl
             focus (have hbq := HBB4.out.kp hwq.1 HNB.out; have d3 := hbq.cell 3 _ rfl; have d1 := hbq.cell 1 _ rfl; go_simp; (try (rw [dUpon_enter])); fail)
             simp only [Act.put, List.setIfInBounds_toArray, List.set_cons_succ, List.set_cons_zero])
          | (refine wpD_made (A := fun _ => True) (V := fun v w => BoxL W4.heap.size seT 1 [.int .i64 s.next, .int .i64 span, .int .i64 (s.now + span)] v w) 50 ?_ ?_ ?_ ?_ (fun wq hwq hfq => ?_) (fun v50 h50 => ?_)
             focus rfl
             focus rfl
             focus (exact ⟨undef, trivial⟩)
             focus rfl
             focus (have hbq := HBB4.out.kp hwq.1 HNB.out; have d3 := hbq.cell 3 _ rfl; have d1 := hbq.cell 1 _ rfl; go_simp; (try (rw [dUpon_enter])); rw [dUpon_value]; exact mPost trivial (BoxL.new hwq.1.size) ((Kp.refl _ _).alloc _))
             clear h50
             simp only [Act.put, List.setIfInBounds_toArray, List.set_cons_succ, List.set_cons_zero])
          | (refine wpD_used (A := fun v => ∃ a l c, v = .slice a l c) (V := fun v w => w.ownsRow 0 seT 3 v (s.l.length + 1) (s.l.flatMap scell ++ [.int .i64 s.next, .int .i64 span, .int .i64 (s.now + span)]) ∧ ∀ i, v.ownBlock = some i → (Value.slice a s.l.length c).ownBlock = some i ∨ W4.heap.size ≤ i) 51 ?_ ?_ ?_ ?_ (fun wq hwq hfq => ?_) (fun v51 h51 => ?_)
             focus rfl
             focus rfl
             focus (exact ⟨.slice none 0 0, _, _, _, rfl⟩)
             focus rfl
             focus (have hbq := HBB4.out.kp hwq.1 HNB.out; have d3 := hbq.cell 3 _ rfl; have d1 := hbq.cell 1 _ rfl; refine dUpon_appR (d := 51) rfl (by kernel_rfl) sesT seT 3 (by decide) se_facts rfl _ _ rfl (.slice a s.l.length c) s.l.length (s.l.flatMap scell) rfl (hwq.2 HO4.out) v50 1 [.int .i64 s.next, .int .i64 span, .int .i64 (s.now + span)] rfl W4.heap.size (hfq 50 rfl) rfl (scell_one [(⟨s.next, span, s.now + span⟩ : SeV)]) (by omega) (fun v' w' h1 h2 h3 h4 => ⟨by obtain ⟨a, c, e, _⟩ := Sl.open (Sl.of_owns h1); exact ⟨_, _, _, e⟩, ⟨h1, fun i hi => ?_⟩, ⟨(Kp.refl (fun i => W4.heap.size ≤ i ∨ (Value.slice a s.l.length c).ownBlock = some i) _).grown h2 (fun q hq _ => .inr hq), fun _ => h3⟩, ?_⟩); (rcases h4 with h4 | h4; (focus exact .inl (by rw [← h4]; exact hi)); (rw [h4] at hi; simp only [Option.some.injEq] at hi; right; have := hwq.1.size; omega)); repeat (first | exact PresL.nil | (with_reducible refine PresL.val ?_) | (refine PresL.out rfl ?_) | (refine PresL.keep (fun u hu => hu) ?_)))
             obtain ⟨a51, l51, c51, rfl⟩ := h51
             simp only [Act.put, List.setIfInBounds_toArray, List.set_cons_succ, List.set_cons_zero])
          | fail)
        refine wpD_nil ?_
        intro w1 hr1 hend
        have h51 : w1.ownsRow 0 seT 3 (.slice a51 l51 c51) (s.l.length + 1) (s.l.flatMap scell ++ [.int .i64 s.next, .int .i64 span, .int .i64 (s.now + span)]) ∧ ∀ i, (Value.slice a51 l51 c51).ownBlock = some i → (Value.slice a s.l.length c).ownBlock = some i ∨ W4.heap.size ≤ i := hend 51 (by kernel_rfl)
        clear hend
        have hbw := HBB4.out.kp hr1.1 HNB.out
        have d3 := hbw.cell 3 _ rfl
        have g3 := hbw.free 3
        have HBW := Lib.hid hbw
        have H51 := Lib.hid h51
        have hsz : w.heap.size ≤ W4.heap.size := HX4.out.size
        have hkk : Kp (fun i => i = b ∨ ro = some i) w w1 := Kp.next (S := fun i => i = b ∨ ro = some i) HX4.out hr1.1 (fun i hi h => by
          rcases h with h | h
          · omega
          · exact .inr (by rw [← HRO.out]; exact h))
        have HKK := Lib.hid hkk
        clear h51 hbw hr1 hkk
        go_wp2_with (fail)
        go_ret2
        have hst : Kp (fun i => i = b) w1 (w1.setCell ⟨b, 3, none⟩ (.slice a51 l51 c51)) := Kp.set1 (S := fun i => i = b) (Kp.refl _ _) b 3 _ rfl
        have hne : ∀ i, (Value.slice a51 l51 c51).ownBlock = some i → i ≠ b := by
          intro i hi e
          subst e
          exact HNB.out ((H51.out.2 _ hi).elim .inr .inl)
        rw [HE.out]
        refine ⟨rfl, ⟨(Value.slice a51 l51 c51).ownBlock, ?_, fun i hi => ?_⟩, HKK.out.set1 b 3 _ (.inl rfl)⟩
        · refine SesR.mk (HBW.out.set 3 _) ?_ rfl hne
          have h6 : w1.ownsRow 0 seT 3 (.slice a51 l51 c51) (s.l ++ [(⟨s.next, span, s.now + span⟩ : SeV)]).length ((s.l ++ [(⟨s.next, span, s.now + span⟩ : SeV)]).flatMap scell) := by
            rw [flatMap_snoc, List.length_append]; exact H51.out.1
          exact ownsRow.kp h6 hst hne
        · rcases H51.out.2 i hi with h | h
          · exact .inl (by rw [← HRO.out]; exact h)
          · exact .inr (by omega)
end Go.Proofs.YtnlefnhdhigecaaGreatDoor

/- Walks: sessions: slices.Delete, Close. -/
namespace Go.Proofs.YtnlefnhdhigecaaGreatDoor
set_option maxRecDepth 100000
open Go.RowKit Av
end Go.Proofs.YtnlefnhdhigecaaGreatDoor

/- Walks: sessions: Tick. -/
namespace Go.Proofs.YtnlefnhdhigecaaGreatDoor
set_option maxRecDepth 100000
open Go.RowKit Av

abbrev sxT : TypeId := 2
abbrev sxsT : TypeId := 58
def ovS (now : Int) (l : List SeV) : List Int := (l.filter (overS now)).map (·.id)
def sxc (l : List Int) : List Value := l.map (Value.int .i64)
theorem own_atS {w : World} {base k n : Nat} {e : TypeId} {v : Value} {xs : List Value} (h : w.ownsRow base e k v n xs) {i : Nat} (hi : v.ownBlock = some i) : base ≤ i ∧ i < w.heap.size := by
  obtain ⟨_, ⟨rfl, _⟩ | ⟨g, cap, cur, rfl, hb, hg, _⟩⟩ := h
  · simp [Value.ownBlock] at hi
  · simp only [Value.ownBlock, Option.some.injEq] at hi
    subst hi
    exact ⟨hb, (Array.getElem?_eq_some_iff.1 hg).1⟩
/-- What Tick's closure leans on. -/
structure TkInv (pb ob sb : Nat) (now : Int) (rb base : Nat) (seen : List SeV) (cur : Option Nat) (W : World) : Prop where
  pc : W.cell? ⟨pb, 0, none⟩ = some (.pointer (some ⟨sb, 0, none⟩))
  nc : W.cell? ⟨sb, 1, none⟩ = some (.int .i64 now)
  out : ∃ v, Blk W ob #[v] sxsT ∧ W.ownsRow base sxT 1 v (ovS now seen).length (sxc (ovS now seen)) ∧ cur = v.ownBlock
  ne : (ob ≠ pb ∧ ob ≠ sb) ∧ (pb < base ∧ sb < base ∧ ob < base) ∧ (pb ≠ rb ∧ sb ≠ rb ∧ ob ≠ rb) ∧ rb < base ∧ base ≤ W.heap.size
theorem TkInv.kp {pb ob sb : Nat} {now : Int} {rb base : Nat} {seen : List SeV} {cur : Option Nat} {W W' : World} {S : Nat → Prop} (h : TkInv pb ob sb now rb base seen cur W) (k : Kp S W W') (hs : ∀ i, S i → i = rb ∨ W.heap.size ≤ i) : TkInv pb ob sb now rb base seen cur W' := by
  obtain ⟨hp, hu, ⟨v, h1, h2, h3⟩, ⟨n1, n2⟩, ⟨m1, m2, m4⟩, ⟨k1, k2, k4⟩, hrb, hb⟩ := h
  have key : ∀ q, q < base → q ≠ rb → ¬ S q := fun q hq hne hS => by rcases hs q hS with h | h <;> omega
  refine ⟨k.cell hp (key pb m1 k1), k.cell hu (key sb m2 k2), ⟨v, h1.kp k (key ob m4 k4), ownsRow.kp h2 k (fun i hi hS => ?_), h3⟩, ⟨n1, n2⟩, ⟨m1, m2, m4⟩, ⟨k1, k2, k4⟩, hrb, Nat.le_trans hb k.size⟩
  have := own_atS h2 hi
  rcases hs i hS with h | h <;> omega
def rsS (now : Int) (l : List SeV) : List SeV := l.filter fun x => !overS now x
/-- What the deletion makes, whatever the length. -/
structure TkDel (W w' : World) (ro : Option Nat) (ob : Nat) (now : Int) (l : List SeV) (v : Value) : Prop where
  own : w'.ownsRow 0 seT 3 v (rsS now l).length ((rsS now l).flatMap scell)
  blk : v.ownBlock = ro
  out : ∃ u, Blk w' ob #[u] sxsT ∧ w'.ownsRow W.heap.size sxT 1 u (ovS now l).length (sxc (ovS now l))
end Go.Proofs.YtnlefnhdhigecaaGreatDoor

/- Regions as in XAvDag, where draws are counted too: what comes of a call is the old world, some draws and some blocks on. No program. -/
namespace Av
set_option maxRecDepth 100000
open Go Go.RowKit Go.Sort
/-- Nothing that lay there has turned, and draws were only added. -/
structure Gw (a b : World) : Prop where
  ext : Ext a b
  drawn : a.drawn ≤ b.drawn
theorem Gw.refl (w : World) : Gw w w := ⟨Kp.refl _ w, Nat.le_refl _⟩
theorem Gw.trans {a b c : World} (h : Gw a b) (k : Gw b c) : Gw a c := ⟨h.ext.trans k.ext, Nat.le_trans h.drawn k.drawn⟩
theorem Gw.drew {a w : World} (h : Gw a w) : Gw a w.drew := ⟨h.ext.drew, Nat.le_trans h.drawn (Nat.le_succ _)⟩
theorem Gw.drewN {a w : World} (h : Gw a w) (n : Nat) : Gw a (w.drewN n) := ⟨h.ext.drewN n, Nat.le_trans h.drawn (Nat.le_add_right _ _)⟩
theorem Gw.alloc {a w : World} (h : Gw a w) (o : Obj) : Gw a (w.alloc o) := ⟨h.ext.alloc o, h.drawn⟩
theorem Gw.grow {a b : World} (h : Gw a b) : ∃ q os, b = Go.Sort.grow (a.drewN q) os := by
  refine ⟨b.drawn - a.drawn, b.heap.extract a.heap.size b.heap.size, ?_⟩
  have hh : b.heap = a.heap ++ b.heap.extract a.heap.size b.heap.size := by
    have hs := h.ext.size
    apply Array.ext_getElem?
    intro i
    rw [Array.getElem?_append]
    split
    · rename_i hi; exact h.ext.block i hi (fun f => f)
    · rename_i hi
      rw [Array.getElem?_extract]
      split
      · congr 1; omega
      · rw [Array.getElem?_eq_none (by omega)]
  have hd : b.drawn = a.drawn + (b.drawn - a.drawn) := by have := h.drawn; omega
  have h1 := h.ext.os; have h2 := h.ext.tape; have h3 := h.ext.output
  cases a; cases b
  simp only [Go.Sort.grow, World.drewN] at *
  subst h1 h2 h3
  simp only [World.mk.injEq, true_and, and_true]
  exact ⟨hh, hd⟩
theorem wp_region_dagG {P : Program} {id : Nat} {Q : Exit → Act → World → Prop} {a : Act} {w : World} {l : List Oper} (S : List (Tmp × TSpec)) (hst : Stab (fun a b => Gw a b) S) (hm : P.follows .mixedOrders = true) (hB : dagB .any l.toArray [] l.length = true) (hsz : dstB l.toArray a.tmps.size = true)
    (h : WpD P l.toArray (fun a b => Gw a b) (fun a b => Gw a b) w S [] (fun a' => ∀ w', Gw w w' → Ends l.toArray S [] l.length a' w' → Q .normal a' w') l 0 a) : (Code.region id l.toArray true).wp P Q a w := by
  refine wp_region_dagR l.length S [] (fun a b => Gw a b) (fun w => Gw.refl w) (fun _ _ _ h k => h.trans k) (Gw.refl w).drew hm hB hsz ?_
  rw [List.take_length, List.drop_length]
  exact h.out hst (fun _ _ h => h)
end Av
