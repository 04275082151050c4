/- Walks of package aviarylaw13: evs, WatchPlays. -/
import Derived.Test.YtiplmahjmkmddaaDoorAvWWatU
import Derived.Test.YtiplmahjmkmddaaDoorAvWatArg
import Derived.Deep.RegionHeld3
namespace Go.Proofs.YtiplmahjmkmddaaDoor
set_option maxRecDepth 100000
open Go.RowKit Av

def EvsRel (w : World) (n : Nat) (s : Value) (wr : World) : Prop := ∃ k : Nat, k ≤ n ∧ s = .int .i64 k ∧ Ext w wr
set_option maxHeartbeats 3200000 in
theorem evs_any (va vb : Value) (xs : List Wt) (w : World) (ha : Sl w 3 va xs.length (xs.flatMap wcell)) (hb : Sl w 3 vb xs.length (xs.flatMap wcell)) : Calls Tryd.prog 15 #[va, vb] w fun e w' => e = .returned (.bool true) ∧ Ext w w' := by
  obtain ⟨a1, c1, rfl, _, hm, hop1⟩ := Sl.rows (f := wcell) (K := 3) (fun _ => rfl) ha
  obtain ⟨a2, c2, rfl, _, _, hop2⟩ := Sl.rows (f := wcell) (K := 3) (fun _ => rfl) hb
  have HOP1 := Lib.hid hop1
  have HOP2 := Lib.hid hop2
  unfold maxLen at hm
  clear ha hb hop1 hop2
  go_enter Tryd.func15, Tryd.ntmps15
  go_wp2_with (fail)
  go_loopw [5] (fun i wr => EvsRel w xs.length i wr) (fun i _ => xs.length - (intOf i).toNat)
  case atStart => exact ⟨0, Nat.zero_le _, rfl, Kp.refl _ _⟩
  case round =>
    obtain ⟨k, hk, rfl, hxr⟩ := hrel
    have HXR := Lib.hid hxr
    clear hxr
    by_cases hlt : k < xs.length
    · obtain ⟨g1, o1, rfl, _, hc1⟩ := HOP1.out (by omega)
      obtain ⟨g2, o2, rfl, _, hc2⟩ := HOP2.out (by omega)
      have HA0 := Lib.hid (HXR.out.cell (hc1 k hlt 0 _ (by decide) rfl) (fun f => f))
      have HA1 := Lib.hid (HXR.out.cell (hc1 k hlt 1 _ (by decide) rfl) (fun f => f))
      have HA2 := Lib.hid (HXR.out.cell (hc1 k hlt 2 _ (by decide) rfl) (fun f => f))
      have HB0 := Lib.hid (HXR.out.cell (hc2 k hlt 0 _ (by decide) rfl) (fun f => f))
      have HB1 := Lib.hid (HXR.out.cell (hc2 k hlt 1 _ (by decide) rfl) (fun f => f))
      have HB2 := Lib.hid (HXR.out.cell (hc2 k hlt 2 _ (by decide) rfl) (fun f => f))
      obtain ⟨⟨es, ep, ek⟩, hq⟩ : ∃ e, xs[k] = e := ⟨_, rfl⟩
      simp only [hq, Nat.add_zero] at HA0 HA1 HA2 HB0 HB1 HB2
      clear hq hc1 hc2
      go_upto_region 6 with (fail)
      refine' wp_region_dag0 ((17, .val _) :: (18, .val _) :: (19, .val _) :: (20, .val _) :: (21, .val _) :: (22, .val _) :: (23, .val _) :: (24, .val _) :: (25, .val _) :: (26, .val _) :: (27, .val _) :: (28, .val _) :: (29, .val _) :: (30, .val _) :: (31, .val _) :: (32, .val _) :: (33, .val _) :: (34, .val _) :: (35, .val _) :: (36, .val _) :: (37, .val _) :: (38, .val _) :: (39, .val _) :: (40, .val _) :: (41, .val _) :: (42, .val _) :: (43, .val _) :: (44, .val _) :: (45, .val _) :: (46, .val _) :: (47, .val _) :: (48, .val _) :: (49, .val _) :: (50, .val _) :: (51, .val _) :: (52, .val _) :: (53, .val _) :: []) (by exact ⟨fun _ _ _ _ _ => trivial, ⟨fun _ _ _ _ _ => trivial, ⟨fun _ _ _ _ _ => trivial, ⟨fun _ _ _ _ _ => trivial, ⟨fun _ _ _ _ _ => trivial, ⟨fun _ _ _ _ _ => trivial, ⟨fun _ _ _ _ _ => trivial, ⟨fun _ _ _ _ _ => trivial, ⟨fun _ _ _ _ _ => trivial, ⟨fun _ _ _ _ _ => trivial, ⟨fun _ _ _ _ _ => trivial, ⟨fun _ _ _ _ _ => trivial, ⟨fun _ _ _ _ _ => trivial, ⟨fun _ _ _ _ _ => trivial, ⟨fun _ _ _ _ _ => trivial, ⟨fun _ _ _ _ _ => trivial, ⟨fun _ _ _ _ _ => trivial, ⟨fun _ _ _ _ _ => trivial, ⟨fun _ _ _ _ _ => trivial, ⟨fun _ _ _ _ _ => trivial, ⟨fun _ _ _ _ _ => trivial, ⟨fun _ _ _ _ _ => trivial, ⟨fun _ _ _ _ _ => trivial, ⟨fun _ _ _ _ _ => trivial, ⟨fun _ _ _ _ _ => trivial, ⟨fun _ _ _ _ _ => trivial, ⟨fun _ _ _ _ _ => trivial, ⟨fun _ _ _ _ _ => trivial, ⟨fun _ _ _ _ _ => trivial, ⟨fun _ _ _ _ _ => trivial, ⟨fun _ _ _ _ _ => trivial, ⟨fun _ _ _ _ _ => trivial, ⟨fun _ _ _ _ _ => trivial, ⟨fun _ _ _ _ _ => trivial, ⟨fun _ _ _ _ _ => trivial, ⟨fun _ _ _ _ _ => trivial, ⟨fun _ _ _ _ _ => trivial, trivial⟩⟩⟩⟩⟩⟩⟩⟩⟩⟩⟩⟩⟩⟩⟩⟩⟩⟩⟩⟩⟩⟩⟩⟩⟩⟩⟩⟩⟩⟩⟩⟩⟩⟩⟩⟩⟩) (by kernel_rfl) (by kernel_rfl) (by kernel_rfl) ?_
      rotate_left 37
      repeat (first
        | (refine wpD_skipv ?_ ?_ ?_
           focus rfl
           focus rfl
           simp only [Act.put, List.setIfInBounds_toArray, List.set_cons_succ, List.set_cons_zero])
        | (refine' wpD_val (c := _) ?_ (fun w => Kp.refl _ w) ?_ (fun wq hwq hfq => ?_) ?_
           rotate_left
           focus rfl
           focus rfl
           focus (have s0 := hwq.cell HA0.out (fun f => f); have s1 := hwq.cell HA1.out (fun f => f); have s2 := hwq.cell HA2.out (fun f => f); have t0 := hwq.cell HB0.out (fun f => f); have t1 := hwq.cell HB1.out (fun f => f); have t2 := hwq.cell HB2.out (fun f => f); go_simp; first | done | rfl)
           simp only [Act.put, List.setIfInBounds_toArray, List.set_cons_succ, List.set_cons_zero])
        | (refine' wpD_con (c := _) ?_ ?_ (fun wq hwq hfq => ?_) ?_
           rotate_left
           focus rfl
           focus rfl
           focus (have s0 := hwq.cell HA0.out (fun f => f); have s1 := hwq.cell HA1.out (fun f => f); have s2 := hwq.cell HA2.out (fun f => f); have t0 := hwq.cell HB0.out (fun f => f); have t1 := hwq.cell HB1.out (fun f => f); have t2 := hwq.cell HB2.out (fun f => f); go_simp; (try (rw [dUpon_enter])); fail)
           simp only [Act.put, List.setIfInBounds_toArray, List.set_cons_succ, List.set_cons_zero])
        | fail)
      refine wpD_nil ?_
      intro wz hz hend
      clear hend
      have HZ := Lib.hid (HXR.out.trans hz)
      clear hz
      go_wp2_with (fail)
      go_light
      exact ⟨⟨k + 1, by omega, by go_num, HZ.out⟩, by simp [intOf]; omega⟩
    · go_wp2_with (fail)
      go_ret
      go_light
      exact ⟨rfl, HXR.out⟩
/-- Both, side by side. -/
structure PS (w0 w : World) (b b2 room : Nat) (ro : Option Nat) (sv : Value) (l m : List Wt) : Prop where
  ws : WS w0 w b ro room l
  rw : RW w b2 room sv m
  ne : b2 ≠ b ∧ ¬ ro = some b2 ∧ ¬ sv.ownBlock = some b ∧ ∀ q, ro = some q → ¬ sv.ownBlock = some q
  base : w0.heap.size ≤ b2
theorem PS.ext {w0 w w' : World} {b b2 room : Nat} {ro : Option Nat} {sv : Value} {l m : List Wt} (h : PS w0 w b b2 room ro sv l m) (k : Ext w w') : PS w0 w' b b2 room ro sv l m := ⟨h.ws.ext k, h.rw.ext k, h.ne, h.base⟩
theorem PS.one {w0 w w' : World} {b b2 room : Nat} {ro ro' : Option Nat} {sv : Value} {l l' m : List Wt} (h : PS w0 w b b2 room ro sv l m) (k : Kp (fun i => i = b ∨ ro = some i) w w') (hw : WS w0 w' b ro' room l') (ha : Aft w ro ro') : PS w0 w' b b2 room ro' sv l' m := by
  obtain ⟨n1, n2, n3, n4⟩ := h.ne
  have hb2 := h.rw.1.lt
  refine ⟨hw, h.rw.kp k (fun f => f.elim n1 n2) (fun i hi f => f.elim (fun e => n3 (by rw [hi, e])) (fun e => n4 i e hi)), ⟨n1, fun e => ?_, n3, fun q hq hs => ?_⟩, h.base⟩
  · rcases ha b2 e with h1 | h1
    · exact n2 h1
    · omega
  · rcases ha q hq with h1 | h1
    · exact n4 q h1 hs
    · have := (h.rw.2.2.2 q hs).2; omega
theorem PS.two {w0 w w' : World} {b b2 room : Nat} {ro : Option Nat} {sv sv' : Value} {l m m' : List Wt} (h : PS w0 w b b2 room ro sv l m) (k : Kp (fun i => i = b2) w w') (hw : RW w' b2 room sv' m') (ha : AftV w sv sv') : PS w0 w' b b2 room ro sv' l m' := by
  obtain ⟨n1, n2, n3, n4⟩ := h.ne
  have hlt := h.ws.1.lt
  have hbs := h.base
  refine ⟨⟨h.ws.1.kp k (fun e => n1 e.symm) (fun i hi e => n2 (by rw [hi, e])), h.ws.2.1, h.ws.2.2.1, Kp.next (S := fun _ => False) h.ws.2.2.2 k (fun i hi e => by omega)⟩, hw, ⟨n1, n2, fun e => ?_, fun q hq hs => ?_⟩, h.base⟩
  · rcases ha b e with h1 | h1
    · exact n3 h1
    · omega
  · rcases ha q hs with h1 | h1
    · exact n4 q hq h1
    · have := hlt.2 q hq; omega
theorem psFire {w0 w : World} {b b2 room : Nat} {ro : Option Nat} {sv : Value} {l m : List Wt} (h : PS w0 w b b2 room ro sv l m) (hG : GL w0) (p : ByteArray) (ch : Int) (hp : p.size ≤ maxLen) (hn : l.length ≤ 100000) :
    Calls Tryd.prog 12 #[.pointer (some ⟨b, 0, none⟩), .string p, .int .i64 ch] w fun e w' => ∃ v, e = .returned v ∧ (Sl w' 3 v (fireT p ch l).length ((fireT p ch l).flatMap wcell) ∧ ∀ i, v.ownBlock = some i → i ≠ b2) ∧ PS w0 w' b b2 room ro sv (fireG p ch l) m ∧ Kp (fun i => i = b ∨ ro = some i) w w' := by
  have hb2 := h.rw.1.lt
  refine (watFire_any b ro room l p ch w h.ws.1 (hG.ext h.ws.2.2.2) hp hn).mono ?_
  rintro e w' ⟨v, rfl, ho, hw, hk⟩
  exact ⟨v, rfl, ⟨Sl.of_owns ho, fun i hi => by have := (own_at ho hi).1; omega⟩, h.one hk ⟨hw, h.ws.2.1, h.ws.2.2.1, h.ws.step hk⟩ (fun i hi => .inl hi), hk⟩
def PlRel (w0 : World) (b b2 room : Nat) (xs : List WActV) (s8 : Value) (wr : World) : Prop :=
  ∃ (k : Nat) (l m : List Wt) (ro : Option Nat) (sv : Value), k ≤ xs.length ∧ s8 = .int .i64 k ∧ l.length ≤ k ∧ AsW l m ∧ PS w0 wr b b2 room ro sv l m
set_option maxHeartbeats 800000 in
theorem watchPlays_bad (room : Int) (v : Value) (w : World) (hG : GL w) (h : room < 1 ∨ 1000 < room) : Calls Tryd.prog 6 #[.int .i64 room, v] w fun e w' => e = .returned (.bool true) ∧ Ext w w' := by
  by_cases h1 : room < 1
  · clear h
    go_enter Tryd.func6, Tryd.ntmps6
    go_wp2_with (fail)
    refine (awake_any w hG).mono ?_
    rintro e w0 ⟨rfl, hx0⟩
    go_wp2_with (fail)
    refine (watNew_bad room w0 (.inl h1)).mono ?_
    rintro e w1 ⟨rfl, rfl⟩
    go_wp2_with (fail)
    go_ret
    exact ⟨rfl, hx0⟩
  · have h2 : 1000 < room := by omega
    clear h
    go_enter Tryd.func6, Tryd.ntmps6
    go_wp2_with (fail)
    refine (awake_any w hG).mono ?_
    rintro e w0 ⟨rfl, hx0⟩
    go_wp2_with (fail)
    refine (watNew_bad room w0 (.inr h2)).mono ?_
    rintro e w1 ⟨rfl, rfl⟩
    go_wp2_with (fail)
    go_ret
    exact ⟨rfl, hx0⟩
set_option maxHeartbeats 6400000 in
theorem watchPlays_in (room : Nat) (v : Value) (xs : List WActV) (w : World) (hG : GL w) (ha : WActs w v xs) (hr1 : 1 ≤ room) (hr2 : room ≤ 1000) : Calls Tryd.prog 6 #[.int .i64 room, v] w fun e w' => e = .returned (.bool true) ∧ Ext w w' := by
  obtain ⟨ad, c, rfl, hm, hop⟩ := ha.open
  have HOP := Lib.hid hop
  have HSZ := Lib.hid ha.2
  have HG := Lib.hid hG
  unfold maxLen at hm
  have r1 : ¬ (room : Int) < 1 := by omega
  have r2 : ¬ (1000 : Int) < (room : Int) := by omega
  clear hG ha hop
  by_cases hbig : 100 < xs.length
  · have hbz : (100 : Int) < (xs.length : Int) := by omega
    go_enter Tryd.func6, Tryd.ntmps6
    go_wp2_with (fail)
    refine (awake_any w HG.out).mono ?_
    rintro e w0 ⟨rfl, hx0⟩
    go_wp2_with (fail)
    refine (wsNew room w0 w0 (Kp.refl _ _) hr1 hr2).mono ?_
    rintro e w1 ⟨rfl, h1⟩
    go_wp2_with (fail)
    go_ret
    exact ⟨rfl, hx0.trans h1.2.2.2⟩
  · have hbz : ¬ (100 : Int) < (xs.length : Int) := by omega
    have hn100 : xs.length ≤ 100 := by omega
    clear hbig
    go_enter Tryd.func6, Tryd.ntmps6
    go_wp2_with (fail)
    refine (awake_any w HG.out).mono ?_
    rintro e w0 ⟨rfl, hx0⟩
    have HX0 := Lib.hid hx0
    have HG0 := Lib.hid (HG.out.ext hx0)
    clear hx0 HG
    go_wp2_with (fail)
    refine (wsNew room w0 w0 (Kp.refl _ _) hr1 hr2).mono ?_
    rintro e w1 ⟨rfl, h1⟩
    obtain ⟨b, hb⟩ : ∃ b, w0.heap.size = b := ⟨_, rfl⟩
    rw [hb] at h1 ⊢
    obtain ⟨w2, hw2⟩ : ∃ w2, w1.alloc (.cells #[.int .i64 room, .slice none 0 0] rwT) = w2 := ⟨_, rfl⟩
    have hx2 : Ext w1 w2 := by rw [← hw2]; exact (Kp.refl _ _).alloc _
    have hb2 : Blk w2 w1.heap.size #[.int .i64 room, .slice none 0 0] rwT := by rw [← hw2]; exact heap_alloc_new w1 _
    have hps : PS w0 w2 b w1.heap.size room none (.slice none 0 0) [] [] := by
      have hl := h1.1.lt
      refine ⟨h1.ext hx2, ⟨hb2, Sl.nil _ _, .inl rfl, by simp [Value.ownBlock]⟩, ⟨by omega, by simp, by simp [Value.ownBlock], by simp⟩, by omega⟩
    have HPS := Lib.hid hps
    obtain ⟨b2, hbb⟩ : ∃ b2, w1.heap.size = b2 := ⟨_, rfl⟩
    rw [hbb] at HPS
    clear h1 hx2 hb2 hps
    go_wp2_with (fail)
    go_loopw [8] (fun s8 wr => PlRel w0 b b2 room xs s8 wr) (fun s8 _ => xs.length - (intOf s8).toNat)
    case atStart => exact ⟨0, [], [], none, .slice none 0 0, Nat.zero_le _, rfl, Nat.le_refl _, AsW.nil, HPS.out⟩
    case round =>
      clear HPS hw2
      obtain ⟨k, l, m, ro, sv, hk, rfl, hlk, has, hps⟩ := hrel
      have HAS := Lib.hid has
      have HPS := Lib.hid hps
      clear has hps
      by_cases hlt : k < xs.length
      · obtain ⟨g, off, rfl, hg, hcl⟩ := HOP.out (by omega)
        have hxr : Ext w wr := HX0.out.trans HPS.out.ws.2.2.2
        have HPZ := Lib.hid (HSZ.out xs[k] (List.getElem_mem hlt))
        obtain ⟨c0, c1, c2, c3⟩ := hcl k hlt
        have c0 := hxr.cell c0 (fun f => f)
        have c1 := hxr.cell c1 (fun f => f)
        have c2 := hxr.cell c2 (fun f => f)
        have c3 := hxr.cell c3 (fun f => f)
        obtain ⟨⟨aop, ass, ap, ak⟩, hq⟩ : ∃ a, xs[k] = a := ⟨_, rfl⟩
        rw [hq] at c0 c1 c2 c3 HPZ
        simp only at c0 c1 c2 c3 HPZ
        clear hq hcl
        obtain ⟨wX, hW1⟩ : ∃ W1, wr.alloc (.cells #[.int .i64 aop, .int .i64 ass, .string ap, .int .i64 ak] 29) = W1 := ⟨_, rfl⟩
        have hx1 : Ext wr wX := by rw [← hW1]; exact (Kp.refl _ _).alloc _
        have hb1 : Blk wX wr.heap.size #[.int .i64 aop, .int .i64 ass, .string ap, .int .i64 ak] 29 := by rw [← hW1]; exact heap_alloc_new wr _
        have HLP := Lib.hid (HPS.out.ext hx1)
        have HBX := Lib.hid hb1
        have x0 := hb1.cell 0 _ rfl
        have x1 := hb1.cell 1 _ rfl
        have x2 := hb1.cell 2 _ rfl
        have x3 := hb1.cell 3 _ rfl
        have hbn : ¬ (wr.heap.size = b ∨ ro = some wr.heap.size) ∧ ¬ wr.heap.size = b2 := by
          have h1 := HPS.out.ws.1.lt.1
          have h2 := HPS.out.ws.1.lt.2
          have h3 := HPS.out.rw.1.lt
          refine ⟨?_, by omega⟩
          rintro (h | h)
          · omega
          · have := h2 _ h; omega
        have HBN := Lib.hid hbn
        clear hx1 hb1 hxr hbn
        by_cases h300 : (300 : Int) < (ap.size : Int)
        · go_wp2_with (fail)
          go_ret
          exact ⟨rfl, HX0.out.trans HLP.out.ws.2.2.2⟩
        · clear HPS
          have HLE : Hid (l.length ≤ 100000 ∧ m.length ≤ 100000) := by
            show _ ∧ _
            have := HAS.out.len; omega
          have HD := Lib.hid (HLP.out.ext (Kp.refl (fun _ => False) wX).drew)
          have HBD := Lib.hid (HBX.out.kp (Kp.refl (fun _ => False) wX).drew (fun f => f))
          by_cases hop0 : aop = 0
          · subst hop0
            have HEQ : Hid (armE room l ⟨ass, ap, ak⟩ = armRE room m ⟨ass, ap, ak⟩) := HAS.out.armE room _
            have hself : ((armRE room m ⟨ass, ap, ak⟩) == (armRE room m ⟨ass, ap, ak⟩)) = true := by simp
            go_upto_region 19 with (fail)
            go_region_held3 (fun W => W.cell? ⟨wr.heap.size, 1, none⟩ = some (.int .i64 ass) ∧ W.cell? ⟨wr.heap.size, 2, none⟩ = some (.string ap) ∧ W.cell? ⟨wr.heap.size, 3, none⟩ = some (.int .i64 ak)) (exact ⟨by assumption, by assumption, by assumption⟩) (first
              | (go_at_call 11; refine (wsArm HD.out.ws HG0.out ⟨ass, ap, ak⟩ HPZ.out HLE.out.1).mono ?_; rintro e w4 ⟨rfl, ro4, hl4, ha4, hk4⟩; rw [HEQ.out]; have HLP4 := Lib.hid (HD.out.one hk4 hl4 ha4); have HB4 := Lib.hid (HBD.out.kp hk4 HBN.out.1); have y1 := HB4.out.cell 1 _ rfl; have y2 := HB4.out.cell 2 _ rfl; have y3 := HB4.out.cell 3 _ rfl; clear hk4 hl4 ha4)
              | (go_at_call 14; refine (refArm_any b2 room sv m ⟨ass, ap, ak⟩ _ HLP4.out.rw HPZ.out HLE.out.2).mono ?_; rintro e w5 ⟨rfl, ⟨sv5, hr5, ha5⟩, hk5⟩; have HLP5 := Lib.hid (HLP4.out.two hk5 hr5 ha5); have HB5 := Lib.hid (HB4.out.kp hk5 HBN.out.2); have z1 := HB5.out.cell 1 _ rfl; have z2 := HB5.out.cell 2 _ rfl; have z3 := HB5.out.cell 3 _ rfl; clear hr5 hk5 ha5))
            have HAS5 := Lib.hid (HAS.out.arm room ⟨ass, ap, ak⟩)
            have HLL : Hid ((armG room l ⟨ass, ap, ak⟩).length ≤ l.length + 1) := (armG_len room l ⟨ass, ap, ak⟩).2
            obtain ⟨l', hl'⟩ : ∃ l', armG room l ⟨ass, ap, ak⟩ = l' := ⟨_, rfl⟩
            obtain ⟨m', hm'⟩ : ∃ m', armR room m ⟨ass, ap, ak⟩ = m' := ⟨_, rfl⟩
            rw [hl', hm'] at HLP5 HAS5
            rw [hl'] at HLL
            have hml := HAS5.out.len
            have hne : ((l'.length : Int) != (m'.length : Int)) = false := by rw [hml]; simp
            obtain ⟨a5, c5, rfl, _⟩ := HLP5.out.rw.open
            have HLN := Lib.hid (fun W (hx : Ext w5 W) => wsLen (HLP5.out.ext hx).ws)
            clear hl' hm' hml HD HBD x0 x1 x2 x3 HLP HBX HLP4 HB4 HB5 y1 y2 y3 z1 z2 z3 hself HEQ
            go_upto_region 22 with (fail)
            refine' wp_region_dag0 ((101, .val _) :: (102, .val _) :: (103, .val _) :: (104, .val _) :: (105, .val _) :: (106, .val _) :: (107, .val _) :: (108, .val _) :: (109, .val _) :: (110, .val _) :: (111, .val _) :: (112, .val _) :: []) (by exact ⟨fun _ _ _ _ _ => trivial, ⟨fun _ _ _ _ _ => trivial, ⟨fun _ _ _ _ _ => trivial, ⟨fun _ _ _ _ _ => trivial, ⟨fun _ _ _ _ _ => trivial, ⟨fun _ _ _ _ _ => trivial, ⟨fun _ _ _ _ _ => trivial, ⟨fun _ _ _ _ _ => trivial, ⟨fun _ _ _ _ _ => trivial, ⟨fun _ _ _ _ _ => trivial, ⟨fun _ _ _ _ _ => trivial, ⟨fun _ _ _ _ _ => trivial, trivial⟩⟩⟩⟩⟩⟩⟩⟩⟩⟩⟩⟩) (by kernel_rfl) (by kernel_rfl) (by kernel_rfl) ?_
            rotate_left 12
            repeat (first
              | (refine wpD_skipv ?_ ?_ ?_
                 focus rfl
                 focus rfl
                 simp only [Act.put, List.setIfInBounds_toArray, List.set_cons_succ, List.set_cons_zero])
              | (refine' wpD_val (c := _) ?_ (fun w => Kp.refl _ w) ?_ (fun wq hwq hfq => ?_) ?_
                 rotate_left
                 focus rfl
                 focus rfl
                 focus (have d1 := ((HLP5.out.ext hwq).rw.1).cell 1 _ rfl; go_simp; first | done | rfl)
                 simp only [Act.put, List.setIfInBounds_toArray, List.set_cons_succ, List.set_cons_zero])
              | (refine' wpD_con (c := _) ?_ ?_ (fun wq hwq hfq => ?_) ?_
                 rotate_left
                 focus rfl
                 focus rfl
                 focus (have d1 := ((HLP5.out.ext hwq).rw.1).cell 1 _ rfl; go_simp; (try (rw [dUpon_enter])); ((have hc := HLN.out wq hwq); (with_reducible refine hc.mono ?_); rintro e w' ⟨rfl, rfl⟩; exact DEnd.con (Kp.refl _ _)))
                 simp only [Act.put, List.setIfInBounds_toArray, List.set_cons_succ, List.set_cons_zero])
              | fail)
            refine wpD_nil ?_
            intro w9 hx9 hend
            clear hend
            have HP9 := Lib.hid (HLP5.out.ext hx9)
            clear hx9 HLP5 HLN
            go_wp2_with (fail)
            go_light
            exact ⟨⟨k + 1, l', m', ro4, _, by omega, by go_num, by have := HLL.out; omega, HAS5.out, HP9.out⟩, by simp [intOf]; omega⟩
          by_cases hop1 : aop = 1
          · subst hop1
            obtain ⟨hfe, hfa⟩ := HAS.out.fire ap ak
            have HFE := Lib.hid hfe
            have HAS5 := Lib.hid hfa
            have HLL : Hid ((fireG ap ak l).length ≤ l.length + 1) := by show _ ≤ _; have := fire_len ap ak l; omega
            clear hfe hfa hop0
            go_upto_region 21 with (fail)
            go_region_held3 (fun W => W.cell? ⟨wr.heap.size, 2, none⟩ = some (.string ap) ∧ W.cell? ⟨wr.heap.size, 3, none⟩ = some (.int .i64 ak)) (exact ⟨by assumption, by assumption⟩) (first
              | (go_at_call 12; refine (psFire HD.out HG0.out ap ak HPZ.out HLE.out.1).mono ?_; rintro e w4 ⟨v4, rfl, he4, hl4, hk4⟩; have HLP4 := Lib.hid hl4; have HE4 := Lib.hid he4; have HB4 := Lib.hid (HBD.out.kp hk4 HBN.out.1); have y2 := HB4.out.cell 2 _ rfl; have y3 := HB4.out.cell 3 _ rfl; clear hk4 hl4 he4)
              | (go_at_call 16; refine (refFire_any b2 room sv m ap ak _ HLP4.out.rw HPZ.out HLE.out.2).mono ?_; rintro e w6 ⟨v5, rfl, ho5, ⟨sv5, hr5, ha5, _⟩, hk5⟩; have HLP6 := Lib.hid (HLP4.out.two hk5 hr5 ha5); have HE6 := Lib.hid (Sl.kp HE4.out.1 hk5 (fun i hi _ e => HE4.out.2 i hi e)); have HV5 := Lib.hid (Sl.of_owns ho5); have HB6 := Lib.hid (HB4.out.kp hk5 HBN.out.2); have z2 := HB6.out.cell 2 _ rfl; have z3 := HB6.out.cell 3 _ rfl; clear hr5 hk5 ha5 ho5)
              | (go_at_call 15; refine (evs_any _ _ (fireT ap ak l) _ HE6.out (by rw [HFE.out]; exact HV5.out)).mono ?_; rintro e w5 ⟨rfl, hx5⟩; have HLP5 := Lib.hid (HLP6.out.ext hx5); have HB5 := Lib.hid (HB6.out.kp hx5 (fun f => f)); have t2 := HB5.out.cell 2 _ rfl; have t3 := HB5.out.cell 3 _ rfl; clear hx5))
            obtain ⟨l', hl'⟩ : ∃ l', fireG ap ak l = l' := ⟨_, rfl⟩
            obtain ⟨m', hm'⟩ : ∃ m', fireR ap ak m = m' := ⟨_, rfl⟩
            rw [hl', hm'] at HLP5 HAS5
            rw [hl'] at HLL
            have hml := HAS5.out.len
            have hne : ((l'.length : Int) != (m'.length : Int)) = false := by rw [hml]; simp
            obtain ⟨a5, c5, rfl, _⟩ := HLP5.out.rw.open
            have HLN := Lib.hid (fun W (hx : Ext w5 W) => wsLen (HLP5.out.ext hx).ws)
            clear hl' hm' hml HD HBD x0 x1 x2 x3 HLP HBX HLP4 HLP6 HB4 HB6 HB5 y2 y3 z2 z3 t2 t3 HE4 HE6 HV5 HFE
            go_upto_region 22 with (fail)
            refine' wp_region_dag0 ((101, .val _) :: (102, .val _) :: (103, .val _) :: (104, .val _) :: (105, .val _) :: (106, .val _) :: (107, .val _) :: (108, .val _) :: (109, .val _) :: (110, .val _) :: (111, .val _) :: (112, .val _) :: []) (by exact ⟨fun _ _ _ _ _ => trivial, ⟨fun _ _ _ _ _ => trivial, ⟨fun _ _ _ _ _ => trivial, ⟨fun _ _ _ _ _ => trivial, ⟨fun _ _ _ _ _ => trivial, ⟨fun _ _ _ _ _ => trivial, ⟨fun _ _ _ _ _ => trivial, ⟨fun _ _ _ _ _ => trivial, ⟨fun _ _ _ _ _ => trivial, ⟨fun _ _ _ _ _ => trivial, ⟨fun _ _ _ _ _ => trivial, ⟨fun _ _ _ _ _ => trivial, trivial⟩⟩⟩⟩⟩⟩⟩⟩⟩⟩⟩⟩) (by kernel_rfl) (by kernel_rfl) (by kernel_rfl) ?_
            rotate_left 12
            repeat (first
              | (refine wpD_skipv ?_ ?_ ?_
                 focus rfl
                 focus rfl
                 simp only [Act.put, List.setIfInBounds_toArray, List.set_cons_succ, List.set_cons_zero])
              | (refine' wpD_val (c := _) ?_ (fun w => Kp.refl _ w) ?_ (fun wq hwq hfq => ?_) ?_
                 rotate_left
                 focus rfl
                 focus rfl
                 focus (have d1 := ((HLP5.out.ext hwq).rw.1).cell 1 _ rfl; go_simp; first | done | rfl)
                 simp only [Act.put, List.setIfInBounds_toArray, List.set_cons_succ, List.set_cons_zero])
              | (refine' wpD_con (c := _) ?_ ?_ (fun wq hwq hfq => ?_) ?_
                 rotate_left
                 focus rfl
                 focus rfl
                 focus (have d1 := ((HLP5.out.ext hwq).rw.1).cell 1 _ rfl; go_simp; (try (rw [dUpon_enter])); ((have hc := HLN.out wq hwq); (with_reducible refine hc.mono ?_); rintro e w' ⟨rfl, rfl⟩; exact DEnd.con (Kp.refl _ _)))
                 simp only [Act.put, List.setIfInBounds_toArray, List.set_cons_succ, List.set_cons_zero])
              | fail)
            refine wpD_nil ?_
            intro w9 hx9 hend
            clear hend
            have HP9 := Lib.hid (HLP5.out.ext hx9)
            clear hx9 HLP5 HLN
            go_wp2_with (fail)
            go_light
            exact ⟨⟨k + 1, l', m', ro, _, by omega, by go_num, by have := HLL.out; omega, HAS5.out, HP9.out⟩, by simp [intOf]; omega⟩
          · have HAS5 := Lib.hid (HAS.out.drop ass)
            have HLL : Hid ((dropW ass l).length ≤ l.length + 1) := by show _ ≤ _; have : (dropW ass l).length ≤ l.length := List.length_filter_le _ _; omega
            have HEQ : Hid (l.length - (dropW ass l).length = m.length - (dropW ass m).length) := by
              show _ = _
              rw [HAS.out.len, HAS5.out.len]
            have hself : (((m.length - (dropW ass m).length : Nat) : Int) == ((m.length - (dropW ass m).length : Nat) : Int)) = true := by simp
            have o0 : (aop == 0) = false := beq_eq_false_iff_ne.2 hop0
            have o1 : (aop == 1) = false := beq_eq_false_iff_ne.2 hop1
            clear hop0 hop1
            go_upto_region 17 with (fail)
            go_region_held3 (fun W => W.cell? ⟨wr.heap.size, 1, none⟩ = some (.int .i64 ass)) (assumption) (first
              | (go_at_call 13; refine (wsDrop HD.out.ws ass HLE.out.1).mono ?_; rintro e w4 ⟨rfl, hl4, hk4⟩; rw [HEQ.out]; have HLP4 := Lib.hid (HD.out.one hk4 hl4 (fun i hi => .inl hi)); have HB4 := Lib.hid (HBD.out.kp hk4 HBN.out.1); have y1 := HB4.out.cell 1 _ rfl; clear hk4 hl4)
              | (go_at_call 17; refine (refDrop_any b2 room sv m ass _ HLP4.out.rw HLE.out.2).mono ?_; rintro e w5 ⟨rfl, ⟨sv5, hr5, ha5⟩, hk5⟩; have HLP5 := Lib.hid (HLP4.out.two hk5 hr5 ha5); have HB5 := Lib.hid (HB4.out.kp hk5 HBN.out.2); have z1 := HB5.out.cell 1 _ rfl; clear hr5 hk5 ha5))
            obtain ⟨l', hl'⟩ : ∃ l', dropW ass l = l' := ⟨_, rfl⟩
            obtain ⟨m', hm'⟩ : ∃ m', dropW ass m = m' := ⟨_, rfl⟩
            rw [hl', hm'] at HLP5 HAS5
            rw [hl'] at HLL
            have hml := HAS5.out.len
            have hne : ((l'.length : Int) != (m'.length : Int)) = false := by rw [hml]; simp
            obtain ⟨a5, c5, rfl, _⟩ := HLP5.out.rw.open
            have HLN := Lib.hid (fun W (hx : Ext w5 W) => wsLen (HLP5.out.ext hx).ws)
            clear hl' hm' hml HD HBD x0 x1 x2 x3 HLP HBX HLP4 HB4 HB5 y1 z1 hself HEQ
            go_upto_region 22 with (fail)
            refine' wp_region_dag0 ((101, .val _) :: (102, .val _) :: (103, .val _) :: (104, .val _) :: (105, .val _) :: (106, .val _) :: (107, .val _) :: (108, .val _) :: (109, .val _) :: (110, .val _) :: (111, .val _) :: (112, .val _) :: []) (by exact ⟨fun _ _ _ _ _ => trivial, ⟨fun _ _ _ _ _ => trivial, ⟨fun _ _ _ _ _ => trivial, ⟨fun _ _ _ _ _ => trivial, ⟨fun _ _ _ _ _ => trivial, ⟨fun _ _ _ _ _ => trivial, ⟨fun _ _ _ _ _ => trivial, ⟨fun _ _ _ _ _ => trivial, ⟨fun _ _ _ _ _ => trivial, ⟨fun _ _ _ _ _ => trivial, ⟨fun _ _ _ _ _ => trivial, ⟨fun _ _ _ _ _ => trivial, trivial⟩⟩⟩⟩⟩⟩⟩⟩⟩⟩⟩⟩) (by kernel_rfl) (by kernel_rfl) (by kernel_rfl) ?_
            rotate_left 12
            repeat (first
              | (refine wpD_skipv ?_ ?_ ?_
                 focus rfl
                 focus rfl
                 simp only [Act.put, List.setIfInBounds_toArray, List.set_cons_succ, List.set_cons_zero])
              | (refine' wpD_val (c := _) ?_ (fun w => Kp.refl _ w) ?_ (fun wq hwq hfq => ?_) ?_
                 rotate_left
                 focus rfl
                 focus rfl
                 focus (have d1 := ((HLP5.out.ext hwq).rw.1).cell 1 _ rfl; go_simp; first | done | rfl)
                 simp only [Act.put, List.setIfInBounds_toArray, List.set_cons_succ, List.set_cons_zero])
              | (refine' wpD_con (c := _) ?_ ?_ (fun wq hwq hfq => ?_) ?_
                 rotate_left
                 focus rfl
                 focus rfl
                 focus (have d1 := ((HLP5.out.ext hwq).rw.1).cell 1 _ rfl; go_simp; (try (rw [dUpon_enter])); ((have hc := HLN.out wq hwq); (with_reducible refine hc.mono ?_); rintro e w' ⟨rfl, rfl⟩; exact DEnd.con (Kp.refl _ _)))
                 simp only [Act.put, List.setIfInBounds_toArray, List.set_cons_succ, List.set_cons_zero])
              | fail)
            refine wpD_nil ?_
            intro w9 hx9 hend
            clear hend
            have HP9 := Lib.hid (HLP5.out.ext hx9)
            clear hx9 HLP5 HLN
            go_wp2_with (fail)
            go_light
            exact ⟨⟨k + 1, l', m', ro, _, by omega, by go_num, by have := HLL.out; omega, HAS5.out, HP9.out⟩, by simp [intOf]; omega⟩
      · go_wp2_with (fail)
        go_ret
        exact ⟨rfl, HX0.out.trans HPS.out.ws.2.2.2⟩
end Go.Proofs.YtiplmahjmkmddaaDoor
