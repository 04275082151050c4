/- Walk of package aviarylaw17: LockPlays. -/
import Derived.Test.YtdaoamnemkiloaaDoorAvLaw17T
import Derived.Test.YtdaoamnemkiloaaDoorAvWLockT
import Derived.Deep.RegionHeld3
namespace Go.Proofs.YtdaoamnemkiloaaDoor
set_option maxRecDepth 100000
open Go.RowKit Av

/-- The code's locks and the reference's, side by side. -/
structure LP (w W : World) (bl m gl : Nat) (s1 s2 : St) : Prop where
  ls : LS w W bl m s1
  rl : RL W gl s2
  new : w.heap.size ≤ gl
theorem LP.apart {w W : World} {bl m gl : Nat} {s1 s2 : St} (h : LP w W bl m gl s1 s2) : gl ≠ bl ∧ gl ≠ m := by
  obtain ⟨a, c, ⟨hb, _, _⟩, _⟩ := h.rl.open
  have c0 := hb.cell 0 _ rfl
  refine ⟨?_, ?_⟩
  · rintro rfl
    rw [h.ls.here.cell] at c0
    simp at c0
  · rintro rfl
    obtain ⟨L, c, ⟨h1, _⟩, _⟩ := h.ls.here.map
    simp [World.cell?, h1] at c0
theorem LP.more {w W W' : World} {bl m gl : Nat} {s1 s2 : St} (h : LP w W bl m gl s1 s2) (k : Ext W W') : LP w W' bl m gl s1 s2 := ⟨h.ls.more k, h.rl.ext k, h.new⟩
theorem LP.one {w W W' : World} {bl m gl : Nat} {s1 s2 s1' : St} (h : LP w W bl m gl s1 s2) (k : Kp (fun i => i = m) W W') (h' : LS w W' bl m s1') : LP w W' bl m gl s1' s2 := by
  refine ⟨h', ?_, h.new⟩
  obtain ⟨v, h1, h2, h3, h4⟩ := h.rl
  have hap := h.apart
  refine ⟨v, h1.kp k hap.2, ?_, h3, h4⟩
  refine Sl.kpn h2 k (fun hn b hb hlt e => ?_)
  subst e
  obtain ⟨a, c, rfl, _, _, hl, hop⟩ := Sl.open h2
  obtain ⟨g, off, rfl, _, hc⟩ := hop (by omega)
  simp [Value.ownBlock] at hb
  subst hb
  obtain ⟨L, c', ⟨hm, _⟩, _⟩ := h.ls.here.map
  have h0 : 0 < (s2.flatMap hcell).length := by rw [hl]; exact Nat.mul_pos (Nat.pos_of_ne_zero hn) (by decide)
  obtain ⟨x, hx⟩ : ∃ x, (s2.flatMap hcell)[0]? = some x := ⟨_, List.getElem?_eq_getElem h0⟩
  have := hc 0 x hx
  simp [World.cell?, hm] at this
theorem LP.two {w W W' : World} {bl m gl : Nat} {s1 s2 s2' : St} (h : LP w W bl m gl s1 s2) (hg : 0 < w.heap.size) (k : Kp (fun i => i = gl) W W') (h' : RL W' gl s2') : LP w W' bl m gl s1 s2' := by
  have hap := h.apart
  have hn := h.new
  exact ⟨⟨h.ls.here.kp k (fun e => hap.1 e.symm) (fun e => hap.2 e.symm), h.ls.gl.kp k (fun e => by omega), h.ls.ext.next k (fun i hi e => by omega), h.ls.new⟩, h', hn⟩
/-- The loop of acts. -/
def PlRel (w : World) (bl m gl : Nat) (xs : List ActV) (i : Value) (wr : World) : Prop :=
  ∃ n : Nat, n ≤ xs.length ∧ i = .int .i64 n ∧ ∃ st : St, LP w wr bl m gl st st ∧ Apart st ∧ st.length ≤ 8 * n
def SzRel (ps : List ByteArray) (i : Value) : Prop := ∃ k : Nat, k ≤ ps.length ∧ i = .int .i64 k
/-- The loop that looks at each path. -/
def HlRel (w : World) (bl m gl bx : Nat) (c : Array Value) (st : St) (ps : List ByteArray) (i : Value) (wr : World) : Prop := ∃ k : Nat, k ≤ ps.length ∧ i = .int .i64 k ∧ LP w wr bl m gl st st ∧ Blk wr bx c 42

set_option maxRecDepth 100000 in
set_option maxHeartbeats 4000000 in
theorem lockPlays_any (va : Value) (xs : List ActV) (p : ByteArray) (w : World) (hG : GL w) (ha : Acts w va xs) :
    Calls Tryd.prog 5 #[va, .string p] w fun e w' => e = .returned (.bool true) ∧ Ext w w' := by
  have hgl : 0 < w.heap.size := by obtain ⟨x, hx⟩ := hG; exact World.block_lt_of_cell? w _ hx
  obtain ⟨aa, ca, rfl, hca, hma, hoa⟩ := Acts.open ha
  unfold maxLen at hma
  have HOA := Lib.hid hoa
  have HSA := Lib.hid ha.2
  clear ha hoa
  go_enter Tryd.func5, Tryd.ntmps5
  go_wp2_with (fail)
  refine (awake_any w hG).mono ?_
  rintro e w1 ⟨rfl, hx1⟩
  by_cases hla : xs.length ≤ 50
  · have hla1 : (xs.length : Int) ≤ 50 := by omega
    by_cases hlp : p.size ≤ 300
    · have hlp1 : (p.size : Int) ≤ 300 := by omega
      have HP : Hid (p.size ≤ maxLen) := by show _ ≤ _; unfold maxLen; omega
      go_wp2_with (fail)
      refine (lockNew_any w1).mono ?_
      rintro e w2 ⟨bl, m, rfl, h2, hb, hm, hx2⟩
      have s2 : LS w w2 bl m [] := LS.start hG h2 (by have := hx1.size; omega) (hx1.ext hx2)
      obtain ⟨w3, hw3⟩ : ∃ w3, w2.alloc (.cells #[.slice none 0 0] rlT) = w3 := ⟨_, rfl⟩
      have hx3 : Ext w2 w3 := by rw [← hw3]; exact (Kp.refl _ _).alloc _
      have hr3 : RL w3 w2.heap.size [] := ⟨.slice none 0 0, by rw [← hw3]; exact heap_alloc_new w2 _, Sl.nil _ _, .inl rfl, fun e => absurd rfl e⟩
      have hlp0 : LP w w3 bl m w2.heap.size [] [] := ⟨s2.more hx3, hr3, by have := s2.ext.size; omega⟩
      obtain ⟨gl, hgl2⟩ : ∃ g, w2.heap.size = g := ⟨_, rfl⟩
      rw [hgl2] at hlp0
      have HL0 := Lib.hid hlp0
      have HW3 := Lib.hid hw3
      have HG2 := Lib.hid hgl2
      clear h2 hb hm hx1 hx2 s2 hw3 hx3 hr3 hgl2 hlp0
      go_upto_region 6 with (fail)
      rw [HW3.out, HG2.out]
      go_wp2_with (fail)
      go_loopw [7] (PlRel w bl m gl xs) (fun i _ => xs.length - (intOf i).toNat)
      case atStart => exact ⟨0, Nat.zero_le _, rfl, [], HL0.out, Apart.nil, by simp⟩
      case round =>
        clear HL0 HW3 HG2
        obtain ⟨n, hn, rfl, st, hlps, hap, hstl⟩ := hrel
        by_cases hlt : n < xs.length
        · obtain ⟨ba, oa, rfl, hba, hcaa⟩ := HOA.out (by omega)
          obtain ⟨hstr, hsz, hshape⟩ := HSA.out _ (List.getElem_mem hlt)
          obtain ⟨hc0, hc1, hc2'⟩ := hcaa n hlt
          obtain ⟨⟨op, who, v, ps⟩, hxn⟩ : ∃ x, xs[n] = x := ⟨_, rfl⟩
          rw [hxn] at hstr hsz hshape hc0 hc1 hc2'
          simp only at hstr hsz hshape hc0 hc1 hc2'
          obtain ⟨a2, c2, rfl, hc2, hm2, hop2⟩ := Strs.open hstr
          have q0 := hlps.ls.ext.cell hc0 (fun f => f)
          have q1 := hlps.ls.ext.cell hc1 (fun f => f)
          have q2 := hlps.ls.ext.cell hc2' (fun f => f)
          unfold maxLen at hm2
          obtain ⟨wX, hwX⟩ : ∃ wX, wr.alloc (.cells #[.int .i64 op, .int .i64 who, .slice a2 ps.length c2] 42) = wX := ⟨_, rfl⟩
          have hxX : Ext wr wX := by rw [← hwX]; exact (Kp.refl _ _).alloc _
          have hbX : Blk wX wr.heap.size #[.int .i64 op, .int .i64 who, .slice a2 ps.length c2] 42 := by rw [← hwX]; exact heap_alloc_new wr _
          have hlt2 := hlps.ls.here.lt
          obtain ⟨bx, hbx⟩ : ∃ g, wr.heap.size = g := ⟨_, rfl⟩
          have hbg : gl < wr.heap.size := by obtain ⟨_, h1, _⟩ := hlps.rl; exact h1.lt
          have hwb := hlps.ls.ext.size
          rw [hbx] at hbX hlt2 hbg hwb
          have x0 := hbX.cell 0 _ rfl
          have x1 := hbX.cell 1 _ rfl
          have x2 := hbX.cell 2 _ rfl
          have HBX := Lib.hid hbX
          have HLP := Lib.hid (hlps.more hxX)
          have HAP := Lib.hid hap
          have HSTR := Lib.hid hstr
          have HSZ := Lib.hid hsz
          have HSH := Lib.hid hshape
          have HOP2 := Lib.hid hop2
          have HWX := Lib.hid hwX
          have HBXE := Lib.hid hbx
          clear hcaa hc0 hc1 hc2' hxn hstr hsz hshape hop2 hwX hxX hbX hap hlps hbx
          go_upto_region 10 with (fail)
          rw [HWX.out, HBXE.out]
          clear HWX HBXE q0 q1 q2
          by_cases h8 : ps.length ≤ 8
          · have h8' : (ps.length : Int) ≤ 8 := by omega
            go_wp2_with (fail)
            go_loop [9] (fun i => SzRel ps i) (fun i => ps.length - (intOf i).toNat)
            case atStart => exact ⟨0, Nat.zero_le _, rfl⟩
            case round =>
              obtain ⟨k, hk, rfl⟩ := hrel
              by_cases hkl : k < ps.length
              · obtain ⟨g, off, rfl, hg, hcl⟩ := HOP2.out (by omega)
                have s0 := HLP.out.ls.ext.cell (hcl k hkl) (fun f => f)
                clear hcl
                go_wp2_with (fail)
                all_goals
                  go_light
                  first
                  | exact ⟨⟨k + 1, by omega, by go_num⟩, by simp [intOf]; omega⟩
                  | (go_ret; go_light; exact ⟨rfl, HLP.out.ls.ext⟩)
              · go_upto_region 17 with (fail)
                clear hk hkl
                have HTK := Lib.hid (HLP.out.ls.takeK hG who _ ps HSTR.out HSZ.out)
                have hwl := takeL_len st who ps
                have hfn := freeN_add st who
                have hbase : (gl < bx ∧ bl < bx ∧ m < bx) ∧ w.heap.size ≤ bx := ⟨⟨hbg, hlt2.1, hlt2.2⟩, hwb⟩
                have HBS := Lib.hid hbase
                have HST : Hid (st.length ≤ 8 * n) := hstl
                clear hbase
                by_cases hop : op = 0
                focus
                  subst hop
                  clear hfn
                  go_upto_region 18 with (fail)
                  go_wp2_with (fail)
                  refine HTK.out.mono ?_
                  rintro e w4 ⟨rfl, hl4, hk4⟩
                  have hlp4 := HLP.out.one hk4 hl4
                  have hb4 : Blk w4 bx _ _ := HBX.out.kp hk4 (fun e => by have := HBS.out; omega)
                  have x0 := hb4.cell 0 _ rfl
                  have x1 := hb4.cell 1 _ rfl
                  have x2 := hb4.cell 2 _ rfl
                  have HTR := Lib.hid (rlTake_any gl st who _ ps w4 hlp4.rl HAP.out.good (HSTR.out.ext hl4.ext) HSZ.out (fun hne x hx e => by
                    obtain ⟨b', off, e2, hb', _⟩ := HOP2.out (List.length_pos_iff.2 hne)
                    subst e2
                    have := HLP.out.new
                    simp [Value.ownBlock] at hx
                    omega) (by omega))
                  have HLP4 := Lib.hid hlp4
                  have HB4 := Lib.hid hb4
                  obtain ⟨S, hS⟩ : ∃ S, (wrongL st who ps).getD ⟨#[]⟩ = S := ⟨_, rfl⟩
                  obtain ⟨B, hB⟩ : ∃ B, (!(wrongL st who ps).isSome) = B := ⟨_, rfl⟩
                  rw [hS, hB] at HTR
                  rw [hS, hB]
                  clear hS hB hk4 hl4 hlp4 hb4 HTK
                  go_wp2_with (fail)
                  refine HTR.out.mono ?_
                  rintro e w5 ⟨rfl, hr5, hk5⟩
                  have HLP5 := Lib.hid (HLP4.out.two hgl hk5 hr5)
                  have hb5 : Blk w5 bx _ _ := HB4.out.kp hk5 (fun e => by have := HBS.out; omega)
                  have HB5 := Lib.hid hb5
                  have HAP5 := Lib.hid (HAP.out.take who ps)
                  have HLN5 : Hid ((takeL st who ps).length ≤ 8 * (n + 1)) := by show _ ≤ _; have := HST.out; omega
                  obtain ⟨st', hst'⟩ : ∃ s, takeL st who ps = s := ⟨_, rfl⟩
                  rw [hst'] at HLP5 HAP5 HLN5
                  have x0 := hb5.cell 0 _ rfl
                  have x1 := hb5.cell 1 _ rfl
                  have x2 := hb5.cell 2 _ rfl
                  have hss : (S.toList == S.toList) = true := by simp
                  have hbb : (B == B) = true := by simp
                  have hbn : (B != B) = false := by simp
                  clear hr5 hk5 hb5 hst' HTR HLP4 HB4 hwl
                  clear hss hbb hbn
                  go_upto_region 24 with (fail)
                rotate_left
                focus
                  have hop' : (op == 0) = false := by simpa using hop
                  clear hwl HTK hop
                  have HF1 := Lib.hid (fun W h => LS.freeK (w0 := w) (w := W) (b := bl) (m := m) (st := st) hG h who (by have := HST.out; omega))
                  have HF2 := Lib.hid (fun W h => rlFree_any gl st who W h (by have := HST.out; omega))
                  have HFN : Hid ((st.length : Int) - ((freeL st who).length : Int) = (freeN st who : Int)) := by show _ = _; omega
                  have HAP5 := Lib.hid (HAP.out.leave who)
                  have HLN5 : Hid ((freeL st who).length ≤ 8 * (n + 1)) := by show _ ≤ _; have := HST.out; omega
                  clear hfn
                  go_upto_region 22 with (fail)
                  have HD := Lib.hid (HLP.out.more (Kp.refl _ wX).drew)
                  have HBD := Lib.hid (HBX.out.kp (Kp.refl (fun _ => False) wX).drew (fun f => f))
                  have hfq : ((freeN st who : Int) != (freeN st who : Int)) = false := by simp
                  go_region_held3 (fun W => W.cell? ⟨bx, 1, none⟩ = some (.int .i64 who)) (assumption) (first
                    | (go_at_call 14; refine (HF1.out _ HD.out.ls).mono ?_; rintro e w4 ⟨rfl, hl4, hk4⟩; have HLP4 := Lib.hid (HD.out.one hk4 hl4); have HB4 := Lib.hid (HBD.out.kp hk4 (fun e => by have := HBS.out; omega)); have y1 := HB4.out.cell 1 _ rfl; clear hk4 hl4)
                    | (go_at_call 18; refine (HF2.out _ HLP4.out.rl).mono ?_; rintro e w5 ⟨rfl, hr5, hk5⟩; rw [HFN.out]; have HLP5 := Lib.hid (HLP4.out.two hgl hk5 hr5); have HB5 := Lib.hid (HB4.out.kp hk5 (fun e => by have := HBS.out; omega)); have y1 := HB5.out.cell 1 _ rfl; clear hr5 hk5))
                  obtain ⟨st', hst'⟩ : ∃ s, freeL st who = s := ⟨_, rfl⟩
                  rw [hst'] at HLP5 HAP5 HLN5
                  clear hst' HLP4 HB4 HD HBD hfq y1 HF1 HF2 HFN hop'
                  go_upto_region 24 with (fail)
                all_goals
                  have HS5 := Lib.hid HST.out
                  go_wp2_with (fail)
                  refine (held_any bl m st' p w5 HLP5.out.ls.here).mono ?_
                  rintro e w6 ⟨rfl, rfl⟩
                  obtain ⟨X, hX⟩ : ∃ X, (mget st' p).getD 0 = X := ⟨_, rfl⟩
                  obtain ⟨Y, hY⟩ : ∃ Y, (mget st' p).isSome = Y := ⟨_, rfl⟩
                  have HH := Lib.hid (rlHeld_any gl st' p w5 HLP5.out.rl)
                  rw [hX, hY] at HH
                  rw [hX, hY]
                  clear hX hY
                  go_wp2_with (fail)
                  refine HH.out.mono ?_
                  rintro e w6 ⟨rfl, rfl⟩
                  have HX1 : Hid ((X != X) = false) := by show _ = _; simp
                  have HX2 : Hid ((Y != Y) = false) := by show _ = _; simp
                  have HX3 : Hid (((st'.length : Int) != (st'.length : Int)) = false) := by show _ = _; simp
                  have HN1 := Lib.hid (fun W (hx : Ext w5 W) => lockLen_any bl m st' W (HLP5.out.more hx).ls.here)
                  have HN2 := Lib.hid (fun W (hx : Ext w5 W) => rlLen_any gl st' W (HLP5.out.more hx).rl)
                  have HB1 := Lib.hid (fun W (hx : Ext w5 W) => blocks_any bl m st' who p W (HLP5.out.more hx).ls.here (HLP5.out.more hx).ls.gl HP.out)
                  have HB2 := Lib.hid (fun W (hx : Ext w5 W) => rlBlocks_any gl st' who p W (HLP5.out.more hx).rl HAP5.out.good HP.out)
                  have HB3 := Lib.hid (fun W (hx : Ext w5 W) => blocks_any bl m st' 0 p W (HLP5.out.more hx).ls.here (HLP5.out.more hx).ls.gl HP.out)
                  have HB4 := Lib.hid (fun W (hx : Ext w5 W) => rlBlocks_any gl st' 0 p W (HLP5.out.more hx).rl HAP5.out.good HP.out)
                  obtain ⟨B1, hB1⟩ : ∃ X, blocksL st' who p = X := ⟨_, rfl⟩
                  obtain ⟨B2, hB2⟩ : ∃ X, blocksL st' 0 p = X := ⟨_, rfl⟩
                  rw [hB1] at HB1 HB2
                  rw [hB2] at HB3 HB4
                  have HX4 : Hid ((B1 != B1) = false) := by show _ = _; simp
                  have HX5 : Hid ((B2 != B2) = false) := by show _ = _; simp
                  clear hB1 hB2 HH
                  go_upto_region 26 with (fail)
                  refine' wp_region_dag0 ((114, .val _) :: (115, .val _) :: (116, .val _) :: (117, .val _) :: (118, .val _) :: (119, .val _) :: (120, .val _) :: (121, .val _) :: (122, .val _) :: (123, .val _) :: (124, .val _) :: (125, .val _) :: (126, .val _) :: (127, .val _) :: (128, .val _) :: (129, .val _) :: (130, .val _) :: (131, .val _) :: (132, .val _) :: (133, .val _) :: (134, .val _) :: (135, .val _) :: (136, .val _) :: (137, .val _) :: (138, .val _) :: (139, .val _) :: (140, .val _) :: (141, .val _) :: (142, .val _) :: (143, .val _) :: (144, .val _) :: (145, .val _) :: (146, .val _) :: (147, .val _) :: (148, .val _) :: (149, .val _) :: (150, .val _) :: []) (by exact ⟨fun _ _ _ _ _ => trivial, ⟨fun _ _ _ _ _ => trivial, ⟨fun _ _ _ _ _ => trivial, ⟨fun _ _ _ _ _ => trivial, ⟨fun _ _ _ _ _ => trivial, ⟨fun _ _ _ _ _ => trivial, ⟨fun _ _ _ _ _ => trivial, ⟨fun _ _ _ _ _ => trivial, ⟨fun _ _ _ _ _ => trivial, ⟨fun _ _ _ _ _ => trivial, ⟨fun _ _ _ _ _ => trivial, ⟨fun _ _ _ _ _ => trivial, ⟨fun _ _ _ _ _ => trivial, ⟨fun _ _ _ _ _ => trivial, ⟨fun _ _ _ _ _ => trivial, ⟨fun _ _ _ _ _ => trivial, ⟨fun _ _ _ _ _ => trivial, ⟨fun _ _ _ _ _ => trivial, ⟨fun _ _ _ _ _ => trivial, ⟨fun _ _ _ _ _ => trivial, ⟨fun _ _ _ _ _ => trivial, ⟨fun _ _ _ _ _ => trivial, ⟨fun _ _ _ _ _ => trivial, ⟨fun _ _ _ _ _ => trivial, ⟨fun _ _ _ _ _ => trivial, ⟨fun _ _ _ _ _ => trivial, ⟨fun _ _ _ _ _ => trivial, ⟨fun _ _ _ _ _ => trivial, ⟨fun _ _ _ _ _ => trivial, ⟨fun _ _ _ _ _ => trivial, ⟨fun _ _ _ _ _ => trivial, ⟨fun _ _ _ _ _ => trivial, ⟨fun _ _ _ _ _ => trivial, ⟨fun _ _ _ _ _ => trivial, ⟨fun _ _ _ _ _ => trivial, ⟨fun _ _ _ _ _ => trivial, ⟨fun _ _ _ _ _ => trivial, trivial⟩⟩⟩⟩⟩⟩⟩⟩⟩⟩⟩⟩⟩⟩⟩⟩⟩⟩⟩⟩⟩⟩⟩⟩⟩⟩⟩⟩⟩⟩⟩⟩⟩⟩⟩⟩⟩) (by kernel_rfl) (by kernel_rfl) (by kernel_rfl) ?_
                  rotate_left 37
                  repeat (first
                    | (refine wpD_skipv ?_ ?_ ?_
                       focus rfl
                       focus rfl
                       simp only [Act.put, List.setIfInBounds_toArray, List.set_cons_succ, List.set_cons_zero])
                    | (refine' wpD_val (c := _) ?_ (fun w => Kp.refl _ w) ?_ (fun wq hwq hfq => ?_) ?_
                       rotate_left
                       focus rfl
                       focus rfl
                       focus ((have x1 := (HB5.out.kp hwq (fun f => f)).cell 1 _ rfl; have f1 := HX1.out; have f2 := HX2.out; have f3 := HX3.out; have f4 := HX4.out; have f5 := HX5.out); go_simp; first | done | rfl)
                       simp only [Act.put, List.setIfInBounds_toArray, List.set_cons_succ, List.set_cons_zero])
                    | (refine' wpD_con (c := _) ?_ ?_ (fun wq hwq hfq => ?_) ?_
                       rotate_left
                       focus rfl
                       focus rfl
                       focus ((have x1 := (HB5.out.kp hwq (fun f => f)).cell 1 _ rfl; have f1 := HX1.out; have f2 := HX2.out; have f3 := HX3.out; have f4 := HX4.out; have f5 := HX5.out); go_simp; (try (rw [dUpon_enter])); (first | ((with_reducible refine (HN1.out _ hwq).mono ?_); rintro e w' ⟨rfl, rfl⟩; exact DEnd.con (Kp.refl _ _)) | ((with_reducible refine (HN2.out _ hwq).mono ?_); rintro e w' ⟨rfl, rfl⟩; exact DEnd.con (Kp.refl _ _)) | ((with_reducible refine (HB1.out _ hwq).mono ?_); rintro e w' ⟨rfl, hx⟩; exact DEnd.con hx) | ((with_reducible refine (HB2.out _ hwq).mono ?_); rintro e w' ⟨rfl, hx⟩; exact DEnd.con hx) | ((with_reducible refine (HB3.out _ hwq).mono ?_); rintro e w' ⟨rfl, hx⟩; exact DEnd.con hx) | ((with_reducible refine (HB4.out _ hwq).mono ?_); rintro e w' ⟨rfl, hx⟩; exact DEnd.con hx)))
                       simp only [Act.put, List.setIfInBounds_toArray, List.set_cons_succ, List.set_cons_zero])
                    | fail)
                  refine wpD_nil ?_
                  intro w6 hx6 _
                  have HLP6 := Lib.hid (HLP5.out.more hx6)
                  have hb6 := HB5.out.kp hx6 (fun f => f)
                  have x2 := hb6.cell 2 _ rfl
                  clear hx6 hb6 HN1 HN2 HB1 HB2 HB3 HB4 HX1 HX2 HX3 HX4 HX5
                  go_wp2_with (fail)
                  go_loop [18] (fun i => SzRel ps i) (fun i => ps.length - (intOf i).toNat)
                  case atStart => exact ⟨0, Nat.zero_le _, rfl⟩
                  case round =>
                    obtain ⟨q, hq, rfl⟩ := hrel
                    by_cases hql : q < ps.length
                    · obtain ⟨g, off, rfl, hg, hcl⟩ := HOP2.out (by omega)
                      have s0 := HLP6.out.ls.ext.cell (hcl q hql) (fun f => f)
                      have HH1 := Lib.hid (held_any bl m st' ps[q] w6 HLP6.out.ls.here)
                      have HH2 := Lib.hid (rlHeld_any gl st' ps[q] w6 HLP6.out.rl)
                      obtain ⟨X', hX⟩ : ∃ X, (mget st' ps[q]).getD 0 = X := ⟨_, rfl⟩
                      obtain ⟨Y', hY⟩ : ∃ Y, (mget st' ps[q]).isSome = Y := ⟨_, rfl⟩
                      rw [hX, hY] at HH1 HH2
                      have f1 : (X' != X') = false := by simp
                      have f2 : (Y' != Y') = false := by simp
                      clear hX hY hcl
                      go_wp2_with (fail)
                      refine HH1.out.mono ?_
                      rintro e w7 ⟨rfl, rfl⟩
                      go_wp2_with (fail)
                      refine HH2.out.mono ?_
                      rintro e w7 ⟨rfl, rfl⟩
                      go_wp2_with (fail)
                      go_light
                      exact ⟨⟨q + 1, by omega, by go_num⟩, by simp [intOf]; omega⟩
                    · clear hq
                      go_wp2_with (fail)
                      go_light
                      exact ⟨⟨n + 1, by omega, by go_num, st', HLP6.out, HAP5.out, HLN5.out⟩, by simp [intOf]; omega⟩
          · have h8' : ¬ (ps.length : Int) ≤ 8 := by omega
            go_wp2_with (fail)
            go_ret
            go_light
            exact ⟨rfl, HLP.out.ls.ext⟩
        · have hke : n = xs.length := by omega
          have HX := Lib.hid hlps.ls.ext
          clear hlps hap
          go_wp2_with (fail)
          go_ret
          go_light
          exact ⟨rfl, HX.out⟩
    · have hlp1 : ¬ (p.size : Int) ≤ 300 := by omega
      go_wp2_with (fail)
      go_ret
      go_light
      exact ⟨rfl, hx1⟩
  · have hla1 : ¬ (xs.length : Int) ≤ 50 := by omega
    go_wp2_with (fail)
    go_ret
    go_light
    exact ⟨rfl, hx1⟩
end Go.Proofs.YtdaoamnemkiloaaDoor
