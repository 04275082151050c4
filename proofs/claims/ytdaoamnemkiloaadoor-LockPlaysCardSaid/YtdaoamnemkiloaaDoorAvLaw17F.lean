/- Walk of package aviarylaw17: LockFar. -/
import Derived.Test.YtdaoamnemkiloaaDoorAvLaw17B
import Derived.Test.YtdaoamnemkiloaaDoorAvLockLaw
import Derived.Test.YtdaoamnemkiloaaDoorAvQuiet
namespace Go.Proofs.YtdaoamnemkiloaaDoor
set_option maxRecDepth 100000
open Go.RowKit Av

/-- Two paths of unlike first names. -/
def FarP (x y : ByteArray) : Prop := goodB x = true ∧ goodB y = true ∧ topL x.data.toList ≠ topL y.data.toList
def FarO (w : World) (a b : List ByteArray) (i : Value) (wr : World) : Prop :=
  ∃ n : Nat, n ≤ a.length ∧ i = .int .i64 n ∧ (∀ x ∈ a.take n, ∀ y ∈ b, FarP x y) ∧ Ext w wr
def FarI (w : World) (b : List ByteArray) (x : ByteArray) (k : Value) (wr : World) : Prop :=
  ∃ n : Nat, n ≤ b.length ∧ k = .int .i64 n ∧ (∀ y ∈ b.take n, FarP x y) ∧ Ext w wr
theorem take_next {b : List ByteArray} {n : Nat} (hn : n < b.length) {R : ByteArray → Prop} (h1 : ∀ y ∈ b.take n, R y) (h2 : R b[n]) : ∀ y ∈ b.take (n + 1), R y := by
  intro y hy
  rw [List.take_succ_eq_append_getElem hn] at hy
  rcases List.mem_append.1 hy with h | h
  · exact h1 y h
  · rw [List.mem_singleton] at h; exact h ▸ h2

/-- Take of a slice that was there before. -/
theorem LS.take {w0 w : World} {b m : Nat} {st : St} (hG : GL w0) (h : LS w0 w b m st) (who : Int) (v : Value) (ps : List ByteArray) (hs : Strs w0 v ps) (hps : ∀ p ∈ ps, p.size ≤ maxLen)
    (r : Option ByteArray) (st' : St) (hr : wrongL st who ps = r) (hst : takeL st who ps = st') :
    Calls Tryd.prog 12 #[.pointer (some ⟨b, 0, none⟩), .int .i64 who, v] w fun e w' =>
      e = .returned (.tuple #[.string (r.getD ⟨#[]⟩), .bool (!r.isSome)]) ∧ LS w0 w' b m st' := by
  subst hr hst
  refine (take_any b m st who v ps w h.here h.gl (hs.ext h.ext) hps ?_).mono ?_
  · intro hne x hx
    obtain ⟨a, c, rfl, _, _, ho⟩ := Strs.open hs
    obtain ⟨b', off, rfl, hb, _⟩ := ho (List.length_pos_iff.2 hne)
    have := h.new
    simp [Value.ownBlock] at hx
    omega
  · rintro e w' ⟨rfl, h2, h3⟩
    exact ⟨rfl, h.next h3 h2 (h.ne hG)⟩
theorem LS.free {w0 w : World} {b m : Nat} {st : St} (hG : GL w0) (h : LS w0 w b m st) (who : Int) (hn : st.length ≤ 1000000) (n : Nat) (st' : St) (h1 : freeL st who = st') (h2 : n + st'.length = st.length) :
    Calls Tryd.prog 14 #[.pointer (some ⟨b, 0, none⟩), .int .i64 who] w fun e w' => e = .returned (.int .i64 n) ∧ LS w0 w' b m st' := by
  subst h1
  have := freeN_add st who
  rw [show n = freeN st who by omega]
  refine (free_any b m st who w h.here hn).mono ?_
  rintro e w' ⟨rfl, h2, h3⟩
  exact ⟨rfl, h.next h3 h2 (h.ne hG)⟩

set_option maxRecDepth 100000 in
set_option maxHeartbeats 4000000 in
theorem lockFar_any (va vb : Value) (a b : List ByteArray) (w : World) (hG : GL w) (ha : Strs w va a) (hb : Strs w vb b) (hsa : ∀ x ∈ a, x.size ≤ maxLen) (hsb : ∀ x ∈ b, x.size ≤ maxLen) :
    Calls Tryd.prog 3 #[va, vb] w fun e w' => e = .returned (.bool true) ∧ Ext w w' := by
  have HSTA := Lib.hid ha
  have HSTB := Lib.hid hb
  obtain ⟨aa, ca, rfl, hca, hma, hoa⟩ := Strs.open ha
  obtain ⟨ab, cb, rfl, hcb, hmb, hob⟩ := Strs.open hb
  unfold maxLen at hma hmb
  have HOA := Lib.hid hoa
  have HOB := Lib.hid hob
  have HSA := Lib.hid hsa
  have HSB := Lib.hid hsb
  clear ha hb hoa hob hsa hsb
  by_cases hla : a.length ≤ 6
  · by_cases hlb : b.length ≤ 6
    · go_enter Tryd.func3, Tryd.ntmps3
      go_wp2_with (fail)
      refine (awake_any w hG).mono ?_
      rintro e w1 ⟨rfl, hx1⟩
      go_wp2_with (fail)
      go_loopw [5] (FarO w a b) (fun i _ => a.length - (intOf i).toNat)
      case atStart => exact ⟨0, Nat.zero_le _, rfl, by simp, hx1⟩
      case round =>
        obtain ⟨n, hn, rfl, hall, hx⟩ := hrel
        have HALL := Lib.hid hall
        clear hall hx1
        by_cases hlt : n < a.length
        · obtain ⟨ba, oa, rfl, hba, hcaa⟩ := HOA.out (by omega)
          have HC := Lib.hid (fun wx (k : Ext w wx) => k.cell (hcaa n hlt) (fun f => f))
          clear hcaa
          obtain ⟨wo, rfl⟩ : ∃ wo : World, wo = wr := ⟨_, rfl⟩
          go_wp2_with (fail)
          go_loopw [6] (FarI w b a[n]) (fun i _ => b.length - (intOf i).toNat)
          case atStart => exact ⟨0, Nat.zero_le _, rfl, by simp, hx⟩
          case round =>
            obtain ⟨j, hj, rfl, hin, hx'⟩ := hrel
            have HIN := Lib.hid hin
            clear hin hx
            by_cases hlt2 : j < b.length
            · obtain ⟨bb, ob, rfl, hbb, hcbb⟩ := HOB.out (by omega)
              have k1 : (n : Int) < a.length := by omega
              have k2 : (j : Int) < b.length := by omega
              have s1 := Lib.hid (HSA.out _ (List.getElem_mem hlt))
              have s2 := Lib.hid (HSB.out _ (List.getElem_mem hlt2))
              have HC2 := Lib.hid (fun wx (k : Ext w wx) => k.cell (hcbb j hlt2) (fun f => f))
              clear hcbb
              obtain ⟨g1, hg1⟩ : ∃ g, goodL a[n].data.toList = g := ⟨_, rfl⟩
              obtain ⟨g2, hg2⟩ : ∃ g, goodL b[j].data.toList = g := ⟨_, rfl⟩
              obtain ⟨t, ht⟩ : ∃ t, (topL a[n].data.toList == topL b[j].data.toList) = t := ⟨_, rfl⟩
              have HG1 := Lib.hid hg1
              have HG2 := Lib.hid hg2
              have HT := Lib.hid ht
              clear hg1 hg2 ht
              cases g1
              · clear HG2
                go_wp2_with (fail)
                refine wp_region_class (C := fun w' => Ext w w') hx'.drew (by kernel_rfl) (by kernel_rfl) ?_
                repeat (first
                  | (refine wpQ_skip ?_ ?_
                     focus rfl
                     simp only [Act.put, List.setIfInBounds_toArray, List.set_cons_succ, List.set_cons_zero])
                  | (refine' wpQ_val (u := _) ?_ (fun wq hwq => ?_) ?_
                     rotate_left
                     focus rfl
                     focus (have c1 := HC.out wq hwq; have c2 := HC2.out wq hwq; have c3 := HT.out; go_simp; first | done | rfl)
                     simp only [Act.put, List.setIfInBounds_toArray, List.set_cons_succ, List.set_cons_zero])
                  | (refine' wpQ_call (v := _) ?_ (fun wq hwq => ?_) ?_
                     rotate_left
                     focus rfl
                     focus (go_simp; first | (go_at_call 9; refine (refGood_any _ _ ?_).mono ?_; (first | (with_reducible exact s1.out) | (with_reducible exact s2.out)); rintro e w' ⟨rfl, hx⟩; rw [HG1.out]; (refine And.intro ?_ (hwq.ext hx)); rfl) | (go_at_call 10; refine (refTop_any _ _ ?_).mono ?_; (first | (with_reducible exact s1.out) | (with_reducible exact s2.out)); rintro e w' ⟨rfl, hx⟩; (refine And.intro ?_ (hwq.ext hx)); rfl))
                     simp only [Act.put, List.setIfInBounds_toArray, List.set_cons_succ, List.set_cons_zero])
                  | fail)
                refine wpQ_nil ?_
                intro wq hwq
                go_wp2_with (fail)
                go_ret
                exact ⟨rfl, hwq⟩
              · cases g2
                · go_wp2_with (fail)
                  refine wp_region_class (C := fun w' => Ext w w') hx'.drew (by kernel_rfl) (by kernel_rfl) ?_
                  repeat (first
                    | (refine wpQ_skip ?_ ?_
                       focus rfl
                       simp only [Act.put, List.setIfInBounds_toArray, List.set_cons_succ, List.set_cons_zero])
                    | (refine' wpQ_val (u := _) ?_ (fun wq hwq => ?_) ?_
                       rotate_left
                       focus rfl
                       focus (have c1 := HC.out wq hwq; have c2 := HC2.out wq hwq; have c3 := HT.out; go_simp; first | done | rfl)
                       simp only [Act.put, List.setIfInBounds_toArray, List.set_cons_succ, List.set_cons_zero])
                    | (refine' wpQ_call (v := _) ?_ (fun wq hwq => ?_) ?_
                       rotate_left
                       focus rfl
                       focus (go_simp; first | (go_at_call 9; refine (refGood_any _ _ ?_).mono ?_; (first | (with_reducible exact s1.out) | (with_reducible exact s2.out)); rintro e w' ⟨rfl, hx⟩; (first | rw [HG1.out] | rw [HG2.out]); (refine And.intro ?_ (hwq.ext hx)); rfl) | (go_at_call 10; refine (refTop_any _ _ ?_).mono ?_; (first | (with_reducible exact s1.out) | (with_reducible exact s2.out)); rintro e w' ⟨rfl, hx⟩; (refine And.intro ?_ (hwq.ext hx)); rfl))
                       simp only [Act.put, List.setIfInBounds_toArray, List.set_cons_succ, List.set_cons_zero])
                    | fail)
                  refine wpQ_nil ?_
                  intro wq hwq
                  go_wp2_with (fail)
                  go_ret
                  exact ⟨rfl, hwq⟩
                · cases t
                  · go_wp2_with (fail)
                    refine wp_region_class (C := fun w' => Ext w w') hx'.drew (by kernel_rfl) (by kernel_rfl) ?_
                    repeat (first
                      | (refine wpQ_skip ?_ ?_
                         focus rfl
                         simp only [Act.put, List.setIfInBounds_toArray, List.set_cons_succ, List.set_cons_zero])
                      | (refine' wpQ_val (u := _) ?_ (fun wq hwq => ?_) ?_
                         rotate_left
                         focus rfl
                         focus (have c1 := HC.out wq hwq; have c2 := HC2.out wq hwq; have c3 := HT.out; go_simp; first | done | rfl)
                         simp only [Act.put, List.setIfInBounds_toArray, List.set_cons_succ, List.set_cons_zero])
                      | (refine' wpQ_call (v := _) ?_ (fun wq hwq => ?_) ?_
                         rotate_left
                         focus rfl
                         focus (go_simp; first | (go_at_call 9; refine (refGood_any _ _ ?_).mono ?_; (first | (with_reducible exact s1.out) | (with_reducible exact s2.out)); rintro e w' ⟨rfl, hx⟩; (first | rw [HG1.out] | rw [HG2.out]); (refine And.intro ?_ (hwq.ext hx)); rfl) | (go_at_call 10; refine (refTop_any _ _ ?_).mono ?_; (first | (with_reducible exact s1.out) | (with_reducible exact s2.out)); rintro e w' ⟨rfl, hx⟩; (refine And.intro ?_ (hwq.ext hx)); rfl))
                         simp only [Act.put, List.setIfInBounds_toArray, List.set_cons_succ, List.set_cons_zero])
                      | fail)
                    refine wpQ_nil ?_
                    intro wq hwq
                    go_wp2_with (fail)
                    go_light
                    refine ⟨⟨j + 1, by omega, by go_num, ?_, hwq⟩, by simp [intOf]; omega⟩
                    refine take_next hlt2 HIN.out ⟨HG1.out, HG2.out, fun e => ?_⟩
                    have := HT.out
                    rw [e] at this
                    simp at this
                  · go_wp2_with (fail)
                    refine wp_region_class (C := fun w' => Ext w w') hx'.drew (by kernel_rfl) (by kernel_rfl) ?_
                    repeat (first
                      | (refine wpQ_skip ?_ ?_
                         focus rfl
                         simp only [Act.put, List.setIfInBounds_toArray, List.set_cons_succ, List.set_cons_zero])
                      | (refine' wpQ_val (u := _) ?_ (fun wq hwq => ?_) ?_
                         rotate_left
                         focus rfl
                         focus (have c1 := HC.out wq hwq; have c2 := HC2.out wq hwq; have c3 := HT.out; go_simp; first | done | rfl)
                         simp only [Act.put, List.setIfInBounds_toArray, List.set_cons_succ, List.set_cons_zero])
                      | (refine' wpQ_call (v := _) ?_ (fun wq hwq => ?_) ?_
                         rotate_left
                         focus rfl
                         focus (go_simp; first | (go_at_call 9; refine (refGood_any _ _ ?_).mono ?_; (first | (with_reducible exact s1.out) | (with_reducible exact s2.out)); rintro e w' ⟨rfl, hx⟩; (first | rw [HG1.out] | rw [HG2.out]); (refine And.intro ?_ (hwq.ext hx)); rfl) | (go_at_call 10; refine (refTop_any _ _ ?_).mono ?_; (first | (with_reducible exact s1.out) | (with_reducible exact s2.out)); rintro e w' ⟨rfl, hx⟩; (refine And.intro ?_ (hwq.ext hx)); rfl))
                         simp only [Act.put, List.setIfInBounds_toArray, List.set_cons_succ, List.set_cons_zero])
                      | fail)
                    refine wpQ_nil ?_
                    intro wq hwq
                    go_wp2_with (fail)
                    go_ret
                    exact ⟨rfl, hwq⟩
            · have hje : b.length = j := by omega
              go_wp2_with (fail)
              go_light
              refine ⟨⟨n + 1, by omega, by go_num, ?_, hx'⟩, by simp [intOf]; omega⟩
              exact take_next hlt HALL.out (fun y hy => HIN.out y (by rw [← hje, List.take_length]; exact hy))
        · obtain rfl : n = a.length := by omega
          have HFAR := far_law a b (fun x hx y hy => HALL.out x (by rw [List.take_length]; exact hx) y hy)
          have l1 := takeL_len [] 1 a
          have l2 := takeL_len (takeL [] 1 a) 2 b
          have o1 := takeL_who 1 a
          obtain ⟨st1, hst1⟩ : ∃ s, takeL [] 1 a = s := ⟨_, rfl⟩
          obtain ⟨st2, hst2⟩ : ∃ s, takeL st1 2 b = s := ⟨_, rfl⟩
          obtain ⟨x1, hr1⟩ : ∃ s, wrongL [] 1 a = s := ⟨_, rfl⟩
          obtain ⟨x2, hr2⟩ : ∃ s, wrongL st1 2 b = s := ⟨_, rfl⟩
          rw [hst1, hst2] at l2
          rw [hst1] at l1 o1
          rw [hst1, hst2, hr1, hr2] at HFAR
          obtain ⟨hno, r, hr, o2⟩ := HFAR
          have F1 := Lib.hid (show freeL st2 1 = r by rw [hr, free_app, free_all o1, free_none (fun e he => by rw [o2 e he]; decide)]; rfl)
          have F2 := Lib.hid (free_all o2)
          have hl : st1.length + r.length = st2.length := by rw [hr, List.length_append]
          clear o1 o2 hr
          simp only [List.length_nil] at l1
          have hwr : IntKind.i64.wrap ((st2.length : Int) - st1.length) = r.length := (IntWalk.i64_in _ (by omega)).trans (by omega)
          have HL := Lib.hid hl
          have B1 : Hid (st2.length ≤ 1000000) := by have : st2.length ≤ 1000000 := by omega
                                                     exact this
          have B2 : Hid (r.length ≤ 1000000) := by have : r.length ≤ 1000000 := by omega
                                                   exact this
          have HNO : Hid ((x1 = none ∧ x2 = none) ∨ a.length = 0 ∨ (b.length = 0 ∧ a.length ≠ 0)) := by
            have : (x1 = none ∧ x2 = none) ∨ a.length = 0 ∨ (b.length = 0 ∧ a.length ≠ 0) := by
              by_cases ha : a = []
              · exact .inr (.inl (by rw [ha]; rfl))
              · by_cases hb : b = []
                · exact .inr (.inr ⟨by rw [hb]; rfl, fun e => ha (List.length_eq_zero_iff.1 e)⟩)
                · exact .inl (hno ha hb)
            exact this
          clear hl l1 l2 hno
          go_wp2_with (fail)
          refine (lockNew_any wr).mono ?_
          rintro e w2 ⟨bl, m, rfl, h2, hb, hm, hx2⟩
          have s2 : LS w w2 bl m [] := LS.start hG h2 (by have := hx.size; omega) (hx.ext hx2)
          clear h2 hb hm hx hx2
          go_wp2_with (fail)
          refine (LS.take hG s2 1 _ a HSTA.out HSA.out x1 st1 hr1 hst1).mono ?_
          rintro e w3 ⟨rfl, s3⟩
          go_wp2_with (fail)
          refine (lockLen_any bl m _ w3 s3.here).mono ?_
          rintro e w4 ⟨rfl, rfl⟩
          go_wp2_with (fail)
          refine (LS.take hG s3 2 _ b HSTB.out HSB.out x2 st2 hr2 hst2).mono ?_
          rintro e w5 ⟨rfl, s5⟩
          go_wp2_with (fail)
          refine (lockLen_any bl m _ w5 s5.here).mono ?_
          rintro e w6 ⟨rfl, rfl⟩
          clear s2 s3 hr1 hr2 hst1 hst2
          rcases HNO.out with ⟨rfl, rfl⟩ | h0 | ⟨h0, ha0⟩
          · go_wp2_with (fail)
            refine (LS.free hG s5 1 B1.out st1.length r F1.out HL.out).mono ?_
            rintro e w7 ⟨rfl, s7⟩
            go_wp2_with (fail)
            refine (LS.free hG s7 2 B2.out r.length [] F2.out rfl).mono ?_
            rintro e w8 ⟨rfl, s8⟩
            go_wp2_with (fail)
            refine (lockLen_any bl m [] w8 s8.here).mono ?_
            rintro e w9 ⟨rfl, rfl⟩
            go_wp2_with (fail)
            go_ret
            exact ⟨rfl, s8.ext⟩
          · clear HNO
            have hz : ((a.length : Int) == 0) = true := by rw [h0]; rfl
            cases x1 <;> cases x2
            · go_wp2_with (fail)
              refine (LS.free hG s5 1 B1.out st1.length r F1.out HL.out).mono ?_
              rintro e w7 ⟨rfl, s7⟩
              go_wp2_with (fail)
              refine (LS.free hG s7 2 B2.out r.length [] F2.out rfl).mono ?_
              rintro e w8 ⟨rfl, s8⟩
              go_wp2_with (fail)
              refine (lockLen_any bl m [] w8 s8.here).mono ?_
              rintro e w9 ⟨rfl, rfl⟩
              go_wp2_with (fail)
              go_ret
              exact ⟨rfl, s8.ext⟩
            · go_wp2_with (fail)
              refine (LS.free hG s5 1 B1.out st1.length r F1.out HL.out).mono ?_
              rintro e w7 ⟨rfl, s7⟩
              go_wp2_with (fail)
              refine (LS.free hG s7 2 B2.out r.length [] F2.out rfl).mono ?_
              rintro e w8 ⟨rfl, s8⟩
              go_wp2_with (fail)
              refine (lockLen_any bl m [] w8 s8.here).mono ?_
              rintro e w9 ⟨rfl, rfl⟩
              go_wp2_with (fail)
              go_ret
              exact ⟨rfl, s8.ext⟩
            · go_wp2_with (fail)
              refine (LS.free hG s5 1 B1.out st1.length r F1.out HL.out).mono ?_
              rintro e w7 ⟨rfl, s7⟩
              go_wp2_with (fail)
              refine (LS.free hG s7 2 B2.out r.length [] F2.out rfl).mono ?_
              rintro e w8 ⟨rfl, s8⟩
              go_wp2_with (fail)
              refine (lockLen_any bl m [] w8 s8.here).mono ?_
              rintro e w9 ⟨rfl, rfl⟩
              go_wp2_with (fail)
              go_ret
              exact ⟨rfl, s8.ext⟩
            · go_wp2_with (fail)
              refine (LS.free hG s5 1 B1.out st1.length r F1.out HL.out).mono ?_
              rintro e w7 ⟨rfl, s7⟩
              go_wp2_with (fail)
              refine (LS.free hG s7 2 B2.out r.length [] F2.out rfl).mono ?_
              rintro e w8 ⟨rfl, s8⟩
              go_wp2_with (fail)
              refine (lockLen_any bl m [] w8 s8.here).mono ?_
              rintro e w9 ⟨rfl, rfl⟩
              go_wp2_with (fail)
              go_ret
              exact ⟨rfl, s8.ext⟩
          · clear HNO
            have hza : ((a.length : Int) == 0) = false := by simpa using ha0
            have hz : ((b.length : Int) == 0) = true := by rw [h0]; rfl
            cases x1 <;> cases x2
            · go_wp2_with (fail)
              refine (LS.free hG s5 1 B1.out st1.length r F1.out HL.out).mono ?_
              rintro e w7 ⟨rfl, s7⟩
              go_wp2_with (fail)
              refine (LS.free hG s7 2 B2.out r.length [] F2.out rfl).mono ?_
              rintro e w8 ⟨rfl, s8⟩
              go_wp2_with (fail)
              refine (lockLen_any bl m [] w8 s8.here).mono ?_
              rintro e w9 ⟨rfl, rfl⟩
              go_wp2_with (fail)
              go_ret
              exact ⟨rfl, s8.ext⟩
            · go_wp2_with (fail)
              refine (LS.free hG s5 1 B1.out st1.length r F1.out HL.out).mono ?_
              rintro e w7 ⟨rfl, s7⟩
              go_wp2_with (fail)
              refine (LS.free hG s7 2 B2.out r.length [] F2.out rfl).mono ?_
              rintro e w8 ⟨rfl, s8⟩
              go_wp2_with (fail)
              refine (lockLen_any bl m [] w8 s8.here).mono ?_
              rintro e w9 ⟨rfl, rfl⟩
              go_wp2_with (fail)
              go_ret
              exact ⟨rfl, s8.ext⟩
            · go_wp2_with (fail)
              refine (LS.free hG s5 1 B1.out st1.length r F1.out HL.out).mono ?_
              rintro e w7 ⟨rfl, s7⟩
              go_wp2_with (fail)
              refine (LS.free hG s7 2 B2.out r.length [] F2.out rfl).mono ?_
              rintro e w8 ⟨rfl, s8⟩
              go_wp2_with (fail)
              refine (lockLen_any bl m [] w8 s8.here).mono ?_
              rintro e w9 ⟨rfl, rfl⟩
              go_wp2_with (fail)
              go_ret
              exact ⟨rfl, s8.ext⟩
            · go_wp2_with (fail)
              refine (LS.free hG s5 1 B1.out st1.length r F1.out HL.out).mono ?_
              rintro e w7 ⟨rfl, s7⟩
              go_wp2_with (fail)
              refine (LS.free hG s7 2 B2.out r.length [] F2.out rfl).mono ?_
              rintro e w8 ⟨rfl, s8⟩
              go_wp2_with (fail)
              refine (lockLen_any bl m [] w8 s8.here).mono ?_
              rintro e w9 ⟨rfl, rfl⟩
              go_wp2_with (fail)
              go_ret
              exact ⟨rfl, s8.ext⟩
    · go_enter Tryd.func3, Tryd.ntmps3
      go_wp2_with (fail)
      refine (awake_any w hG).mono ?_
      rintro e w1 ⟨rfl, hx1⟩
      go_wp2_with (fail)
      go_ret
      exact ⟨rfl, hx1⟩
  · go_enter Tryd.func3, Tryd.ntmps3
    go_wp2_with (fail)
    refine (awake_any w hG).mono ?_
    rintro e w1 ⟨rfl, hx1⟩
    go_wp2_with (fail)
    go_ret
    exact ⟨rfl, hx1⟩
end Go.Proofs.YtdaoamnemkiloaaDoor
