/- Walks of the reference's locks: Take. -/
import Derived.Test.YtdaoamnemkiloaaDoorAvWLockS
namespace Go.Proofs.YtdaoamnemkiloaaDoor
set_option maxRecDepth 100000
open Go.RowKit Av

def RGoodRel (w : World) (ps : List ByteArray) (i : Value) (wr : World) : Prop := ∃ k : Nat, k ≤ ps.length ∧ i = .int .i64 k ∧ Ext w wr ∧ ∀ p ∈ ps.take k, (!goodB p) = false
def RBlksRel (w : World) (st : St) (who : Int) (ps : List ByteArray) (i : Value) (wr : World) : Prop := ∃ k : Nat, k ≤ ps.length ∧ i = .int .i64 k ∧ Ext w wr ∧ ∀ p ∈ ps.take k, blocksL st who p = false
def RTakeRel (w : World) (b : Nat) (st : St) (who : Int) (ps : List ByteArray) (i : Value) (wr : World) : Prop := ∃ k : Nat, k ≤ ps.length ∧ i = .int .i64 k ∧ RL wr b (takeAll st who (ps.take k)) ∧ Kp (fun i => i = b) w wr
theorem all_take {α : Type} {f : α → Bool} {xs : List α} {k : Nat} (h : ∀ x ∈ xs.take k, f x = false) (hk : k < xs.length) (hf : f xs[k] = false) : ∀ x ∈ xs.take (k + 1), f x = false := by
  intro x hx
  rw [List.take_succ_eq_append_getElem hk] at hx
  rcases List.mem_append.1 hx with hx | hx
  · exact h x hx
  · simp only [List.mem_singleton] at hx; subst hx; exact hf
theorem takeAll_snocT (st : St) (who : Int) {ps : List ByteArray} {k : Nat} (hk : k < ps.length) : takeAll st who (ps.take (k + 1)) = mset (takeAll st who (ps.take k)) ps[k] who := by
  unfold takeAll
  rw [List.take_succ_eq_append_getElem hk, List.foldl_append]
  rfl
theorem wrong_good1 {st : St} {who : Int} {ps : List ByteArray} {p : ByteArray} (h : ps.find? (fun p => !goodB p) = some p) : wrongL st who ps = some p := by unfold wrongL; rw [h]
theorem wrong_good2 {st : St} {who : Int} {ps : List ByteArray} (h : ps.find? (fun p => !goodB p) = none) : wrongL st who ps = ps.find? fun p => blocksL st who p := by unfold wrongL; rw [h]
/-- Who holds a path on the way is who took it, or took it before. -/
theorem held_who {st : St} {who : Int} {ps : List ByteArray} {p : ByteArray} (hg : goodB p = true) (hb : blocksL st who p = false) {x : Int} (hx : mget (takeAll st who ps) p = some x) : x = who := by
  rcases mem_takeAll who ps st _ (mget_mem hx) with h | ⟨h, _⟩
  · have := blk_false hg hb _ h
    unfold blk at this
    by_cases e : x = who
    · exact e
    · simp [e] at this
  · exact h
theorem isNone_mset {s : St} {p : ByteArray} {who : Int} (h : (mget s p).isSome = false) : mset s p who = s ++ [(p, who)] := mset_new (by cases hm : mget s p with | none => rfl | some x => rw [hm] at h; cases h)

set_option maxHeartbeats 3200000 in
theorem rlTake_any (b : Nat) (st : St) (who : Int) (v : Value) (ps : List ByteArray) (w : World) (h : RL w b st) (hgs : ∀ e ∈ st, goodB e.1 = true) (hs : Strs w v ps) (hps : ∀ p ∈ ps, p.size ≤ maxLen) (hd : ps ≠ [] → ∀ x, v.ownBlock = some x → x ≠ b) (hn : st.length + ps.length ≤ 1000000) :
    Calls Tryd.prog 17 #[.pointer (some ⟨b, 0, none⟩), .int .i64 who, v] w fun e w' =>
      e = .returned (.tuple #[.string ((wrongL st who ps).getD ⟨#[]⟩), .bool (!(wrongL st who ps).isSome)]) ∧ RL w' b (takeL st who ps) ∧ Kp (fun i => i = b) w w' := by
  obtain ⟨a, c, rfl, hcc, hm, hop⟩ := Strs.open hs
  unfold maxLen at hm
  have HL := Lib.hid h
  have HGS := Lib.hid hgs
  have HOP := Lib.hid hop
  have HPS := Lib.hid hps
  have HD := Lib.hid hd
  have hbl : b < w.heap.size := by obtain ⟨v, h1, _⟩ := h; exact h1.lt
  clear h hgs hs hop hps hd
  go_enter Tryd.func17, Tryd.ntmps17
  go_wp2_with (fail)
  go_loopw [8] (fun i wr => RGoodRel w ps i wr) (fun i _ => ps.length - (intOf i).toNat)
  case atStart => exact ⟨0, Nat.zero_le _, rfl, Kp.refl _ _, by simp⟩
  case round =>
    obtain ⟨k, hk, rfl, hxr, hall⟩ := hrel
    have HA := Lib.hid hall
    have HXR := Lib.hid hxr
    clear hall hxr
    by_cases hlt : k < ps.length
    · obtain ⟨g, off, rfl, hg, hcl⟩ := HOP.out (by omega)
      have s0 := HXR.out.cell (hcl k hlt) (fun f => f)
      have HCON := Lib.hid (refGood_any ps[k] wr (HPS.out _ (List.getElem_mem hlt)))
      clear hcl
      cases hgd : goodL ps[k].data.toList with
      | true =>
        rw [hgd] at HCON
        have HGB : Hid ((!goodB ps[k]) = false) := by show (!goodL ps[k].data.toList) = false; rw [hgd]; rfl
        clear hgd
        go_wp2_with (fail)
        refine HCON.out.mono ?_
        rintro e w1 ⟨rfl, hx1⟩
        have HX := Lib.hid (HXR.out.ext hx1)
        clear hx1
        go_wp2_with (fail)
        go_light
        exact ⟨⟨k + 1, by omega, by go_num, HX.out, all_take HA.out hlt HGB.out⟩, by simp [intOf]; omega⟩
      | false =>
        rw [hgd] at HCON
        have HW := Lib.hid (wrong_good1 (st := st) (who := who) (find_at (fun p => !goodB p) ps k hlt HA.out (by show (!goodL ps[k].data.toList) = true; rw [hgd]; rfl)))
        clear hgd
        go_wp2_with (fail)
        refine HCON.out.mono ?_
        rintro e w1 ⟨rfl, hx1⟩
        have s1 := hx1.cell s0 (fun f => f)
        have HX := Lib.hid (HXR.out.ext hx1)
        clear hx1 s0
        go_wp2_with (fail)
        go_ret2
        go_light
        refine ⟨by rw [HW.out]; rfl, ?_, Ext.kp HX.out⟩
        rw [show takeL st who ps = st by simp [takeL, HW.out]]
        exact HL.out.ext HX.out
    · have hall2 : ∀ p ∈ ps, (!goodB p) = false := by have := HA.out; rwa [List.take_of_length_le (by omega)] at this
      have HG1 := Lib.hid hall2
      have HW1 := Lib.hid (wrong_good2 (st := st) (who := who) (find_no _ _ hall2))
      clear HA hall2
      go_wp2_with (fail)
      clear hlt hk
      obtain ⟨wo, rfl⟩ : ∃ wo : World, wo = wr := ⟨_, rfl⟩
      go_loopw [9] (fun i wr => RBlksRel w st who ps i wr) (fun i _ => ps.length - (intOf i).toNat)
      case atStart => exact ⟨0, Nat.zero_le _, rfl, HXR.out, by simp⟩
      case round =>
        clear HXR
        obtain ⟨j, hj, rfl, hxr, hall⟩ := hrel
        have HA := Lib.hid hall
        have HXR := Lib.hid hxr
        clear hall hxr
        by_cases hlt : j < ps.length
        · obtain ⟨g, off, rfl, hg, hcl⟩ := HOP.out (by omega)
          have s0 := HXR.out.cell (hcl j hlt) (fun f => f)
          have HCON := Lib.hid (rlBlocks_any b st who ps[j] wr (HL.out.ext HXR.out) HGS.out (HPS.out _ (List.getElem_mem hlt)))
          clear hcl
          cases hbd : blocksL st who ps[j] with
          | false =>
            rw [hbd] at HCON
            have HBD := Lib.hid hbd
            clear hbd
            go_wp2_with (fail)
            refine HCON.out.mono ?_
            rintro e w1 ⟨rfl, hx1⟩
            have HX := Lib.hid (HXR.out.ext hx1)
            clear hx1
            go_wp2_with (fail)
            go_light
            exact ⟨⟨j + 1, by omega, by go_num, HX.out, all_take HA.out hlt HBD.out⟩, by simp [intOf]; omega⟩
          | true =>
            rw [hbd] at HCON
            have HW : Hid (wrongL st who ps = some ps[j]) := by show _ = _; rw [HW1.out]; exact find_at (blocksL st who) ps j hlt HA.out hbd
            clear hbd
            go_wp2_with (fail)
            refine HCON.out.mono ?_
            rintro e w1 ⟨rfl, hx1⟩
            have s1 := hx1.cell s0 (fun f => f)
            have HX := Lib.hid (HXR.out.ext hx1)
            clear hx1 s0
            go_wp2_with (fail)
            go_ret2
            go_light
            refine ⟨by rw [HW.out]; rfl, ?_, Ext.kp HX.out⟩
            rw [show takeL st who ps = st by simp [takeL, HW.out]]
            exact HL.out.ext HX.out
        · have hall2 : ∀ p ∈ ps, blocksL st who p = false := by have := HA.out; rwa [List.take_of_length_le (by omega)] at this
          have HB1 := Lib.hid hall2
          have HW : Hid (wrongL st who ps = none) := by show _ = _; rw [HW1.out]; exact find_no _ _ hall2
          clear HA hall2 HW1
          go_wp2_with (fail)
          clear hlt hj
          obtain ⟨wp, rfl⟩ : ∃ wo : World, wo = wr := ⟨_, rfl⟩
          go_loopw [10] (fun i wr => RTakeRel w b st who ps i wr) (fun i _ => ps.length - (intOf i).toNat)
          case atStart => exact ⟨0, Nat.zero_le _, rfl, HL.out.ext HXR.out, Ext.kp HXR.out⟩
          case round =>
            clear HXR
            obtain ⟨j, hj, rfl, hrl, hkr⟩ := hrel
            have HRL := Lib.hid hrl
            have HKR := Lib.hid hkr
            clear hrl hkr
            by_cases hlt : j < ps.length
            · obtain ⟨g, off, rfl, hg, hcl⟩ := HOP.out (by omega)
              have hgb : g ≠ b := HD.out (by intro e; rw [e] at hlt; simp at hlt) g rfl
              have s0 := HKR.out.cell (hcl j hlt) hgb
              have hgood := HG1.out ps[j] (List.getElem_mem hlt)
              have hblk := HB1.out ps[j] (List.getElem_mem hlt)
              have HSN := Lib.hid (takeAll_snocT st who hlt)
              have hlen := takeAll_len who (ps.take j) st
              rw [List.length_take] at hlen
              have HHW := Lib.hid (fun x => held_who (st := st) (ps := ps.take j) (x := x) (by simpa using hgood) hblk)
              obtain ⟨p, hp⟩ : ∃ p, ps[j] = p := ⟨_, rfl⟩
              rw [hp] at s0 HSN HHW
              obtain ⟨s, hs⟩ : ∃ s, takeAll st who (ps.take j) = s := ⟨_, rfl⟩
              rw [hs] at HRL HSN HHW hlen
              have HCON := Lib.hid (rlHeld_any b s p wr HRL.out)
              have HLE : Hid (s.length ≤ 1000000) := by show _ ≤ _; omega
              clear hcl hgood hblk hp hs hlen
              cases hms : (mget s p).isSome with
              | true =>
                obtain ⟨x, hx⟩ := Option.isSome_iff_exists.1 hms
                have HE : Hid (takeAll st who (ps.take (j + 1)) = s) := by show _ = _; rw [HSN.out]; have := HHW.out x hx; subst this; exact mset_same hx
                rw [hms] at HCON
                clear hms hx
                go_wp2_with (fail)
                refine HCON.out.mono ?_
                rintro e w1 ⟨rfl, rfl⟩
                go_wp2_with (fail)
                go_light
                exact ⟨⟨j + 1, by omega, by go_num, by rw [HE.out]; exact HRL.out, HKR.out⟩, by simp [intOf]; omega⟩
              | false =>
                have HE : Hid (takeAll st who (ps.take (j + 1)) = s ++ [(p, who)]) := by show _ = _; rw [HSN.out]; exact isNone_mset hms
                rw [hms] at HCON
                clear hms
                go_wp2_with (fail)
                refine HCON.out.mono ?_
                rintro e w1 ⟨rfl, rfl⟩
                obtain ⟨a2, c2, ⟨hb2, hsh2, hsl2⟩, hc2, hm2, hop2⟩ := HRL.out.open
                have HC0 := Lib.hid (hb2.cell 0 _ rfl)
                have HS0 := Lib.hid s0
                have HB2 := Lib.hid hb2
                have HSL2 := Lib.hid hsl2
                have HSH2 := Lib.hid hsh2
                have hbw : b < wr.heap.size := hb2.lt
                have hgw : g < wr.heap.size := World.block_lt_of_cell? _ _ s0
                have HH1 := Lib.hid (held_one s)
                have HH2 := Lib.hid (held_one [(p, who)])
                clear hb2 s0 hop2 hsl2 hsh2
                go_upto_region 16 with (fail)
                refine' wp_region_dagK 15 [(69, [64], [77]), (77, [69, 76], [64])] ((63, .val _) :: (64, ⟨fun _ => True, fun v w => Fresh0 wr.heap.size 53 2 v w⟩) :: (65, .val _) :: (66, .val _) :: (67, .val _) :: (68, .val _) :: (69, ⟨fun _ => True, fun v w => w.ownsRow wr.heap.size 53 2 v s.length (s.flatMap hcell)⟩) :: (70, .val _) :: (71, .val _) :: (72, .val _) :: (73, .val _) :: (74, .val _) :: (75, .val _) :: (76, ⟨fun _ => True, fun v w => BoxL wr.heap.size 53 1 [.string p, .int .i64 who] v w⟩) :: (77, ⟨fun v => ∃ a l c, v = .slice a l c, fun v w => w.ownsRow wr.heap.size 53 2 v (s ++ [(p, who)]).length ((s ++ [(p, who)]).flatMap hcell)⟩) :: []) (by exact ⟨fun _ _ _ _ _ => trivial, ⟨fun _ _ _ hr hv => hv.ext hr, ⟨fun _ _ _ _ _ => trivial, ⟨fun _ _ _ _ _ => trivial, ⟨fun _ _ _ _ _ => trivial, ⟨fun _ _ _ _ _ => trivial, ⟨fun _ _ _ hr hv => ownsRow.ext hv hr, ⟨fun _ _ _ _ _ => trivial, ⟨fun _ _ _ _ _ => trivial, ⟨fun _ _ _ _ _ => trivial, ⟨fun _ _ _ _ _ => trivial, ⟨fun _ _ _ _ _ => trivial, ⟨fun _ _ _ _ _ => trivial, ⟨fun _ _ _ hr hv => hv.ext hr, ⟨fun _ _ _ hr hv => ownsRow.ext hv hr, trivial⟩⟩⟩⟩⟩⟩⟩⟩⟩⟩⟩⟩⟩⟩⟩) (by kernel_rfl) (by kernel_rfl) (by kernel_rfl) ?_
                rotate_left 11
                simp only [List.take_succ_cons, List.take_zero]
                repeat (first
                  | (refine wpD_skipv ?_ ?_ ?_
                     focus rfl
                     focus rfl
                     simp only [Act.put, List.setIfInBounds_toArray, List.set_cons_succ, List.set_cons_zero])
                  | (refine' wpD_val (c := _) ?_ (fun w => Kp.refl _ w) ?_ (fun wq hwq hfq => ?_) ?_
                     rotate_left
                     focus rfl
                     focus rfl
                     focus (have c0 := hwq.cell HC0.out (Nat.not_le.2 hbw); have s0 := hwq.cell HS0.out (Nat.not_le.2 hgw); go_simp; first | done | rfl)
                     simp only [Act.put, List.setIfInBounds_toArray, List.set_cons_succ, List.set_cons_zero])
                  | (refine' wpD_con (c := _) ?_ ?_ (fun wq hwq hfq => ?_) ?_
                     rotate_left
                     focus rfl
                     focus rfl
                     focus (have c0 := hwq.cell HC0.out (Nat.not_le.2 hbw); have s0 := hwq.cell HS0.out (Nat.not_le.2 hgw); go_simp; (try (rw [dUpon_enter])); fail)
                     simp only [Act.put, List.setIfInBounds_toArray, List.set_cons_succ, List.set_cons_zero])
                  | (refine wpD_made (A := fun _ => True) (V := fun v w => Fresh0 wr.heap.size 53 2 v w) 64 ?_ ?_ ?_ ?_ (fun wq hwq hfq => ?_) (fun v64 h64 => ?_)
                     focus rfl
                     focus rfl
                     focus (exact ⟨undef, trivial⟩)
                     focus rfl
                     focus (have c0 := hwq.cell HC0.out (Nat.not_le.2 hbw); have s0 := hwq.cell HS0.out (Nat.not_le.2 hgw); go_simp; (try (rw [dUpon_enter])); rw [dUpon_value]; exact mPost trivial (Fresh0.new hwq.size) ((Kp.refl _ _).alloc _))
                     clear h64
                     simp only [Act.put, List.setIfInBounds_toArray, List.set_cons_succ, List.set_cons_zero])
                  | (refine wpD_made (A := fun _ => True) (V := fun v w => BoxL wr.heap.size 53 1 [.string p, .int .i64 who] v w) 76 ?_ ?_ ?_ ?_ (fun wq hwq hfq => ?_) (fun v76 h76 => ?_)
                     focus rfl
                     focus rfl
                     focus (exact ⟨undef, trivial⟩)
                     focus rfl
                     focus (have c0 := hwq.cell HC0.out (Nat.not_le.2 hbw); have s0 := hwq.cell HS0.out (Nat.not_le.2 hgw); go_simp; (try (rw [dUpon_enter])); rw [dUpon_value]; exact mPost trivial (BoxL.new hwq.size) ((Kp.refl _ _).alloc _))
                     clear h76
                     simp only [Act.put, List.setIfInBounds_toArray, List.set_cons_succ, List.set_cons_zero])
                  | (refine wpD_used (A := fun _ => True) (V := fun v w => w.ownsRow wr.heap.size 53 2 v s.length (s.flatMap hcell)) 69 ?_ ?_ ?_ ?_ (fun wq hwq hfq => ?_) (fun v69 h69 => ?_)
                     focus rfl
                     focus rfl
                     focus (exact ⟨undef, trivial⟩)
                     focus rfl
                     focus (have c0 := hwq.cell HC0.out (Nat.not_le.2 hbw); have s0 := hwq.cell HS0.out (Nat.not_le.2 hgw); refine dUpon_app (d := 69) rfl (by kernel_rfl) 38 53 2 (by decide) held_facts rfl _ _ rfl wr.heap.size v64 0 [] rfl (hfq 64 rfl).1 (.slice a2 s.length c2) s.length (s.flatMap hcell) rfl (Sl.kp HSL2.out hwq (fun i _ hi hge => absurd hi (Nat.not_lt.2 hge))) HSH2.out HH1.out (by have := HLE.out; omega) hwq.size (fun v' w' h1 h2 => ⟨trivial, by simpa using h1, h2.over (owns_base (hfq 64 rfl).1), ?_⟩); repeat (first | exact PresL.nil | (with_reducible refine PresL.val ?_) | (refine PresL.out rfl ?_) | (refine PresL.keep (fun u hu => BoxL.kp0 hu (by simp) (hfq 64 rfl) h2) ?_)))
                     clear h69
                     simp only [Act.put, List.setIfInBounds_toArray, List.set_cons_succ, List.set_cons_zero])
                  | (refine wpD_used (A := fun v => ∃ a l c, v = .slice a l c) (V := fun v w => w.ownsRow wr.heap.size 53 2 v (s ++ [(p, who)]).length ((s ++ [(p, who)]).flatMap hcell)) 77 ?_ ?_ ?_ ?_ (fun wq hwq hfq => ?_) (fun v77 h77 => ?_)
                     focus rfl
                     focus rfl
                     focus (exact ⟨.slice none 0 0, _, _, _, rfl⟩)
                     focus rfl
                     focus (have c0 := hwq.cell HC0.out (Nat.not_le.2 hbw); have s0 := hwq.cell HS0.out (Nat.not_le.2 hgw); refine dUpon_app (d := 77) rfl (by kernel_rfl) 38 53 2 (by decide) held_facts rfl _ _ rfl wr.heap.size v69 s.length (s.flatMap hcell) rfl (hfq 69 rfl) v76 1 [.string p, .int .i64 who] rfl (BoxL.sl (k := 2) (hfq 76 rfl) rfl (by decide)).1 (BoxL.sl (k := 2) (hfq 76 rfl) rfl (by decide)).2 HH2.out (by have := HLE.out; omega) hwq.size (fun v' w' h1 h2 => ⟨by obtain ⟨a, c, e, _⟩ := Sl.open (Sl.of_owns h1); exact ⟨_, _, _, e⟩, by rw [List.length_append, flatMap_snoc]; exact h1, h2.over (owns_base (hfq 69 rfl)), ?_⟩); repeat (first | exact PresL.nil | (with_reducible refine PresL.val ?_) | (refine PresL.out rfl ?_) | (refine PresL.keep (fun u hu => hu) ?_)))
                     obtain ⟨a77, l77, c77, rfl⟩ := h77
                     simp only [Act.put, List.setIfInBounds_toArray, List.set_cons_succ, List.set_cons_zero])
                  | fail)
                refine wpD_nil ?_
                intro w1 hx1 hend
                have ho : w1.ownsRow wr.heap.size 53 2 (.slice a77 l77 c77) (s ++ [(p, who)]).length ((s ++ [(p, who)]).flatMap hcell) := hend 77 (by kernel_rfl)
                have hb1 : Blk w1 b #[.slice a2 s.length c2] rlT := HB2.out.kp hx1 (Nat.not_le.2 hbw)
                have c0 := hb1.cell 0 _ rfl
                have f0 := hb1.free 0
                have HS := Lib.hid (RL.set (st' := s ++ [(p, who)]) hb1 rfl (Sl.of_owns ho) (shp_owns ho) (fun i hi e => by have := owns_base ho i hi; omega))
                have HK1 : Hid (Kp (fun i => i = b) w w1) := HKR.out.next hx1 (fun i hi hge => by have := HKR.out.size; omega)
                clear hend ho hb1 hx1
                go_wp2_with (fail)
                go_light
                exact ⟨⟨j + 1, by omega, by go_num, by rw [HE.out]; exact HS.out, Kp.set1 HK1.out b 0 _ rfl⟩, by simp [intOf]; omega⟩
            · obtain rfl : j = ps.length := by omega
              rw [List.take_length] at HRL
              go_wp2_with (fail)
              go_ret2
              go_light
              refine ⟨by rw [HW.out]; rfl, ?_, HKR.out⟩
              rw [show takeL st who ps = takeAll st who ps by simp [takeL, HW.out]]
              exact HRL.out
end Go.Proofs.YtdaoamnemkiloaaDoor
