/- Walks of the reference: Tops. -/
import Derived.Test.YtlcbllgmnbhphaaGreatDoorAvWTops
namespace Go.Proofs.YtlcbllgmnbhphaaGreatDoor
set_option maxRecDepth 100000
open Go.RowKit Av

theorem less_topsOf (x y : Bs) : Op.bytesLess x y = decide (x < y) := by
  induction x generalizing y with
  | nil => cases y <;> simp [Op.bytesLess]
  | cons a x ih =>
    cases y with
    | nil => simp [Op.bytesLess]
    | cons b y =>
      rw [Op.bytesLess, ih, Bool.eq_iff_iff]
      simp [List.cons_lt_cons_iff]
theorem NmR.kp {S : Nat → Prop} {w w' : World} {v : Value} {l : List Bs} (h : NmR w v l) (k : Kp S w w') (hs : ∀ b, v.ownBlock = some b → b < w.heap.size → ¬ S b) : NmR w' v l := ⟨h.1.kp k hs, h.2⟩
def topsTo (xs : List OpV) (k : Nat) : List Bs := topsOf ((xs.take k).map fun o => topL o.path.data.toList)
theorem topsTo_succ {xs : List OpV} {k : Nat} (hk : k < xs.length) : topsTo xs (k + 1) = topIns (topsTo xs k) (topL xs[k].path.data.toList) := by
  unfold topsTo topsOf
  rw [List.take_succ_eq_append_getElem hk, List.map_append, List.foldl_append]
  rfl
theorem topsTo_len (xs : List OpV) : ∀ k, (topsTo xs k).length ≤ k
  | 0 => by simp [topsTo, topsOf]
  | k + 1 => by
    by_cases hk : k < xs.length
    · rw [topsTo_succ hk]
      have := topsTo_len xs k
      unfold topIns
      split
      · omega
      · split
        · omega
        · simp only [List.length_append, List.length_take, List.length_cons, List.length_drop]
          omega
    · have := topsTo_len xs k
      have e : topsTo xs (k + 1) = topsTo xs k := by unfold topsTo; rw [List.take_of_length_le (by omega), List.take_of_length_le (by omega)]
      rw [e]; omega
def RTopsRel (w : World) (xs : List OpV) (v i : Value) (wr : World) : Prop := ∃ k : Nat, k ≤ xs.length ∧ i = .int .i64 k ∧ NmR wr v (topsTo xs k) ∧ Ext w wr
def LessRel (t : List Bs) (s : Bs) (i : Value) : Prop := ∃ j : Nat, j ≤ t.length ∧ i = .int .i64 j ∧ ∀ x ∈ t.take j, x < s

set_option maxRecDepth 100000 in
set_option maxHeartbeats 3200000 in
theorem refTops_any (v : Value) (xs : List OpV) (w : World) (h : OpsAt w v xs) (hsz : OpsSz xs) (hn : xs.length ≤ 1000000) :
    Calls Tryz.prog 19 #[v] w fun e w' => ∃ v, e = .returned v ∧ NmR w' v (topsOf (xs.map fun o => topL o.path.data.toList)) ∧ Ext w w' := by
  obtain ⟨a, c, rfl, hcc, hm, hop⟩ := OpsAt.open h
  unfold maxLen at hm
  have HOP := Lib.hid hop
  have HSZ := Lib.hid hsz
  clear h hop hsz
  go_enter Tryz.func19, Tryz.ntmps19
  go_wp2_with (fail)
  go_loopw [3, 4] (fun v i wr => RTopsRel w xs v i wr) (fun _ i _ => xs.length - (intOf i).toNat)
  case atStart => exact ⟨0, Nat.zero_le _, rfl, ⟨Sl.nil _ _, .inl rfl⟩, Kp.refl _ _⟩
  case round =>
    obtain ⟨k, hk, rfl, hnm, hxr⟩ := hrel
    have HXR := Lib.hid hxr
    have HNM := Lib.hid hnm
    obtain ⟨a3, c3, rfl, hc3, hm3, hop3⟩ := NmR.open hnm
    have htl := topsTo_len xs k
    clear hxr hnm
    by_cases hlt : k < xs.length
    · obtain ⟨b, off, rfl, hb, hc⟩ := HOP.out (by omega)
      obtain ⟨_, c1, _⟩ := hc k hlt
      have d1 := HXR.out.cell c1 (fun f => f)
      have HSN := Lib.hid (topsTo_succ hlt)
      have hps := (HSZ.out _ (List.getElem_mem hlt)).1
      obtain ⟨⟨kk, p, dd, vv, ff⟩, hx⟩ : ∃ o, xs[k] = o := ⟨_, rfl⟩
      rw [hx] at d1 HSN hps
      simp only at d1 hps HSN
      obtain ⟨t, ht⟩ : ∃ t, topsTo xs k = t := ⟨_, rfl⟩
      rw [ht] at HSN HNM hc3 hm3 hop3 htl
      rw [ht]
      have HOP3 := Lib.hid hop3
      have HCON := Lib.hid (refTop_any p wr hps)
      obtain ⟨T, hT⟩ : ∃ T, topL p.data.toList = T := ⟨_, rfl⟩
      rw [hT] at HCON HSN
      unfold maxLen at hm3
      clear c1 hc hx hps hT ht hop3
      go_wp2_with (fail)
      refine HCON.out.mono ?_
      rintro e w1 ⟨rfl, hx1⟩
      have HX1 := Lib.hid (HXR.out.ext hx1)
      have HN1 := Lib.hid (HNM.out.ext hx1)
      have HC1 : Hid (0 < t.length → ∃ b off, a3 = some ⟨b, off, none⟩ ∧ b < w1.heap.size ∧ ∀ i (hi : i < t.length), w1.cell? ⟨b, off + i, none⟩ = some (.string ⟨t[i].toArray⟩)) := by
        obtain ⟨a', c', e, _, _, h3⟩ := NmR.open HN1.out
        simp only [Value.slice.injEq, true_and] at e
        obtain ⟨rfl, rfl⟩ := e
        exact h3
      clear hx1 HCON HXR HNM HOP3
      go_wp2_with (fail)
      go_loop [6] (fun i => LessRel t T i) (fun i => t.length - (intOf i).toNat)
      case atStart => exact ⟨0, Nat.zero_le _, rfl, by simp⟩
      case round =>
        obtain ⟨j, hj, rfl, hall⟩ := hrel
        have HA := Lib.hid hall
        clear hall
        by_cases hjl : j < t.length ∧ t[j]! < T
        · obtain ⟨hjl, hless⟩ := hjl
          rw [getElem!_pos t j hjl] at hless
          obtain ⟨g, o, rfl, hg, hcl⟩ := HC1.out (by omega)
          have s0 := hcl j hjl
          have b1 : Op.bytesLess t[j] T = true := by rw [less_topsOf]; simpa using hless
          have HLS := Lib.hid hless
          clear hcl hless
          go_wp2_with (fail)
          go_light
          refine ⟨⟨j + 1, by omega, by go_num, fun x hx => ?_⟩, by simp [intOf]; omega⟩
          rw [List.take_succ_eq_append_getElem hjl] at hx
          rcases List.mem_append.1 hx with hx | hx
          · exact HA.out x hx
          · simp only [List.mem_singleton] at hx; subst hx; exact HLS.out
        · have HJ : Hid (lessN T t = j) := by
            show _ = _
            by_cases hj2 : j < t.length
            · refine lessN_at T t j hj2 HA.out (fun h => hjl ⟨hj2, ?_⟩)
              rwa [getElem!_pos t j hj2]
            · rw [lessN_all T t (by have := HA.out; rwa [List.take_of_length_le (by omega)] at this)]; omega
          have hjle : j ≤ t.length := hj
          have HT1 : Hid (NmR w1 (.slice a3 j c3) (t.take j)) := by
            show NmR _ _ _
            have h1 := HN1.out.1.cut 0 j 0 (by omega) (Nat.zero_le _) hjle
            have h2 := Shp.cut (m := 0) HN1.out.2 (Nat.zero_le j) hjle
            have e : cutAd a3 c3 0 0 = a3 := by
              unfold cutAd
              split
              · rfl
              · cases a3 with
                | none => rfl
                | some ad => simp [Addr.add]
            rw [e] at h1 h2
            simp only [Nat.sub_zero, List.drop_zero, Nat.mul_one, ← List.map_take] at h1 h2
            exact ⟨by rw [List.length_take, Nat.min_eq_left hjle]; exact h1, h2⟩
          have HT2 : Hid (NmR w1 (.slice (cutAd a3 c3 j j) (t.length - j) (c3 - j)) (t.drop j)) := by
            show NmR _ _ _
            have h1 := HN1.out.1.cut j t.length j (by omega) hjle (Nat.le_refl _)
            have h2 := Shp.cut (m := j) HN1.out.2 hjle (Nat.le_refl _)
            rw [Nat.mul_one, ← List.map_drop, List.take_of_length_le (by simp)] at h1
            exact ⟨by rw [List.length_drop]; exact h1, h2⟩
          have HLN : Hid ((t.take j).length ≤ 1000000 ∧ (t.drop j).length ≤ 1000000) := by show _ ∧ _; simp only [List.length_take, List.length_drop]; omega
          have HO1 := Lib.hid (enc_one [T])
          have HP1 : Hid ((0 : Int) ≤ j ∧ (j : Int) ≤ c3) := ⟨by omega, by omega⟩
          have HP2 : Hid ((0 : Int) ≤ (t.length : Int) ∧ (t.length : Int) ≤ c3) := ⟨by omega, by omega⟩
          have HP3 : Hid (j ≤ t.length) := hjle
          by_cases hT0 : T = []
          · subst hT0
            have HE : Hid (topIns t [] = t) := by show _ = _; unfold topIns; rw [if_pos rfl]
            have hcases : (∃ hj2 : j < t.length, Op.bytesLess t[j] [] = false) ∨ ¬ j < t.length := by
              by_cases hj2 : j < t.length
              · exact .inl ⟨hj2, by cases t[j] <;> rfl⟩
              · exact .inr hj2
            clear hjl
            rcases hcases with ⟨hj2, b1⟩ | hj2
            focus
              obtain ⟨g, o, rfl, hg, hcl⟩ := HC1.out (by omega)
              have s0 := hcl j hj2
              clear hcl
            all_goals
              go_wp2_with (fail)
              go_light
              exact ⟨⟨k + 1, by omega, by go_num, by rw [HSN.out, HE.out]; exact HN1.out, HX1.out⟩, by simp [intOf]; omega⟩
          · have n1 : List.isEmpty T = false := by cases T with | nil => exact absurd rfl hT0 | cons _ _ => rfl
            have n2 : (!List.isEmpty T) = true := by rw [n1]; rfl
            by_cases hin : t[j]? = some T
            · obtain ⟨hj2, htj⟩ := List.getElem?_eq_some_iff.1 hin
              have HE : Hid (topIns t T = t) := by show _ = _; unfold topIns; rw [if_neg hT0, HJ.out, if_pos hin]
              obtain ⟨g, o, rfl, hg, hcl⟩ := HC1.out (by omega)
              have s0 := hcl j hj2
              rw [htj] at s0
              have b1 : Op.bytesLess T T = false := by rw [less_topsOf]; simp
              have b2 : (T == T) = true := by simp
              clear hcl hin htj hjl
              go_wp2_with (fail)
              go_light
              exact ⟨⟨k + 1, by omega, by go_num, by rw [HSN.out, HE.out]; exact HN1.out, HX1.out⟩, by simp [intOf]; omega⟩
            · have HE : Hid (topIns t T = t.take j ++ T :: t.drop j) := by show _ = _; unfold topIns; rw [if_neg hT0, HJ.out, if_neg hin]
              have hcases : (∃ hj2 : j < t.length, Op.bytesLess t[j] T = false ∧ (t[j] == T) = false) ∨ ¬ j < t.length := by
                by_cases hj2 : j < t.length
                · refine .inl ⟨hj2, ?_, ?_⟩
                  · rw [less_topsOf]
                    have : ¬ t[j] < T := fun h => hjl ⟨hj2, by rwa [getElem!_pos t j hj2]⟩
                    simpa using this
                  · have : t[j] ≠ T := fun e => hin (by rw [List.getElem?_eq_getElem hj2, e])
                    simpa using this
                · exact .inr hj2
              clear hjl hin
              rcases hcases with ⟨hj2, b1, b2⟩ | hj2
              focus
                obtain ⟨g, o, rfl, hg, hcl⟩ := HC1.out (by omega)
                have s0 := hcl j hj2
                have HP4 : Hid (¬ c3 = j) := by show ¬ _; omega
                have HT3 : Hid (NmR w1 (.slice (some ⟨g, o + j, none⟩) (t.length - j) (c3 - j)) (t.drop j)) := by
                  have h := HT2.out
                  have e : cutAd (some ⟨g, o, none⟩) c3 j j = some ⟨g, o + j, none⟩ := by
                    unfold cutAd
                    rw [if_neg (by omega)]
                    by_cases h0 : j = 0 <;> simp [Addr.add, h0]
                  rw [e] at h
                  exact h
                clear hcl
                go_upto_region 10 with (fail)
              rotate_left
              focus
                have HT3 := Lib.hid HT2.out
                have HP4 : Hid True := trivial
                go_upto_region 10 with (fail)
              all_goals
                refine' wp_region_dagK 12 [(53, [49], [56]), (56, [53, 55], [49, 60]), (60, [56], [53, 55])] ((49, ⟨fun _ => True, fun v w => Fresh0 w1.heap.size 9 1 v w⟩) :: (50, .val _) :: (51, .val _) :: (52, .val _) :: (53, ⟨fun _ => True, fun v w => w.ownsRow w1.heap.size 9 1 v (t.take j).length ((t.take j).map encStr)⟩) :: (54, .val _) :: (55, ⟨fun _ => True, fun v w => BoxL w1.heap.size 9 1 [.string ⟨T.toArray⟩] v w⟩) :: (56, ⟨fun _ => True, fun v w => w.ownsRow w1.heap.size 9 1 v ((t.take j).length + 1) ((t.take j).map encStr ++ [.string ⟨T.toArray⟩])⟩) :: (57, .val _) :: (58, .val _) :: (59, .val _) :: (60, ⟨fun v => ∃ a l c, v = .slice a l c, fun v w => w.ownsRow w1.heap.size 9 1 v (t.take j ++ T :: t.drop j).length ((t.take j ++ T :: t.drop j).map encStr)⟩) :: []) (by exact ⟨fun _ _ _ hr hv => hv.ext hr, ⟨fun _ _ _ _ _ => trivial, ⟨fun _ _ _ _ _ => trivial, ⟨fun _ _ _ _ _ => trivial, ⟨fun _ _ _ hr hv => ownsRow.ext hv hr, ⟨fun _ _ _ _ _ => trivial, ⟨fun _ _ _ hr hv => hv.ext hr, ⟨fun _ _ _ hr hv => ownsRow.ext hv hr, ⟨fun _ _ _ _ _ => trivial, ⟨fun _ _ _ _ _ => trivial, ⟨fun _ _ _ _ _ => trivial, ⟨fun _ _ _ hr hv => ownsRow.ext hv hr, trivial⟩⟩⟩⟩⟩⟩⟩⟩⟩⟩⟩⟩) (by kernel_rfl) (by kernel_rfl) (by kernel_rfl) ?_
                rotate_left 7
                simp only [List.take_succ_cons, List.take_zero]
                repeat (first
                  | (refine wpD_skipv ?_ ?_ ?_
                     focus rfl
                     focus rfl
                     simp only [Act.put, List.setIfInBounds_toArray, List.set_cons_succ, List.set_cons_zero])
                  | (refine' wpD_val (c := _) ?_ (fun w => Kp.refl _ w) ?_ (fun wq hwq hfq => ?_) ?_
                     rotate_left
                     focus rfl
                     focus rfl
                     focus (have p1 := HP1.out; have p2 := HP2.out; have p3 := HP3.out; have p4 := HP4.out; go_simp; first | done | rfl)
                     simp only [Act.put, List.setIfInBounds_toArray, List.set_cons_succ, List.set_cons_zero])
                  | (refine' wpD_con (c := _) ?_ ?_ (fun wq hwq hfq => ?_) ?_
                     rotate_left
                     focus rfl
                     focus rfl
                     focus (have p1 := HP1.out; have p2 := HP2.out; have p3 := HP3.out; have p4 := HP4.out; go_simp; (try (rw [dUpon_enter])); fail)
                     simp only [Act.put, List.setIfInBounds_toArray, List.set_cons_succ, List.set_cons_zero])
                  | (refine wpD_made (A := fun _ => True) (V := fun v w => Fresh0 w1.heap.size 9 1 v w) 49 ?_ ?_ ?_ ?_ (fun wq hwq hfq => ?_) (fun v49 h49 => ?_)
                     focus rfl
                     focus rfl
                     focus (exact ⟨undef, trivial⟩)
                     focus rfl
                     focus (have p1 := HP1.out; have p2 := HP2.out; have p3 := HP3.out; have p4 := HP4.out; go_simp; (try (rw [dUpon_enter])); rw [dUpon_value]; exact mPost trivial (Fresh0.new hwq.size) ((Kp.refl _ _).alloc _))
                     clear h49
                     simp only [Act.put, List.setIfInBounds_toArray, List.set_cons_succ, List.set_cons_zero])
                  | (refine wpD_used (A := fun _ => True) (V := fun v w => w.ownsRow w1.heap.size 9 1 v (t.take j).length ((t.take j).map encStr)) 53 ?_ ?_ ?_ ?_ (fun wq hwq hfq => ?_) (fun v53 h53 => ?_)
                     focus rfl
                     focus rfl
                     focus (exact ⟨undef, trivial⟩)
                     focus rfl
                     focus (have p1 := HP1.out; have p2 := HP2.out; have p3 := HP3.out; have p4 := HP4.out; refine dUpon_app (d := 53) rfl (by kernel_rfl) 35 9 1 (by decide) str_facts1 rfl _ _ rfl w1.heap.size v49 0 [] rfl (hfq 49 rfl).1 _ (t.take j).length ((t.take j).map encStr) rfl (Sl.kp HT1.out.1 hwq (fun i _ hi hge => absurd hi (Nat.not_lt.2 hge))) HT1.out.2 (enc_one _) (by have := HLN.out; omega) hwq.size (fun v' w' h1 h2 => ⟨trivial, by simpa using h1, h2.over (owns_base (hfq 49 rfl).1), ?_⟩); repeat (first | exact PresL.nil | (with_reducible refine PresL.val ?_) | (refine PresL.out rfl ?_) | (refine PresL.keep (fun u hu => BoxL.kp0 hu (by simp) (hfq 49 rfl) h2) ?_) | (refine PresL.keep (fun u hu => owns_kp0 hu (by simp; omega) (by decide) (hfq 49 rfl) h2) ?_)))
                     clear h53
                     simp only [Act.put, List.setIfInBounds_toArray, List.set_cons_succ, List.set_cons_zero])
                  | (refine wpD_made (A := fun _ => True) (V := fun v w => BoxL w1.heap.size 9 1 [.string ⟨T.toArray⟩] v w) 55 ?_ ?_ ?_ ?_ (fun wq hwq hfq => ?_) (fun v55 h55 => ?_)
                     focus rfl
                     focus rfl
                     focus (exact ⟨undef, trivial⟩)
                     focus rfl
                     focus (have p1 := HP1.out; have p2 := HP2.out; have p3 := HP3.out; have p4 := HP4.out; go_simp; (try (rw [dUpon_enter])); rw [dUpon_value]; exact mPost trivial (BoxL.new hwq.size) ((Kp.refl _ _).alloc _))
                     clear h55
                     simp only [Act.put, List.setIfInBounds_toArray, List.set_cons_succ, List.set_cons_zero])
                  | (refine wpD_used (A := fun _ => True) (V := fun v w => w.ownsRow w1.heap.size 9 1 v ((t.take j).length + 1) ((t.take j).map encStr ++ [.string ⟨T.toArray⟩])) 56 ?_ ?_ ?_ ?_ (fun wq hwq hfq => ?_) (fun v56 h56 => ?_)
                     focus rfl
                     focus rfl
                     focus (exact ⟨undef, trivial⟩)
                     focus rfl
                     focus (have p1 := HP1.out; have p2 := HP2.out; have p3 := HP3.out; have p4 := HP4.out; refine dUpon_app (d := 56) rfl (by kernel_rfl) 35 9 1 (by decide) str_facts1 rfl _ _ rfl w1.heap.size v53 _ _ rfl (hfq 53 rfl) v55 1 [.string ⟨T.toArray⟩] rfl (BoxL.sl (k := 1) (hfq 55 rfl) rfl (by decide)).1 (BoxL.sl (k := 1) (hfq 55 rfl) rfl (by decide)).2 HO1.out (by have := HLN.out; omega) hwq.size (fun v' w' h1 h2 => ⟨trivial, h1, h2.over (owns_base (hfq 53 rfl)), ?_⟩); repeat (first | exact PresL.nil | (with_reducible refine PresL.val ?_) | (refine PresL.out rfl ?_) | (refine PresL.keep (fun u hu => hu) ?_)))
                     clear h56
                     simp only [Act.put, List.setIfInBounds_toArray, List.set_cons_succ, List.set_cons_zero])
                  | (refine wpD_used (A := fun v => ∃ a l c, v = .slice a l c) (V := fun v w => w.ownsRow w1.heap.size 9 1 v (t.take j ++ T :: t.drop j).length ((t.take j ++ T :: t.drop j).map encStr)) 60 ?_ ?_ ?_ ?_ (fun wq hwq hfq => ?_) (fun v60 h60 => ?_)
                     focus rfl
                     focus rfl
                     focus (exact ⟨.slice none 0 0, _, _, _, rfl⟩)
                     focus rfl
                     focus (have p1 := HP1.out; have p2 := HP2.out; have p3 := HP3.out; have p4 := HP4.out; refine dUpon_app (d := 60) rfl (by kernel_rfl) 35 9 1 (by decide) str_facts1 rfl _ _ rfl w1.heap.size v56 _ _ rfl (hfq 56 rfl) _ (t.drop j).length ((t.drop j).map encStr) rfl (Sl.kp HT3.out.1 hwq (fun i _ hi hge => absurd hi (Nat.not_lt.2 hge))) HT3.out.2 (enc_one _) (by have := HLN.out; omega) hwq.size (fun v' w' h1 h2 => ⟨by obtain ⟨a, c, e, _⟩ := Sl.open (Sl.of_owns h1); exact ⟨_, _, _, e⟩, by have := h1; simpa [Nat.add_assoc, Nat.add_comm 1] using this, h2.over (owns_base (hfq 56 rfl)), ?_⟩); repeat (first | exact PresL.nil | (with_reducible refine PresL.val ?_) | (refine PresL.out rfl ?_) | (refine PresL.keep (fun u hu => Fresh0.keep hu (hfq 56 rfl) (by omega) (by decide) h2) ?_)))
                     obtain ⟨a60, l60, c60, rfl⟩ := h60
                     simp only [Act.put, List.setIfInBounds_toArray, List.set_cons_succ, List.set_cons_zero])
                  | fail)
                refine wpD_nil ?_
                intro w2 hx2 hend
                have ho : w2.ownsRow w1.heap.size 9 1 (.slice a60 l60 c60) (t.take j ++ T :: t.drop j).length ((t.take j ++ T :: t.drop j).map encStr) := hend 60 (by kernel_rfl)
                have HN2 : Hid (NmR w2 (.slice a60 l60 c60) (t.take j ++ T :: t.drop j)) := ⟨Sl.of_owns ho, shp_owns ho⟩
                have HX2 : Hid (Ext w w2) := HX1.out.next hx2 (fun i hi hge => by have := HX1.out.size; omega)
                clear hend ho hx2
                go_wp2_with (fail)
                go_light
                exact ⟨⟨k + 1, by omega, by go_num, by rw [HSN.out, HE.out]; exact HN2.out, HX2.out⟩, by simp [intOf]; omega⟩
    · obtain rfl : k = xs.length := by omega
      have e : topsTo xs xs.length = topsOf (xs.map fun o => topL o.path.data.toList) := by unfold topsTo; rw [List.take_length]
      have HE := Lib.hid e
      clear e hop3
      go_wp2_with (fail)
      go_ret
      go_light
      refine ⟨_, rfl, ?_, HXR.out⟩
      rw [← HE.out]
      exact HNM.out
end Go.Proofs.YtlcbllgmnbhphaaGreatDoor
